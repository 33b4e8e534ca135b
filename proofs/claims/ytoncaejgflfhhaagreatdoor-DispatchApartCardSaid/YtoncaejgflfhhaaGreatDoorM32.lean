/- dispatch's Flush. | dispatch.Find's plain law, and its memory. No program here. -/
import Derived.Test.YtoncaejgflfhhaaGreatDoorM31
import Derived.Test.YtoncaejgflfhhaaGreatDoorM30
import Derived.Test.YtoncaejgflfhhaaGreatDoorM01
set_option linter.unusedVariables false
set_option linter.unusedSimpArgs false
namespace Go.Proofs.YtoncaejgflfhhaaGreatDoor
open Go.RowKit

/-- copied, in the spelling of the walks. -/
theorem copied30' (s : St) (g c : Value) (l : List (List (Key × Ent))) (hl : l = (copiedS s).caches) (w' : World) (h : rSt.K w' s [g, .int .i64 s.hits, .int .i64 s.misses, c, .int .i64 s.most, .int .i64 s.clock]) (hg : s.gens.length ≤ 100000) (hc : s.caches.length ≤ 100000) :
    Calls Tryz.prog 30 #[.agg #[g, .int .i64 s.hits, .int .i64 s.misses, c, .int .i64 s.most, .int .i64 s.clock]] w' (fun e w'' => ∃ v c, e = .returned (.agg #[v, .int .i64 s.hits, .int .i64 s.misses, c, .int .i64 s.most, .int .i64 s.clock]) ∧ Own 80 rGen w'.heap.size w'' v s.gens ∧ Own 119 rMap w'.heap.size w'' c l ∧ Below w'.heap.size w' w'') :=
  (copied30 s _ w' h hg hc).mono (by rintro e w1 ⟨cs1, rfl, ⟨v, c, rfl, h1, h2, _⟩, hB⟩; exact ⟨v, c, rfl, h1, by rw [hl]; exact h2, hB⟩)

def hits (g : Int) (i : Nat) : Bool := decide ((i : Int) = g) || decide (g = -1)
def flushTo (g : Int) (j : Nat) (l : List (List (Key × Ent))) : List (List (Key × Ent)) := l.mapIdx fun i c => if decide (i < j) && hits g i then [] else c
def flushS (s : St) (g : Int) : St := { copiedS s with caches := flushTo g (copiedS s).caches.length (copiedS s).caches }
theorem flushTo_length (g : Int) (j : Nat) (l : List (List (Key × Ent))) : (flushTo g j l).length = l.length := by simp [flushTo]
theorem flushTo_zero (g : Int) (l : List (List (Key × Ent))) : flushTo g 0 l = l := by
  unfold flushTo
  refine List.ext_getElem (by simp) fun i h1 h2 => by simp
theorem flushTo_yes {g : Int} {j : Nat} {l : List (List (Key × Ent))} (hh : hits g j = true) : (flushTo g j l).set j [] = flushTo g (j + 1) l := by
  unfold flushTo
  refine List.ext_getElem (by simp) fun i h1 h2 => ?_
  simp only [List.getElem_set, List.getElem_mapIdx]
  by_cases hij : j = i
  · subst hij
    simp [hh]
  · rw [if_neg hij]
    have : decide (i < j) = decide (i < j + 1) := by
      by_cases h : i < j
      · simp [h]; omega
      · simp [h]; omega
    rw [this]
theorem flushTo_no {g : Int} {j : Nat} {l : List (List (Key × Ent))} (hh : hits g j = false) : flushTo g j l = flushTo g (j + 1) l := by
  unfold flushTo
  refine List.ext_getElem (by simp) fun i h1 h2 => ?_
  simp only [List.getElem_mapIdx]
  by_cases hij : j = i
  · subst hij
    simp [hh]
  · have : decide (i < j) = decide (i < j + 1) := by
      by_cases h : i < j
      · simp [h]; omega
      · simp [h]; omega
    rw [this]

set_option maxHeartbeats 1000000 in
set_option maxRecDepth 100000 in
theorem flush18 (s : St) (cs : List Value) (g : Int) (w : World) (h : rSt.K w s cs) (hg : s.gens.length ≤ 100000) (hc : s.caches.length ≤ 100000) :
    Calls Tryz.prog 18 #[rSt.val cs, .int .i64 g] w (R1 rSt (flushS s g) w) := by
  unfold flushS
  obtain ⟨l, hl⟩ : ∃ l, l = (copiedS s).caches := ⟨_, rfl⟩
  rw [← hl]
  have hlb : l.length ≤ 100000 := by rw [hl]; exact padC_length_le _ _ _ hc hg
  obtain ⟨sg, sc, rfl, h1, h2, h3⟩ := h
  have H := Lib.hid (fun w' (hb : Below w.heap.size w w') => copied30' s sg sc l hl w' ⟨_, _, rfl, K_below h1 hb, K_below h2 hb, h3⟩ hg hc)
  obtain ⟨A0, k0, rfl⟩ := slice_form h1
  obtain ⟨B0, m0, rfl⟩ := slice_form h2
  have HS := Lib.hid h3
  have HL := Lib.hid hlb
  rw [rSt_val]
  clear h1 h2 h3 hl hlb hc hg
  obtain ⟨W0, hW0⟩ : ∃ W, W = (w.alloc (.cells #[.slice A0 s.gens.length k0, .int .i64 s.hits, .int .i64 s.misses, .slice B0 s.caches.length m0, .int .i64 s.most, .int .i64 s.clock] 28)).alloc (.cells #[.slice none 0 0, .int .i64 0, .int .i64 0, .slice none 0 0, .int .i64 0, .int .i64 0] 28) := ⟨_, rfl⟩
  have hB0 : Below w.heap.size w W0 := hW0 ▸ below_more (below_one _ _) _
  have b0 : Box W0 w.heap.size 28 [.slice A0 s.gens.length k0, .int .i64 s.hits, .int .i64 s.misses, .slice B0 s.caches.length m0, .int .i64 s.most, .int .i64 s.clock] := hW0 ▸ (Box.mk_ _ rfl rfl).alloc _
  have b1 : Box W0 (w.heap.size + 1) 28 [.slice none 0 0, .int .i64 0, .int .i64 0, .slice none 0 0, .int .i64 0, .int .i64 0] := hW0 ▸ Box.mk_ _ (by simp) rfl
  have HW0 := Lib.hid hW0
  clear hW0
  obtain ⟨p0, p1, p2, p3, p4, p5, pf, pl⟩ := b0.six
  go_enter Tryz.func18, Tryz.ntmps18
  go_wp2_with (first
    | (go_at_call 30; rw [← HW0.out]; refine (H.out _ hB0).mono ?_; rintro e w1 ⟨v1, v2, rfl, hO1, hO2, hB1⟩; have hT1 := below_to hB0 hB1; obtain ⟨A1, k1, rfl, _⟩ := hO1.row; obtain ⟨A2, k2, rfl, _⟩ := hO2.row; have x0 := b0.later hB1; have y0 := b1.later hB1; have oc1 : ∀ u ∈ [Value.slice A1 s.gens.length k1, .int .i64 s.hits, .int .i64 s.misses, .slice A2 l.length k2, .int .i64 s.most, .int .i64 s.clock], u.oneCell' = true := (by simp [Value.oneCell']))
    | (refine wp_box_store rfl 28 _ _ rfl (us := [.slice A1 s.gens.length k1, .int .i64 s.hits, .int .i64 s.misses, .slice A2 l.length k2, .int .i64 s.most, .int .i64 s.clock]) rfl rfl x0 siz28 rfl oc1 ?_; intro w2 x2 hc2; have y2 := hc2.box y0 (by omega); have hO3 := hc2.own hO1 (by decide) rfl; have hO4 := hc2.own hO2 (by decide) rfl; have hT2 := hc2.below hT1 (Nat.le_refl _); clear p0 p1 p2 p3 p4 p5 pf pl; obtain ⟨q0, q1, q2, q3, q4, q5, qf, ql⟩ := x2.six)
    | go_in)
  have hA1 := hO4.lower hB0.size
  have hA2 := hO3.lower hB0.size
  clear q0 q1 q2 q3 q4 q5 qf ql hO1 hO2 hO3 hO4 x0 y0 b0 b1 hT1 hB1 hc2 H oc1
  go_loopw [11] (fun r wr => ∃ (j : Nat) (m : List (List (Key × Ent))), j ≤ l.length ∧ m = flushTo g j l ∧ r = .int .i64 j ∧ Box wr w.heap.size 28 [.slice A1 s.gens.length k1, .int .i64 s.hits, .int .i64 s.misses, .slice A2 l.length k2, .int .i64 s.most, .int .i64 s.clock] ∧
      Box wr (w.heap.size + 1) 28 [.slice none 0 0, .int .i64 0, .int .i64 0, .slice none 0 0, .int .i64 0, .int .i64 0] ∧ Own 119 rMap w.heap.size wr (.slice A2 l.length k2) m ∧ Own 80 rGen w.heap.size wr (.slice A1 s.gens.length k1) s.gens ∧ Below w.heap.size w wr) (fun r _ => l.length - (intOf r).toNat)
  case atStart => exact ⟨0, _, Nat.zero_le _, rfl, rfl, x2, y2, by rw [flushTo_zero]; exact hA1, hA2, hT2⟩
  case round =>
    obtain ⟨j, m, hj, hm, rfl, x, y, hO, hG, hB⟩ := hrel
    have hml : m.length = l.length := by rw [hm, flushTo_length]
    have HM := Lib.hid (And.intro hm hml)
    clear hm hml hA1 hA2 hT2 x2 y2
    have hb9 := HL.out
    by_cases hlt : j < l.length
    · obtain ⟨B2, rfl⟩ : ∃ B2, A2 = some ⟨B2, 0, none⟩ := by
        obtain ⟨B2, kk, hv⟩ := hO.shape (fun hn => by have := HM.out.2; rw [hn] at this; simp at this; omega)
        rw [HM.out.2] at hv
        cases hv
        exact ⟨B2, rfl⟩
      obtain ⟨u0, gc0, gf, gl, _⟩ := hO.get1 HM.out.2.symm rfl j hlt
      obtain ⟨q0, q1, q2, q3, q4, q5, qf, ql⟩ := x.six
      by_cases e1 : (j : Int) = g
      · have hh : hits g j = true := by simp [hits, e1]
        have eb : ((j : Int) == g) = true := by simpa using e1
        clear e1
        go_wp2
        obtain ⟨hP, hPg, hPs⟩ := hO.put1 HM.out.2.symm rfl hlt (x := []) (u := .map none) (.inl ⟨rfl, rfl⟩) rfl
        have c4 := hO.chg hPg hPs (by simp [World.setCell])
        have hT4 := c4.below hB (hO.ge B2 rfl).1
        have x4 := c4.box_ty x (by decide)
        have y4 := c4.box_ty y (by decide)
        have hG4 := c4.own hG (by decide) rfl
        go_roundw
        case rel => exact ⟨j + 1, _, by omega, by rw [HM.out.1]; exact flushTo_yes hh, by go_num, x4, y4, hP, hG4, hT4⟩
        case measure => simp [intOf]; omega
      · have eb : ((j : Int) == g) = false := by simpa using e1
        by_cases e2 : g = -1
        · have hh : hits g j = true := by simp [hits, e2]
          have ec : (g == -1) = true := by simpa using e2
          clear e1 e2
          go_wp2
          obtain ⟨hP, hPg, hPs⟩ := hO.put1 HM.out.2.symm rfl hlt (x := []) (u := .map none) (.inl ⟨rfl, rfl⟩) rfl
          have c4 := hO.chg hPg hPs (by simp [World.setCell])
          have hT4 := c4.below hB (hO.ge B2 rfl).1
          have x4 := c4.box_ty x (by decide)
          have y4 := c4.box_ty y (by decide)
          have hG4 := c4.own hG (by decide) rfl
          go_roundw
          case rel => exact ⟨j + 1, _, by omega, by rw [HM.out.1]; exact flushTo_yes hh, by go_num, x4, y4, hP, hG4, hT4⟩
          case measure => simp [intOf]; omega
        · have hh : hits g j = false := by simp [hits, e1, e2]
          have ec : (g == -1) = false := by simpa using e2
          clear e1 e2
          go_wp2
          go_roundw
          case rel => exact ⟨j + 1, _, by omega, by rw [HM.out.1]; exact flushTo_no hh, by go_num, x, y, hO, hG, hB⟩
          case measure => simp [intOf]; omega
    · have hj' : j = l.length := by omega
      subst hj'
      obtain ⟨q0, q1, q2, q3, q4, q5, qf, ql⟩ := x.six
      obtain ⟨t0, t1, t2, t3, t4, t5, tf, tl⟩ := y.six
      go_wp2
      refine bodyPost_ret (v := .agg #[.slice A1 s.gens.length k1, .int .i64 s.hits, .int .i64 s.misses, .slice A2 l.length k2, .int .i64 s.most, .int .i64 s.clock]) ?_ rfl ?_
      · simp [results, Tryz.results18, go_sem, t0, t1, t2, t3, t4, t5]
      · refine ⟨[.slice A1 s.gens.length k1, .int .i64 s.hits, .int .i64 s.misses, .slice A2 l.length k2, .int .i64 s.most, .int .i64 s.clock], ?_, ?_, ?_⟩
        · rfl
        · refine ⟨_, _, rfl, ?_, ?_, HS.out⟩
          · have := K_put (d := sGen) rfl [.slice A1 s.gens.length k1, .int .i64 s.hits, .int .i64 s.misses, .slice A2 l.length k2, .int .i64 s.most, .int .i64 s.clock] 0 hG.read y
            exact this
          · have := K_put (d := sMap) rfl [.slice A1 s.gens.length k1, .int .i64 s.hits, .int .i64 s.misses, .slice A2 l.length k2, .int .i64 s.most, .int .i64 s.clock] 0 (by have := hO.read; rw [HM.out.1] at this; exact this) y
            exact this
        · have := below_put (b := w.heap.size + 1) (by omega) [.slice A1 s.gens.length k1, .int .i64 s.hits, .int .i64 s.misses, .slice A2 l.length k2, .int .i64 s.most, .int .i64 s.clock] 0 hB
          exact this
end Go.Proofs.YtoncaejgflfhhaaGreatDoor
namespace Go.Proofs.YtoncaejgflfhhaaGreatDoor
open Go.RowKit

/-! ### The plain law -/
/-- The entry that is found and still good. -/
def hitE (c : CS) (g : Gen) (args : List Arg) (cache : List (Key × Ent)) : Option Ent :=
  match aget (looksS g args) cache with
  | none => none
  | some x => if x.stamp = stampS c ∧ g.req ≤ args.length ∧ knownS c args = true then some x else none
/-- The cache behind a call: kd is the key of the oldest entry. -/
def cacheS (most : Int) (now : Int) (k kd : Key) (x : Ent) (hit : Bool) (cache : List (Key × Ent)) : List (Key × Ent) :=
  if 0 < most then aput k x (if hit = false ∧ fresh now cache ≠ [] ∧ most ≤ (fresh now cache).length then adel kd (fresh now cache) else fresh now cache)
  else (if hit = false ∧ fresh now cache ≠ [] ∧ most ≤ (fresh now cache).length then adel kd (fresh now cache) else fresh now cache)
/-- The state behind a call that came to an entry. -/
def tailS (s : St) (n : Nat) (now : Int) (k kd : Key) (x : Ent) (hit : Bool) : St := { s with caches := s.caches.set n (cacheS s.most now k kd x hit (s.caches.getD n [])) }
def tickS (s : St) : St := { copiedS s with clock := s.clock + 1 }
def findS (s : St) (c : CS) (n : Nat) (g : Gen) (args : List Arg) (kd : Key) : St × Plan × Int :=
  match hitE c g args ((copiedS s).caches.getD n []) with
  | some x => (tailS { tickS s with hits := s.hits + 1 } n (stampS c) (looksS g args) kd { x with used := s.clock + 1 } true, x.plan, 0)
  | none =>
    if (effS c g args).2 = 0 then (tailS { tickS s with misses := s.misses + 1 } n (stampS c) (looksS g args) kd ⟨(effS c g args).1, stampS c, s.clock + 1⟩ false, (effS c g args).1, 0)
    else ({ tickS s with misses := s.misses + 1 }, emptyPlan, (effS c g args).2)
/-- kd is the key of an entry that is not younger than any other. -/
def Oldest (kd : Key) (l : List (Key × Ent)) : Prop := l ≠ [] → ∃ x, (kd, x) ∈ l ∧ ∀ q ∈ l, x.used ≤ q.2.used

/-- What Find asks of its arguments. -/
structure okFind (s : St) (c : CS) (n : Nat) (g : Gen) (args : List Arg) : Prop where
  st : okSt s
  cs : okCS c
  gen : s.gens[n]? = some g
  req : 0 ≤ g.req
  args : args.length ≤ 1000
  specs : ∀ m ∈ g.meths, m.specs.length ≤ 1000
  nums : 0 ≤ s.hits ∧ s.hits ≤ 1000000 ∧ 0 ≤ s.misses ∧ s.misses ≤ 1000000 ∧ 0 ≤ s.clock ∧ s.clock ≤ 1000000
  plans : ∀ p ∈ s.caches.getD n [], okPlan p.2.plan ∧ 0 ≤ p.2.used
  meths : g.meths.length ≤ 1000

/-! ### Rows of maps by their headers -/
def Rp.mapH : Rp (Option Nat) := Rp.scalar Value.map (fun _ => True) (fun _ => rfl)
theorem L_hdrs {w : World} : ∀ {xs : List (List (Key × Ent))} {cs : List Value}, rMap.L w xs cs → ∃ hs : List (Option Nat), Rp.mapH.L w hs cs ∧ hs.length = xs.length ∧ ∀ (i : Nat) x, xs[i]? = some x → ∃ h, hs[i]? = some h ∧ rMap.K w x [.map h]
  | [], _, h => ⟨[], h, rfl, fun i x hx => by simp at hx⟩
  | x :: xs, _, ⟨c, r, h, hk, hl⟩ => by
    obtain ⟨hs, h1, h2, h3⟩ := L_hdrs hl
    obtain ⟨u, rfl⟩ := Rp.cell1 hk rfl
    have hu : ∃ hd, u = .map hd := by
      rcases rMap_iff.1 hk with ⟨rfl, _⟩ | ⟨r, rfl, _⟩
      · exact ⟨none, rfl⟩
      · exact ⟨some r, rfl⟩
    obtain ⟨hd, rfl⟩ := hu
    refine ⟨hd :: hs, ⟨[.map hd], r, h, ⟨rfl, trivial⟩, h1⟩, by simp [h2], fun i y hy => ?_⟩
    match i, hy with
    | 0, hy => simp at hy; subst hy; exact ⟨hd, rfl, hk⟩
    | i + 1, hy => exact h3 i y (by simpa using hy)
theorem L_unhdrs {w : World} : ∀ {hs : List (Option Nat)} {xs : List (List (Key × Ent))} {cs : List Value}, Rp.mapH.L w hs cs → hs.length = xs.length → (∀ (i : Nat) x, xs[i]? = some x → ∃ h, hs[i]? = some h ∧ rMap.K w x [.map h]) → rMap.L w xs cs
  | [], [], _, h, _, _ => h
  | [], _ :: _, _, _, h, _ => by simp at h
  | _ :: _, [], _, _, h, _ => by simp at h
  | hd :: hs, x :: xs, _, ⟨c, r, h, hk, hl⟩, hlen, hx => by
    obtain ⟨rfl, _⟩ := hk
    obtain ⟨h', h1, h2⟩ := hx 0 x rfl
    have e : hd = h' := by simpa using h1
    subst e
    exact ⟨_, r, h, h2, L_unhdrs hl (by simpa using hlen) fun i y hy => hx (i + 1) y (by simpa using hy)⟩
theorem Own.hdrs {base : Nat} {w : World} {v : Value} {xs : List (List (Key × Ent))} (h : Own 119 rMap base w v xs) : ∃ hs : List (Option Nat), Own 119 Rp.mapH base w v hs ∧ hs.length = xs.length ∧ ∀ (i : Nat) x, xs[i]? = some x → ∃ h, hs[i]? = some h ∧ rMap.K w x [.map h] := by
  obtain ⟨cs, hl, ho⟩ := h
  obtain ⟨hs, h1, h2, h3⟩ := L_hdrs hl
  exact ⟨hs, ⟨cs, h1, by rw [h2]; exact ho⟩, h2, h3⟩
theorem Own.unhdrs {base : Nat} {w : World} {v : Value} {hs : List (Option Nat)} {xs : List (List (Key × Ent))} (h : Own 119 Rp.mapH base w v hs) (hl : hs.length = xs.length) (hx : ∀ (i : Nat) x, xs[i]? = some x → ∃ h, hs[i]? = some h ∧ rMap.K w x [.map h]) : Own 119 rMap base w v xs := by
  obtain ⟨cs, hL, ho⟩ := h
  exact ⟨cs, L_unhdrs hL hl hx, by rw [← hl]; exact ho⟩

theorem Chg.refl_box {w : World} {b t : Nat} {cs : List Value} (h : Box w b t cs) : Chg b t w w := ⟨⟨_, h, rfl⟩, World.grownBy.refl w _, fun _ _ => Same.refl _ _, rfl⟩
theorem Chg.trans {w w1 w2 : World} {b t : Nat} (h : Chg b t w w1) (k : Chg b t w1 w2) : Chg b t w w2 := ⟨h.was, h.grown.trans k.grown, fun E hE => (h.same E hE).trans (k.same E hE), k.size.trans h.size⟩
theorem Box.putTo {b t : Nat} : ∀ (us : List Value) (w : World) (cs : List Value) (j : Nat), Box w b t cs → j + us.length ≤ cs.length → Box (putCells w b j us) b t (cs.take j ++ us ++ cs.drop (j + us.length)) ∧ Chg b t w (putCells w b j us)
  | [], w, cs, j, h, _ => by simpa [putCells] using ⟨h, Chg.refl_box h⟩
  | u :: r, w, cs, j, h, hj => by
    rw [List.length_cons] at hj
    obtain ⟨h1, h2⟩ := Box.putTo r (w.setCell ⟨b, j, none⟩ u) (cs.set j u) (j + 1) (h.set j u) (by rw [List.length_set]; omega)
    refine ⟨?_, (h.chg j u).trans h2⟩
    have e1 : (cs.set j u).take (j + 1) = cs.take j ++ [u] := by
      rw [List.take_succ_eq_append_getElem (by rw [List.length_set]; omega), List.take_set, List.getElem_set_self]
      congr 1
      exact List.set_eq_of_length_le (by rw [List.length_take]; omega)
    have e2 : (cs.set j u).drop (j + 1 + r.length) = cs.drop (j + (r.length + 1)) := by
      rw [List.drop_set_of_lt (by omega)]
      congr 1
      omega
    rw [e1, e2] at h1
    simpa [putCells] using h1
/-- All cells of a box written anew. -/
theorem Box.putAll {b t : Nat} {w : World} {cs : List Value} (us : List Value) (h : Box w b t cs) (hl : us.length = cs.length) : Box (putCells w b 0 us) b t us ∧ Chg b t w (putCells w b 0 us) := by
  obtain ⟨h1, h2⟩ := Box.putTo us w cs 0 h (by omega)
  rw [List.take_zero, Nat.zero_add, List.drop_of_length_le (by omega), List.nil_append, List.append_nil] at h1
  exact ⟨h1, h2⟩
theorem planGo_N (g : Gen) : ∀ (l : List Int) (p q : Plan), planGo g l p = some q → planN q = planN p + l.length
  | [], p, q, h => by cases h; simp
  | i :: r, p, q, h => by
    rw [planGo] at h
    split at h
    · cases h
    · split at h
      · cases h
      · have := planGo_N g r _ q h
        rw [planN_add] at this
        rw [List.length_cons]
        omega
theorem eff_ok (s : CS) (g : Gen) (args : List Arg) (hm : g.meths.length ≤ 1000) : okPlan (effS s g args).1 := by
  unfold effS
  split
  · exact ⟨Nat.zero_le _, Nat.zero_le _, Nat.zero_le _, Nat.zero_le _⟩
  split
  · exact ⟨Nat.zero_le _, Nat.zero_le _, Nat.zero_le _, Nat.zero_le _⟩
  rename_i q hq
  split
  · exact ⟨Nat.zero_le _, Nat.zero_le _, Nat.zero_le _, Nat.zero_le _⟩
  have h1 := planGo_N g _ _ _ hq
  have h2 := appl_length s g args
  have h3 : planN emptyPlan = 0 := rfl
  unfold planN at h1 h3
  exact ⟨by show q.ar.length ≤ _; omega, by show q.be.length ≤ _; omega, by show q.pr.length ≤ _; omega, by show q.af.reverse.length ≤ _; rw [List.length_reverse]; omega⟩

/-! ### Find's memory -/
abbrev zSt : List Value := [.slice none 0 0, .int .i64 0, .int .i64 0, .slice none 0 0, .int .i64 0, .int .i64 0]
abbrev zEnt : List Value := [.slice none 0 0, .slice none 0 0, .slice none 0 0, .slice none 0 0, .string ⟨#[]⟩, .int .i64 0, .int .i64 0]
theorem Box.ne_map {κ β : Type} {kv : κ → Value} {ok : κ → Prop} {d : Rp β} {w : World} {b c t : Nat} {cs : List Value} {l : List (κ × β)} (h : Box w c t cs) (hm : MapIs kv ok d w b l) : (some b : Option Nat) ≠ some c := by
  intro e
  cases e
  obtain ⟨es, clock, hb, _⟩ := hm
  rw [show w.heap[b]? = _ from h] at hb
  cases hb
structure FM (w0 ws : World) (bG bN bK : Nat) (ccs gcs : List Value) (now : Int) (k : Key) (sg sc : Value) (gens : List Gen) (hdrs : List (Option Nat)) (scells : List Value) (wr : World) : Prop where
  xS : Box wr w0.heap.size 28 scells
  xC : Box wr (w0.heap.size + 1) 44 ccs
  xR : Box wr (w0.heap.size + 1 + 1) 28 zSt
  xP : Box wr (w0.heap.size + 1 + 1 + 1) 48 zPlan
  xG : Box wr bG 80 gcs
  xN : Box wr bN 3 [.int .i64 now]
  xK : Box wr bK 114 (keyCells k)
  oG : Own 80 rGen w0.heap.size wr sg gens
  oC : Own 119 Rp.mapH w0.heap.size wr sc hdrs
  hB : Below w0.heap.size w0 wr
  hs : Same rMap.E ws wr
  hz : ws.heap.size ≤ wr.heap.size
namespace FM
variable {w0 ws wr w' : World} {bG bN bK : Nat} {ccs gcs : List Value} {now : Int} {k : Key} {sg sc : Value} {gens : List Gen} {hdrs : List (Option Nat)} {scells scells' : List Value}
theorem below (h : FM w0 ws bG bN bK ccs gcs now k sg sc gens hdrs scells wr) (hb : Below wr.heap.size wr w') : FM w0 ws bG bN bK ccs gcs now k sg sc gens hdrs scells w' :=
  ⟨h.xS.later hb, h.xC.later hb, h.xR.later hb, h.xP.later hb, h.xG.later hb, h.xN.later hb, h.xK.later hb, h.oG.below hb, h.oC.below hb, below_to h.hB hb, h.hs.trans (Same.of_below hb), Nat.le_trans h.hz hb.size⟩
/-- The box of s has changed. -/
theorem setS (h : FM w0 ws bG bN bK ccs gcs now k sg sc gens hdrs scells wr) (hc : Chg w0.heap.size 28 wr w') (hx : Box w' w0.heap.size 28 scells') : FM w0 ws bG bN bK ccs gcs now k sg sc gens hdrs scells' w' :=
  ⟨hx, hc.box_ty h.xC (by decide), hc.box h.xR (by omega), hc.box_ty h.xP (by decide), hc.box_ty h.xG (by decide), hc.box_ty h.xN (by decide), hc.box_ty h.xK (by decide), hc.own h.oG (by decide) rfl, hc.own h.oC (by decide) rfl, hc.below h.hB (Nat.le_refl _), h.hs.trans (hc.same _ rfl), by rw [hc.size]; exact h.hz⟩
/-- The box of an entry has changed. -/
theorem setX (h : FM w0 ws bG bN bK ccs gcs now k sg sc gens hdrs scells wr) {b : Nat} (hc : Chg b 117 wr w') (hb : w0.heap.size ≤ b) : FM w0 ws bG bN bK ccs gcs now k sg sc gens hdrs scells w' :=
  ⟨hc.box_ty h.xS (by decide), hc.box_ty h.xC (by decide), hc.box_ty h.xR (by decide), hc.box_ty h.xP (by decide), hc.box_ty h.xG (by decide), hc.box_ty h.xN (by decide), hc.box_ty h.xK (by decide), hc.own h.oG (by decide) rfl, hc.own h.oC (by decide) rfl, hc.below h.hB hb, h.hs.trans (hc.same _ rfl), by rw [hc.size]; exact h.hz⟩
/-- A map that is younger than ws has changed. -/
theorem setM (h : FM w0 ws bG bN bK ccs gcs now k sg sc gens hdrs scells wr) {b : Nat} (hc : Chg b 1000 wr w') (hb : w0.heap.size ≤ b) (hbs : ws.heap.size ≤ b) : FM w0 ws bG bN bK ccs gcs now k sg sc gens hdrs scells w' :=
  ⟨hc.box_ty h.xS (by decide), hc.box_ty h.xC (by decide), hc.box_ty h.xR (by decide), hc.box_ty h.xP (by decide), hc.box_ty h.xG (by decide), hc.box_ty h.xN (by decide), hc.box_ty h.xK (by decide), hc.own h.oG (by decide) rfl, hc.own h.oC (by decide) rfl, hc.below h.hB hb,
    fun i o ho hi => by
      have h1 := h.hs i o ho hi
      have h2 := heap_lt hi
      rw [hc.grown.block i (heap_lt h1) (fun e => by cases e; omega)]
      exact h1, by rw [hc.size]; exact h.hz⟩
/-- .. and what it needs has been made beside it. -/
theorem setD (h : FM w0 ws bG bN bK ccs gcs now k sg sc gens hdrs scells wr) {b : Nat} {l' : List (Key × Ent)} (hM : CacheIs wr b l') (hg : wr.grownBy w' (some b)) (hs : ∀ E : Nat → Bool, E 1000 = false → Same E wr w') (hb : w0.heap.size ≤ b) (hbs : ws.heap.size ≤ b) : FM w0 ws bG bN bK ccs gcs now k sg sc gens hdrs scells w' :=
  ⟨h.xS.grown hg (h.xS.ne_map hM), h.xC.grown hg (h.xC.ne_map hM), h.xR.grown hg (h.xR.ne_map hM), h.xP.grown hg (h.xP.ne_map hM), h.xG.grown hg (h.xG.ne_map hM), h.xN.grown hg (h.xN.ne_map hM), h.xK.grown hg (h.xK.ne_map hM),
    h.oG.move (hs _ rfl) (fun g hg' => hg.block g (h.oG.ge g hg').2 (fun e => h.oG.ne_map hM (by rw [hg', e]))), h.oC.move (hs _ rfl) (fun g hg' => hg.block g (h.oC.ge g hg').2 (fun e => h.oC.ne_map hM (by rw [hg', e]))),
    h.hB.grown hg h.hB.size (fun i hi => by cases hi; exact hb),
    fun i o ho hi => by
      have h1 := h.hs i o ho hi
      have h2 := heap_lt hi
      rw [hg.block i (heap_lt h1) (fun e => by cases e; omega)]
      exact h1, Nat.le_trans h.hz hg.size⟩
/-- The row of caches has changed. -/
theorem setC (h : FM w0 ws bG bN bK ccs gcs now k sg sc gens hdrs scells wr) {b : Nat} {hdrs' : List (Option Nat)} (hc : Chg b 119 wr w') (hb : w0.heap.size ≤ b) (ho : Own 119 Rp.mapH w0.heap.size w' sc hdrs') : FM w0 ws bG bN bK ccs gcs now k sg sc gens hdrs' scells w' :=
  ⟨hc.box_ty h.xS (by decide), hc.box_ty h.xC (by decide), hc.box_ty h.xR (by decide), hc.box_ty h.xP (by decide), hc.box_ty h.xG (by decide), hc.box_ty h.xN (by decide), hc.box_ty h.xK (by decide), hc.own h.oG (by decide) rfl, ho, hc.below h.hB hb, h.hs.trans (hc.same _ rfl), by rw [hc.size]; exact h.hz⟩
/-- The header of one cache. -/
theorem cellC {B5 k5 len n : Nat} {hd : Option Nat} (h : FM w0 ws bG bN bK ccs gcs now k sg (.slice (some ⟨B5, 0, none⟩) len k5) gens hdrs scells wr) (hl : hdrs.length = len) (hh : hdrs[n]? = some hd) : wr.cell? ⟨B5, n, none⟩ = some (.map hd) ∧ (∀ j, wr.frozen? ⟨B5, j, none⟩ = false) ∧ B5 < wr.heap.size ∧ w0.heap.size ≤ B5 := by
  obtain ⟨h1, h2⟩ := List.getElem?_eq_some_iff.1 hh
  obtain ⟨hu, hc0, hcf, hcl, hck⟩ := h.oC.get1 hl.symm rfl n (by omega)
  have h3 : hu = .map (hdrs[n]'h1) := by have := hck.1; simpa using this
  exact ⟨by rw [hc0, h3, h2], hcf, hcl, (h.oC.ge B5 rfl).1⟩
/-- .. and both results' boxes. -/
theorem out (h : FM w0 ws bG bN bK ccs gcs now k sg sc gens hdrs scells wr) {w' w'' : World} (h1 : Chg (w0.heap.size + 1 + 1) 28 wr w') (h2 : Chg (w0.heap.size + 1 + 1 + 1) 48 w' w'') :
    Own 80 rGen w0.heap.size w'' sg gens ∧ Own 119 Rp.mapH w0.heap.size w'' sc hdrs ∧ Same rMap.E ws w'' ∧ Below w0.heap.size w0 w'' :=
  ⟨h2.own (h1.own h.oG (by decide) rfl) (by decide) rfl, h2.own (h1.own h.oC (by decide) rfl) (by decide) rfl, (h.hs.trans (h1.same _ rfl)).trans (h2.same _ rfl), h2.below (h1.below h.hB (by omega)) (by omega)⟩
end FM
theorem st_K {base : Nat} {w : World} {sg sc : Value} {hdrs : List (Option Nat)} {s : St} (oG : Own 80 rGen base w sg s.gens) (oC : Own 119 Rp.mapH base w sc hdrs) (hl : hdrs.length = s.caches.length)
    (hx : ∀ (i : Nat) x, s.caches[i]? = some x → ∃ h, hdrs[i]? = some h ∧ rMap.K w x [.map h]) (h1 : Rp.okInt s.hits) (h2 : Rp.okInt s.misses) (h3 : Rp.okInt s.most) (h4 : Rp.okInt s.clock) :
    rSt.K w s [sg, .int .i64 s.hits, .int .i64 s.misses, sc, .int .i64 s.most, .int .i64 s.clock] := ⟨_, _, rfl, oG.read, (oC.unhdrs hl hx).read, h1, h2, h3, h4⟩

/-! ### A look-up whose answer stays -/
theorem zero117 (w : World) : (zeroValue 117).run Tryz.prog w = .ok (.agg zEnt.toArray) w := by kernel_rfl
theorem zEnt_one : ∀ u ∈ zEnt, u.oneCell' = true := by simp [Value.oneCell']
open Go.MapKept in
theorem look_cache {w : World} {cache : List (Key × Ent)} {hd : Option Nat} {k : Key} (h : rMap.K w cache [.map hd]) (hk : okKey k) : ∃ (xv : List Value) (found : Bool), xv.length = 7 ∧ (∀ u ∈ xv, u.oneCell' = true) ∧
    (found = false → aget k cache = none) ∧ (found = true → ∃ x, aget k cache = some x ∧ rEnt.K w x xv) ∧ ∀ w', Below w.heap.size w w' → (Instr.lookup 119 (.map hd) (keyVal k) true).run Tryz.prog w' = .ok (.tuple #[.agg xv.toArray, .bool found]) w' := by
  rcases rMap_iff.1 h with ⟨hv, rfl⟩ | ⟨r, hv, hM⟩
  · cases hv
    refine ⟨zEnt, false, rfl, zEnt_one, fun _ => rfl, (fun h => nomatch h), fun w' _ => ?_⟩
    exact look_nilmap keysKey w' Tryz.underlying119 (zero117 w') hk true
  · cases hv
    have hM0 := hM
    obtain ⟨es, clock, hb, hE, hs⟩ := hM
    rcases find_list keysKey hE hs hk with ⟨_, h2, h3⟩ | ⟨j, y, v, h1, h2, h3, h4, h5⟩
    · have hnone : aget k cache = none := aget_none_of h2
      refine ⟨zEnt, false, rfl, zEnt_one, fun _ => hnone, (fun h => nomatch h), fun w' hb' => ?_⟩
      rcases (hM0.below hb').look keysKey Tryz.underlying119 (zero117 w') hk true with ⟨_, hr⟩ | ⟨v, cs, hx, _⟩
      · exact hr
      · rw [hnone] at hx
        cases hx
    · obtain ⟨_, _, cs, hv, hK⟩ := h5
      refine ⟨cs, true, rEnt.len hK, rEnt.one hK, (fun h => nomatch h), fun _ => ⟨v, aget_at (hE.nodup keysKey hs.2.2) h4, hK⟩, fun w' hb' => ?_⟩
      have hE' := hE.mov (Same.of_below hb')
      have hbw := (hb'.block r (heap_lt hb)).trans hb
      obtain ⟨lx, hlx⟩ := keysKey.lit k hk
      have hym : y ∈ es.toList := List.mem_of_getElem? (by simpa using h2)
      rcases find_list keysKey hE' hs hk with ⟨_, _, hno⟩ | ⟨j', y', v', h1', h2', h3', _, _⟩
      · exact absurd h3 (hno y hym)
      · have hym' : y' ∈ es.toList := List.mem_of_getElem? (by simpa using h2')
        have e : y' = y := entry_eq_of_key ((stamped_iff es clock).1 hs).2.2 hym' hym (by rw [h3, h3'])
        subst e
        simp [Instr.lookup, run_underlying Tryz.underlying119, MapKept.run_getObj_map hbw, keysKey.law.check w' _ hlx, h1', hv, Result.andThen]
        rfl
/-- Some entry is the oldest. -/
theorem oldest_ex : ∀ l : List (Key × Ent), ∃ kd, Oldest kd l
  | [] => ⟨[], fun h => absurd rfl h⟩
  | p :: r => by
    obtain ⟨kd, hk⟩ := oldest_ex r
    by_cases hr : r = []
    · subst hr
      exact ⟨p.1, fun _ => ⟨p.2, .head _, fun q hq => by rw [List.mem_singleton.1 hq]; exact Int.le_refl _⟩⟩
    · obtain ⟨x, hx, hall⟩ := hk hr
      by_cases h : p.2.used ≤ x.used
      · exact ⟨p.1, fun _ => ⟨p.2, .head _, fun q hq => by
          rcases List.mem_cons.1 hq with rfl | hq
          · exact Int.le_refl _
          · exact Int.le_trans h (hall q hq)⟩⟩
      · exact ⟨kd, fun _ => ⟨x, .tail _ hx, fun q hq => by
          rcases List.mem_cons.1 hq with rfl | hq
          · omega
          · exact hall q hq⟩⟩
end Go.Proofs.YtoncaejgflfhhaaGreatDoor
