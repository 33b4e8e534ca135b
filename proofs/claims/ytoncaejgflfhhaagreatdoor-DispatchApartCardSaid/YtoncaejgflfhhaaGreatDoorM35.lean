/- dispatch.Find. -/
import Derived.Test.YtoncaejgflfhhaaGreatDoorM32
import Derived.Test.YtoncaejgflfhhaaGreatDoorM34
import Derived.Test.YtoncaejgflfhhaaGreatDoorM28
import Derived.Deep.RegionHeld3
import Derived.Deep.DeepCutAuto
set_option linter.unusedVariables false
set_option linter.unusedSimpArgs false
namespace Go.Proofs.YtoncaejgflfhhaaGreatDoor
open Go.RowKit

theorem enters37 : Enters 37 := fun args w => by kernel_rfl
theorem hitE_some {c : CS} {g : Gen} {args : List Arg} {cache : List (Key × Ent)} {x : Ent} (h : hitE c g args cache = some x) : aget (looksS g args) cache = some x ∧ x.stamp = stampS c := by
  unfold hitE at h
  split at h
  · cases h
  · rename_i y hy
    split at h
    · rename_i hc
      cases h
      exact ⟨hy, hc.1⟩
    · cases h
theorem aget_mem {κ β : Type} [DecidableEq κ] {x : κ} {v : β} : ∀ {l : List (κ × β)}, aget x l = some v → (x, v) ∈ l
  | [], h => by cases h
  | (y, u) :: r, h => by
    unfold aget at h
    split at h
    · rename_i hy
      cases h
      rw [hy]
      exact .head _
    · exact .tail _ (aget_mem h)
theorem padC_getD (k : Nat) (l : List (List (Key × Ent))) (n : Nat) : (padC k l).getD n [] = l.getD n [] := by
  unfold padC
  rw [List.getD_eq_getElem?_getD, List.getD_eq_getElem?_getD]
  by_cases h : n < l.length
  · rw [List.getElem?_append_left h]
  · rw [List.getElem?_append_right (by omega), List.getElem?_eq_none (l := l) (by omega)]
    rw [List.getElem?_replicate]
    split <;> rfl
theorem plan_one {w : World} {p : Plan} {a b c d : Value} (h1 : sInt.K w p.ar [a]) (h2 : sInt.K w p.be [b]) (h3 : sInt.K w p.pr [c]) (h4 : sInt.K w p.af [d]) : ∀ u ∈ [a, b, c, d, Value.string p.op], u.oneCell' = true := by
  intro u hu
  simp at hu
  rcases hu with rfl | rfl | rfl | rfl | rfl
  · exact slice_one h1
  · exact slice_one h2
  · exact slice_one h3
  · exact slice_one h4
  · rfl
theorem st_one {A B : Option Addr} {a b c d : Nat} {h m t k : Int} : ∀ u ∈ [Value.slice A a b, .int .i64 h, .int .i64 m, .slice B c d, .int .i64 t, .int .i64 k], u.oneCell' = true := by simp [Value.oneCell']
theorem stamp_ok {s : CS} (h : okCS s) : Rp.okInt (stampS s) := by
  have h1 : ∀ x ∈ s.classes.map (·.version), 0 ≤ x ∧ x ≤ 1000000 := fun x hx => by
    obtain ⟨c, hc, rfl⟩ := List.mem_map.1 hx
    exact h.2 c hc
  have h2 := sum_take h1 _ (Nat.le_refl _)
  rw [List.take_length, List.length_map] at h2
  have h3 := h.1
  unfold stampS
  exact ⟨by omega, by omega⟩
/-- A clone of a cache, nil or not. -/
def Cloned (w : World) (hv : Option Nat) (B : Nat) (l : List (Key × Ent)) : Prop := (hv = none ∧ l = []) ∨ ∃ b, hv = some b ∧ B ≤ b ∧ CacheIs w b l
theorem cloned_of {w : World} {v : Value} {B : Nat} {l : List (Key × Ent)} (h : (l = [] ∧ v = .map none) ∨ ∃ b, v = .map (some b) ∧ B ≤ b ∧ CacheIs w b l) : ∃ hv, v = .map hv ∧ Cloned w hv B l := by
  rcases h with ⟨h1, h2⟩ | ⟨b, h1, h2, h3⟩
  · exact ⟨none, h2, .inl ⟨rfl, h1⟩⟩
  · exact ⟨some b, h1, .inr ⟨b, rfl, h2, h3⟩⟩
theorem del41 {w : World} {hv : Option Nat} {B nb : Nat} {l : List (Key × Ent)} {now : Int} (h : Cloned w hv B l) (hn : w.cell? ⟨nb, 0, none⟩ = some (.int .i64 now)) :
    Calls Tryz.prog 41 #[.map hv, .func (.func 42) #[] #[.pointer (some ⟨nb, 0, none⟩)]] w fun e w' => e = .returned (.tuple #[]) ∧ Cloned w' hv B (fresh now l) ∧ (Below w.heap.size w w' ∨ ∃ b, B ≤ b ∧ w.grownBy w' (some b) ∧ (∀ E : Nat → Bool, E 1000 = false → Same E w w') ∧ ∃ l', CacheIs w b l') := by
  rcases h with ⟨rfl, rfl⟩ | ⟨b, rfl, hb, hM⟩
  · refine (deleteFunc41_nil _ w).mono ?_
    rintro e w' ⟨rfl, h⟩
    exact ⟨rfl, .inl ⟨rfl, rfl⟩, .inl h⟩
  · refine (deleteFunc41 l b nb now w hM hn).mono ?_
    rintro e w' ⟨rfl, h1, h2, h3⟩
    exact ⟨rfl, .inr ⟨b, rfl, hb, h1⟩, .inr ⟨b, hb, h2, h3, l, hM⟩⟩
/-- The time of an entry is written anew. -/
theorem entK_used {w w' : World} {b : Nat} {x : Ent} {a0 a1 a2 a3 : Value} (h : rEnt.K w x [a0, a1, a2, a3, .string x.plan.op, .int .i64 x.stamp, .int .i64 x.used]) (hc : Chg b 117 w w') (n : Int) (hn : Rp.okInt n) :
    rEnt.K w' { x with used := n } [a0, a1, a2, a3, .string x.plan.op, .int .i64 x.stamp, .int .i64 n] := by
  obtain ⟨p, hp, hk, h1, h2⟩ := h
  have e : p = [a0, a1, a2, a3, .string x.plan.op] := by
    have hl := rPlan.len hk
    have h3 : p.length = 5 := hl
    match p, h3, hp with
    | [p0, p1, p2, p3, p4], _, hp => simp at hp; obtain ⟨rfl, rfl, rfl, rfl, rfl⟩ := hp; rfl
  subst e
  exact ⟨_, rfl, hc.K rfl hk, h1, hn⟩
theorem entK_plan {w : World} {x : Ent} {a0 a1 a2 a3 : Value} {n : Int} (h : Hid (rEnt.K w { x with used := n } [a0, a1, a2, a3, .string x.plan.op, .int .i64 x.stamp, .int .i64 n])) : rPlan.K w x.plan [a0, a1, a2, a3, .string x.plan.op] := by
  obtain ⟨q, hp, hk, _⟩ := h.out
  have h3 : q.length = 5 := rPlan.len hk
  match q, h3, hp, hk with
  | [p0, p1, p2, p3, p4], _, hp, hk => simp at hp; obtain ⟨rfl, rfl, rfl, rfl, rfl⟩ := hp; exact hk
theorem step_caches {w0 ws wr : World} {bG bN bK : Nat} {ccs gcs : List Value} {now : Int} {k : Key} {sg : Value} {gens : List Gen} {hdrs : List (Option Nat)} {scells : List Value} {B5 k5 len n b' bX : Nat} {xcs : List Value} {x : Ent} {L : List (Key × Ent)}
    (fm : FM w0 ws bG bN bK ccs gcs now k sg (.slice (some ⟨B5, 0, none⟩) len k5) gens hdrs scells wr) (hl : hdrs.length = len) (hn : n < len) (hX : Box wr bX 117 xcs) (hK : rEnt.K wr x xcs) (hM : CacheIs wr b' L) :
    ∃ w', w' = wr.setCell ⟨B5, n, none⟩ (.map (some b')) ∧ FM w0 ws bG bN bK ccs gcs now k sg (.slice (some ⟨B5, 0, none⟩) len k5) gens (hdrs.set n (some b')) scells w' ∧ Box w' bX 117 xcs ∧ Hid (rEnt.K w' x xcs) ∧ CacheIs w' b' L := by
  obtain ⟨hP, hPg, hPs⟩ := fm.oC.put1 hl.symm rfl (i := n) hn (x := some b') (u := .map (some b')) ⟨rfl, trivial⟩ rfl
  have hc := fm.oC.chg hPg hPs (by simp [World.setCell])
  exact ⟨_, rfl, fm.setC hc (fm.oC.ge B5 rfl).1 hP, hc.box_ty hX (by decide), Lib.hid (hc.K rfl hK), hc.map hM (by decide) rfl⟩
theorem st_tail {s : St} {l : List (List (Key × Ent))} {cache L3 : List (Key × Ent)} {hdrs : List (Option Nat)} {ws w : World} {base n b' : Nat} {h m now : Int} {ky kd : Key} {x : Ent} {hb : Bool} {sg sc : Value}
    (hl : l = (copiedS s).caches) (hc : l[n]? = some cache) (hHd : ∀ (i : Nat) x, l[i]? = some x → ∃ h, hdrs[i]? = some h ∧ rMap.K ws x [.map h]) (hdl : hdrs.length = l.length) (hL : L3 = cacheS s.most now ky kd x hb cache)
    (oG : Own 80 rGen base w sg s.gens) (oC : Own 119 Rp.mapH base w sc (hdrs.set n (some b'))) (hs : Same rMap.E ws w) (hM : CacheIs w b' L3) (h1 : Rp.okInt h) (h2 : Rp.okInt m) (h3 : Rp.okInt s.most) (h4 : Rp.okInt (s.clock + 1)) :
    rSt.K w (tailS { tickS s with hits := h, misses := m } n now ky kd x hb) [sg, .int .i64 h, .int .i64 m, sc, .int .i64 s.most, .int .i64 (s.clock + 1)] := by
  have e : (tailS { tickS s with hits := h, misses := m } n now ky kd x hb).caches = l.set n L3 := by
    show (copiedS s).caches.set n (cacheS s.most now ky kd x hb ((copiedS s).caches.getD n [])) = _
    rw [← hl, List.getD_eq_getElem?_getD, hc, hL]
    rfl
  refine st_K (s := tailS { tickS s with hits := h, misses := m } n now ky kd x hb) oG oC ?_ ?_ h1 h2 h3 h4
  · rw [e, List.length_set, List.length_set, hdl]
  · intro i y hy
    rw [e, List.getElem?_set] at hy
    by_cases hin : n = i
    · subst hin
      have hnl : n < l.length := (List.getElem?_eq_some_iff.1 hc).1
      rw [if_pos rfl, if_pos hnl] at hy
      cases hy
      exact ⟨some b', by rw [List.getElem?_set_self (by omega)], rMap_iff.2 (.inr ⟨b', rfl, hM⟩)⟩
    · rw [if_neg hin] at hy
      obtain ⟨h', e1, e2⟩ := hHd i y hy
      exact ⟨h', by rw [List.getElem?_set_ne hin]; exact e1, rMap.mov hs e2⟩
/-- Find's way to an entry, found or made. -/
def ToEnt (s : St) (c : CS) (n : Nat) (g : Gen) (args : List Arg) (now : Int) (ky : Key) (hb : Bool) (x : Ent) (h m : Int) : Prop :=
  okPlan x.plan ∧ x.stamp = now ∧ Rp.okInt h ∧ Rp.okInt m ∧ ∀ kd, findS s c n g args kd = (tailS { tickS s with hits := h, misses := m } n now ky kd { x with used := s.clock + 1 } hb, x.plan, 0)
def FindPost (s : St) (c : CS) (n : Nat) (g : Gen) (args : List Arg) (w : World) (e : Ending) (w' : World) : Prop :=
  ∃ kd a p, e = .returned (.tuple #[rSt.val a, rPlan.val p, .int .i64 (findS s c n g args kd).2.2]) ∧ Oldest kd (fresh (stampS c) ((copiedS s).caches.getD n [])) ∧ rSt.K w' (findS s c n g args kd).1 a ∧ rPlan.K w' (findS s c n g args kd).2.1 p ∧ Below w.heap.size w w'

set_option maxHeartbeats 4000000 in
set_option maxRecDepth 100000 in
theorem find13 (s : St) (scs : List Value) (c : CS) (ccs : List Value) (n : Nat) (g : Gen) (e : Option Nat) (args : List Arg) (va : Value) (w : World) (h : rSt.K w s scs) (hc : rCS.K w c ccs) (ha : (Rp.slice e rArg).K w args [va]) (ok : okFind s c n g args) :
    Calls Tryz.prog 13 #[rSt.val scs, rCS.val ccs, .int .i64 n, va] w (FindPost s c n g args w) := by
  obtain ⟨hn, hgn⟩ := List.getElem?_eq_some_iff.1 ok.gen
  have H31 := Lib.hid (fun w' (hb : Below w.heap.size w w') => is31 s scs n w' (K_below h hb))
  rw [show inSt s n = true from by unfold inSt; simp; omega] at H31
  have H34 := Lib.hid (fun w' (hb : Below w.heap.size w w') => stamp34 c ccs w' (K_below hc hb) ok.cs)
  obtain ⟨now, hnow⟩ : ∃ now, now = stampS c := ⟨_, rfl⟩
  rw [← hnow] at H34
  have HNow := Lib.hid hnow
  have HNi : Hid (Rp.okInt now) := Lib.hid (by rw [hnow]; exact stamp_ok ok.cs)
  obtain ⟨l, hl⟩ : ∃ l, l = (copiedS s).caches := ⟨_, rfl⟩
  have hlb : l.length ≤ 100000 := by rw [hl]; exact padC_length_le _ _ _ ok.st.caches ok.st.gens
  have HL := Lib.hid hl
  obtain ⟨sg, sc, rfl, h1, h2, h3⟩ := id h
  have H30 := Lib.hid (fun w' (hb : Below w.heap.size w w') => copied30' s sg sc l hl w' ⟨_, _, rfl, K_below h1 hb, K_below h2 hb, h3⟩ ok.st.gens ok.st.caches)
  obtain ⟨A0, k0, rfl⟩ := slice_form h1
  obtain ⟨B0, m0, rfl⟩ := slice_form h2
  obtain ⟨b, off, gcs, hA, hbl, hk, hcell⟩ := Rp.Row_at (Rp.slice_row h1) ok.gen
  subst hA
  have HGK := Lib.hid hk
  have H35 := Lib.hid (fun w' (hb : Below w.heap.size w w') => looks35 g gcs e args va w' (K_below hk hb) (K_below ha hb) ok.req)
  obtain ⟨gm, rfl, hgm, hg1, hg2, hg3⟩ := hk
  obtain ⟨C0, n0, rfl⟩ := slice_form hgm
  have d0 : w.cell? ⟨b, off + n * 4, none⟩ = some (.string g.name) := hcell 0 _ rfl
  have d1 : w.cell? ⟨b, off + n * 4 + 1, none⟩ = some (.string g.comb) := hcell 1 _ rfl
  have d2 : w.cell? ⟨b, off + n * 4 + 2, none⟩ = some (.int .i64 g.req) := hcell 2 _ rfl
  have d3 : w.cell? ⟨b, off + n * 4 + 3, none⟩ = some (.slice C0 g.meths.length n0) := hcell 3 _ rfl
  have HC := Lib.hid hc
  obtain ⟨cu, ch, rfl, hcu, hch⟩ := hc
  obtain ⟨A1, k1, rfl⟩ := slice_form hcu
  obtain ⟨A2, k2, rfl⟩ := slice_form hch
  have HA := Lib.hid ha
  obtain ⟨A3, k3, rfl⟩ := slice_form ha
  obtain ⟨ky, hky⟩ : ∃ ky, ky = looksS g args := ⟨_, rfl⟩
  rw [← hky] at H35
  have HKy := Lib.hid hky
  rw [rSt_val] at H31 ⊢
  rw [rCS_val] at H34 ⊢
  simp only [rGen_val] at H35
  have HOK := Lib.hid ok
  have HS3 := Lib.hid h3
  have hni : (n : Int) < s.gens.length := by omega
  have hnums := ok.nums
  obtain ⟨u1, u2, u3, u4, u5, u6⟩ := hnums
  clear h h1 h2 h3 hnow hl hcell hgm hg1 hg2 hg3 hcu hch ha hky ok hgn
  obtain ⟨W0, hW0⟩ : ∃ W, W = (((w.alloc (.cells #[.slice (some ⟨b, off, none⟩) s.gens.length k0, .int .i64 s.hits, .int .i64 s.misses, .slice B0 s.caches.length m0, .int .i64 s.most, .int .i64 s.clock] 28)).alloc (.cells #[.slice A1 c.classes.length k1, .slice A2 c.history.length k2] 44)).alloc (.cells zSt.toArray 28)).alloc (.cells zPlan.toArray 48) := ⟨_, rfl⟩
  have hB0 : Below w.heap.size w W0 := hW0 ▸ below_more (below_more (below_more (below_one _ _) _) _) _
  have b0 : Box W0 w.heap.size 28 [.slice (some ⟨b, off, none⟩) s.gens.length k0, .int .i64 s.hits, .int .i64 s.misses, .slice B0 s.caches.length m0, .int .i64 s.most, .int .i64 s.clock] := hW0 ▸ (((Box.mk_ _ rfl rfl).alloc _).alloc _).alloc _
  have b1 : Box W0 (w.heap.size + 1) 44 [.slice A1 c.classes.length k1, .slice A2 c.history.length k2] := hW0 ▸ ((Box.mk_ _ (by simp) rfl).alloc _).alloc _
  have b2 : Box W0 (w.heap.size + 1 + 1) 28 zSt := hW0 ▸ (Box.mk_ _ (by simp) rfl).alloc _
  have b3 : Box W0 (w.heap.size + 1 + 1 + 1) 48 zPlan := hW0 ▸ Box.mk_ _ (by simp) rfl
  have HW0 := Lib.hid hW0
  clear hW0
  go_enter Tryz.func13, Tryz.ntmps13
  go_wp2_with (first
    | (go_at_call 31; rw [← HW0.out]; refine (H31.out _ hB0).mono ?_; rintro e w1 ⟨rfl, hB1⟩; have hT1 := below_to hB0 hB1; have x0 := b0.later hB1; have x1 := b1.later hB1; have x2 := b2.later hB1; have x3 := b3.later hB1; obtain ⟨p0, p1, p2, p3, p4, p5, pf, pl⟩ := x0.six; have e0 := cell_later hT1 d0; have e1 := cell_later hT1 d1; have e2 := cell_later hT1 d2; have e3 := cell_later hT1 d3; obtain ⟨q0, q1, qf, ql⟩ := x1.two)
    | (go_at_call 34; refine (H34.out _ (below_more hT1 _)).mono ?_; rintro e w2 ⟨rfl, hB2⟩; have hT2 := below_to (below_more hT1 (.cells #[.string g.name, .string g.comb, .int .i64 g.req, .slice C0 g.meths.length n0] 80)) hB2; clear p0 p1 p2 p3 p4 p5 pf pl q0 q1 qf ql; have hX2 := below_to (below_one w1 (.cells #[.string g.name, .string g.comb, .int .i64 g.req, .slice C0 g.meths.length n0] 80)) hB2; have y0 := x0.later hX2; have y1 := x1.later hX2; have y2 := x2.later hX2; have y3 := x3.later hX2; have yG := (Box.mk_ w1 (b := w1.heap.size) (cs := [.string g.name, .string g.comb, .int .i64 g.req, .slice C0 g.meths.length n0]) (t := 80) rfl rfl).later hB2; clear e0 e1 e2 e3; obtain ⟨p0, p1, p2, p3, p4, p5, pf, pl⟩ := y0.six)
    | (go_at_call 30; have hX3 := below_one w2 (.cells #[.int .i64 now] 3); have yN := Box.mk_ w2 (b := w2.heap.size) (cs := [.int .i64 now]) (t := 3) rfl rfl; have z0 := y0.later hX3; have z1 := y1.later hX3; have z2 := y2.later hX3; have z3 := y3.later hX3; have zG := yG.later hX3; have hT3 := below_to hT2 hX3; clear p0 p1 p2 p3 p4 p5 pf pl; generalize w2.alloc (.cells #[.int .i64 now] 3) = w3 at *; refine (H30.out _ hT3).mono ?_; rintro e w4 ⟨v1, v2, rfl, hO1, hO2, hB4⟩; obtain ⟨A4, k4, rfl, _⟩ := hO1.row; obtain ⟨A5, k5, rfl, _⟩ := hO2.row; have t0 := z0.later hB4; have t1 := z1.later hB4; have t2 := z2.later hB4; have t3 := z3.later hB4; have tG := zG.later hB4; have tN := yN.later hB4; have hT4 := below_to hT3 hB4; have oc1 : ∀ u ∈ [Value.slice A4 s.gens.length k4, .int .i64 s.hits, .int .i64 s.misses, .slice A5 l.length k5, .int .i64 s.most, .int .i64 s.clock], u.oneCell' = true := (by simp [Value.oneCell']))
    | (refine wp_box_store rfl 28 _ _ rfl (us := [.slice A4 s.gens.length k4, .int .i64 s.hits, .int .i64 s.misses, .slice A5 l.length k5, .int .i64 s.most, .int .i64 s.clock]) rfl rfl t0 siz28 rfl oc1 ?_; intro w5 s0 hc5; have s1 := hc5.box_ty t1 (by decide); have s2 := hc5.box t2 (by omega); have s3 := hc5.box_ty t3 (by decide); have sG := hc5.box_ty tG (by decide); have sN := hc5.box_ty tN (by decide); have hO3 := hc5.own hO1 (by decide) rfl; have hO4 := hc5.own hO2 (by decide) rfl; have hT5 := hc5.below hT4 (Nat.le_refl _); have hcell5 := s0.cell 5 _ rfl; have hlt5 := s0.lt)
    | (refine wp_box_set rfl 3 _ _ rfl (j := 5) (u := .int .i64 (s.clock + 1)) rfl rfl s0 rfl rfl rfl siz3 ?_; intro w6 r0 hc6; have r1 := hc6.box_ty s1 (by decide); have r2 := hc6.box s2 (by omega); have r3 := hc6.box_ty s3 (by decide); have rG := hc6.box_ty sG (by decide); have rN := hc6.box_ty sN (by decide); have hO5 := hc6.own hO3 (by decide) rfl; have hO6 := hc6.own hO4 (by decide) rfl; have hT6 := hc6.below hT5 (Nat.le_refl _); clear hcell5 hlt5; obtain ⟨g0, g1, g2, g3, gf, gl⟩ := rG.four)
    | (go_at_call 35; refine (H35.out _ hT6).mono ?_; rintro e w7 ⟨rfl, hky, hB7⟩; clear g0 g1 g2 g3 gf gl; have i0 := (r0.later hB7).alloc (.cells zeroCells.toArray 114); have i1 := (r1.later hB7).alloc (.cells zeroCells.toArray 114); have i2 := (r2.later hB7).alloc (.cells zeroCells.toArray 114); have i3 := (r3.later hB7).alloc (.cells zeroCells.toArray 114); have iG := (rG.later hB7).alloc (.cells zeroCells.toArray 114); have iN := (rN.later hB7).alloc (.cells zeroCells.toArray 114); have iK := Box.mk_ w7 (b := w7.heap.size) (cs := zeroCells) (t := 114) rfl rfl; have hO7 := (hO5.below hB7).alloc (.cells zeroCells.toArray 114); have hO8 := (hO6.below hB7).alloc (.cells zeroCells.toArray 114); have hT7 := below_more (below_to hT6 hB7) (.cells zeroCells.toArray 114); have hkl : (keyCells ky).length = 24 := (by rw [keyCells_length, hky.1]); have hks : (Tryz.prog.info? 114).map (·.size) = some (keyCells ky).length := (by rw [hkl]; exact siz114); have hKv : keyVal ky = .agg (keyCells ky).toArray := rfl)
    | (refine wp_box_store rfl 114 _ _ rfl (us := keyCells ky) rfl rfl iK hks hkl.symm (keyCells_one ky) ?_; intro w8 jK hc8)
    | go_in)
  have hlen : l.length = (copiedS s).caches.length := by rw [HL.out]
  have hnl : n < l.length := by
    rw [hlen]
    show n < (padC s.gens.length s.caches).length
    unfold padC
    rw [List.length_append, List.length_replicate]
    omega
  obtain ⟨cache, hcache, _⟩ := some_at hnl
  obtain ⟨hdrs, oC, hdl, hHd⟩ := (hc8.own hO8 (by decide) rfl).hdrs
  have fm : FM w w8 w1.heap.size w2.heap.size w7.heap.size [.slice A1 c.classes.length k1, .slice A2 c.history.length k2] [.string g.name, .string g.comb, .int .i64 g.req, .slice C0 g.meths.length n0] now ky (.slice A4 s.gens.length k4) (.slice A5 l.length k5) s.gens hdrs [.slice A4 s.gens.length k4, .int .i64 s.hits, .int .i64 s.misses, .slice A5 l.length k5, .int .i64 s.most, .int .i64 (s.clock + 1)] w8 :=
    ⟨hc8.box_ty i0 (by decide), hc8.box_ty i1 (by decide), hc8.box_ty i2 (by decide), hc8.box_ty i3 (by decide), hc8.box_ty iG (by decide), hc8.box_ty iN (by decide), jK, (hc8.own hO7 (by decide) rfl).lower hT3.size, oC.lower hT3.size, hc8.below hT7 (by have := hT6.size; have := hB7.size; omega), Same.refl _ _, Nat.le_refl _⟩
  have hbG : w.heap.size + 1 + 1 + 1 < w1.heap.size := x3.lt
  have hbN : w1.heap.size < w2.heap.size := yG.lt
  have hbK : w2.heap.size < w7.heap.size := (rN.later hB7).lt
  obtain ⟨hd, hhd, hdK⟩ := hHd n cache hcache
  obtain ⟨xv, found, hxl, hx1, hxn, hxs, hlk⟩ := look_cache hdK hky
  obtain ⟨B5, rfl⟩ : ∃ B5, A5 = some ⟨B5, 0, none⟩ := by
    obtain ⟨B2, kk, hv⟩ := oC.shape (fun hn => by rw [hn] at hdl; simp at hdl; omega)
    rw [hdl] at hv
    cases hv
    exact ⟨B2, rfl⟩
  have HW8 : Hid (w8.heap.size = w7.heap.size + 1) := Lib.hid (by rw [hc8.size]; simp)
  have HX := Lib.hid (And.intro hxn (And.intro hxs (And.intro hHd (And.intro hdl (And.intro hcache (And.intro hhd hdK))))))
  have HF := Lib.hid (And.intro hbG (And.intro hbN hbK))
  have HLK := Lib.hid hlk
  have HXl := Lib.hid (And.intro hxl hx1)
  have hn8 : (n : Int) < l.length := by omega
  clear hxn hxs hHd hdl hcache hhd hdK hbG hbN hbK hlk hxl hx1 hlen hnl hlb b0 b1 b2 b3 x0 x1 x2 x3 hB1 hT1 hB2 hT2 hX2 y0 y1 y2 y3 yG z0 z1 z2 z3 zG hX3 yN hT3 hO1 hO2 hB4 t0 t1 t2 t3 tG tN hT4 oc1 s0 s1 s2 s3 sG sN hc5 hO3 hO4 hT5 r0 r1 r2 r3 rG rN hc6 hO5 hO6 hT6 i0 i1 i2 i3 iG iN iK hO7 hO8 hT7 hks hkl hB7 jK oC hc8 d0 d1 d2 d3
  have f3 := fm.xS.cell 3 _ rfl
  obtain ⟨hu, hc0, hcf, hcl, hck⟩ := fm.oC.get1 (HX.out.2.2.2.1.symm) rfl n (by omega)
  have hcm : w8.cell? ⟨B5, n, none⟩ = some (.map hd) := by
    have h1 : hu = .map (hdrs[n]'(by rw [HX.out.2.2.2.1]; omega)) := by have := hck.1; simpa using this
    obtain ⟨_, h2⟩ := List.getElem?_eq_some_iff.1 HX.out.2.2.2.2.2.1
    rw [hc0, h1, h2]
  clear hc0 hcf hcl hck
  have hrg : w8.rangeAt w7.heap.size 0 (keyCells ky) := fun j v hv => by rw [Nat.zero_add]; exact fm.xK.cell j v hv
  have U114 := Tryz.underlying114
  have I114 : (Tryz.prog.info? 114).map (·.size) = some (keyCells ky).length := by rw [keyCells_length, hky.1]; exact siz114
  have hl8 := HLK.out w8.drew (below_drew _)
  rw [hKv] at hl8
  go_frame
  go_cut [14, 15] (fun va vb wx => va = .pointer (some ⟨w8.heap.size, 0, none⟩) ∧ vb = .bool found ∧ Below w8.heap.size w8 wx ∧ Box wx w8.heap.size 117 xv)
  case first =>
    have hB9 : Below w8.heap.size w8 (w8.drew.alloc (.cells zEnt.toArray 117)) := below_more (below_drew w8) _
    have xz : Box (w8.drew.alloc (.cells zEnt.toArray 117)) w8.heap.size 117 zEnt := Box.mk_ _ rfl rfl
    have hrg9 : ∀ w', Below w8.heap.size w8 w' → w'.rangeAt w7.heap.size 0 (keyCells ky) := fun w' hb j v hv => by rw [Nat.zero_add]; exact (fm.xK.later hb).cell j v hv
    have hl9 : ∀ w', Below w8.heap.size w8 w' → (Instr.lookup 119 (.map hd) (.agg (keyCells ky).toArray) true).run Tryz.prog w' = .ok (.tuple #[.agg xv.toArray, .bool found]) w' := fun w' hb => by rw [← hKv]; exact HLK.out w' hb
    have I117 : (Tryz.prog.info? 117).map (·.size) = some xv.length := by rw [HXl.out.1]; exact siz117
    refine wp_region_noPanic ?_
    refine wp_region_held_drew (S := fun w' => w'.cell? ⟨w.heap.size, 3, none⟩ = some (.slice (some ⟨B5, 0, none⟩) l.length k5) ∧ w'.cell? ⟨B5, n, none⟩ = some (.map hd) ∧ w'.rangeAt w7.heap.size 0 (keyCells ky) ∧ (Instr.lookup 119 (.map hd) (.agg (keyCells ky).toArray) true).run Tryz.prog w' = .ok (.tuple #[.agg xv.toArray, .bool found]) w') (by kernel_rfl) ⟨f3, hcm, hrg, hl8⟩ (fun hHeld => ?_)
    refine wpAnyH_take (i := 0) (v := .pointer (some ⟨w.heap.size, 3, none⟩)) rfl (by kernel_rfl) (by kernel_rfl) (by kernel_rfl) (fun _ _ _ h => h) (Or.inl ⟨by rfl, fun w' _ => by go_simp⟩) hHeld ?_
    simp only [Act.put, List.setIfInBounds_toArray, List.set_cons_zero, List.set_cons_succ]
    refine wpAnyH_take (i := 1) (v := .slice (some ⟨B5, 0, none⟩) l.length k5) rfl (by kernel_rfl) (by kernel_rfl) (by kernel_rfl) (fun _ _ _ h => h) (Or.inl ⟨by rfl, fun w' hS => by have := hS.1; go_simp⟩) hHeld ?_
    simp only [Act.put, List.setIfInBounds_toArray, List.set_cons_zero, List.set_cons_succ]
    refine wpAnyH_take (i := 2) (v := .int .i64 n) rfl (by kernel_rfl) (by kernel_rfl) (by kernel_rfl) (fun _ _ _ h => h) (Or.inl ⟨by rfl, fun w' _ => by go_simp⟩) hHeld ?_
    simp only [Act.put, List.setIfInBounds_toArray, List.set_cons_zero, List.set_cons_succ]
    refine wpAnyH_take (i := 3) (v := .pointer (some ⟨B5, n, none⟩)) rfl (by kernel_rfl) (by kernel_rfl) (by kernel_rfl) (fun _ _ _ h => h) (Or.inl ⟨by rfl, fun w' _ => by go_simp⟩) hHeld ?_
    simp only [Act.put, List.setIfInBounds_toArray, List.set_cons_zero, List.set_cons_succ]
    refine wpAnyH_take (i := 4) (v := .map hd) rfl (by kernel_rfl) (by kernel_rfl) (by kernel_rfl) (fun _ _ _ h => h) (Or.inl ⟨by rfl, fun w' hS => by have := hS.2.1; go_simp⟩) hHeld ?_
    simp only [Act.put, List.setIfInBounds_toArray, List.set_cons_zero, List.set_cons_succ]
    refine wpAnyH_take (i := 5) (v := .agg (keyCells ky).toArray) rfl (by kernel_rfl) (by kernel_rfl) (by kernel_rfl) (fun _ _ _ h => h) (yieldsIf_load_mid (by rfl) _ _ rfl _ _ rfl (keyCells ky) _ (fun w' hS => hS.2.2.1) U114 rfl I114) hHeld ?_
    simp only [Act.put, List.setIfInBounds_toArray, List.set_cons_zero, List.set_cons_succ]
    refine wpAnyH_take (i := 6) (v := .tuple #[.agg xv.toArray, .bool found]) rfl (by kernel_rfl) (by kernel_rfl) (by kernel_rfl) (fun _ _ _ h => h) (Or.inl ⟨by rfl, fun w' hS => by have := hS.2.2.2; go_simp⟩) hHeld ?_
    simp only [Act.put, List.setIfInBounds_toArray, List.set_cons_zero, List.set_cons_succ]
    refine wpAnyH_take (i := 7) (v := .tuple #[.agg xv.toArray, .bool found]) rfl (by kernel_rfl) (by kernel_rfl) (by kernel_rfl) (fun _ _ _ h => h) (Or.inl ⟨by rfl, fun w' _ => by go_simp⟩) hHeld ?_
    simp only [Act.put, List.setIfInBounds_toArray, List.set_cons_zero, List.set_cons_succ]
    refine wpAnyH_take (i := 8) (v := .agg xv.toArray) rfl (by kernel_rfl) (by kernel_rfl) (by kernel_rfl) (fun _ _ _ h => h) (Or.inl ⟨by rfl, fun w' _ => by go_simp⟩) hHeld ?_
    simp only [Act.put, List.setIfInBounds_toArray, List.set_cons_zero, List.set_cons_succ]
    refine wpAnyH_take (i := 9) (v := .bool found) rfl (by kernel_rfl) (by kernel_rfl) (by kernel_rfl) (fun _ _ _ h => h) (Or.inl ⟨by rfl, fun w' _ => by go_simp⟩) hHeld ?_
    simp only [Act.put, List.setIfInBounds_toArray, List.set_cons_zero, List.set_cons_succ]
    refine wpAnyH_ready (rs := [10]) (by kernel_rfl) (by simp) ?_
    refine AllReadyH.cons rfl (fun K' hK => ?_) AllReadyH.nil
    rw [if_pos (by rfl)]
    go_simp
    refine hK.out _ _ ⟨cell_later hB9 f3, cell_later hB9 hcm, hrg9 _ hB9, hl9 _ hB9⟩ (fun hHeld2 => ?_)
    clear hK K'
    try simp only [Act.put, List.setIfInBounds_toArray, List.set_cons_zero, List.set_cons_succ]
    refine wpAnyH_ready (rs := [11]) (by kernel_rfl) (by simp) ?_
    refine AllReadyH.cons rfl (fun K' hK => ?_) AllReadyH.nil
    refine step_box_store (by rfl) 117 _ _ (by rfl) (us := xv) (by rfl) (by rfl) xz I117 HXl.out.1.symm HXl.out.2 ?_
    intro w10 t1 hc10
    have hB10 := hc10.below hB9 (Nat.le_refl _)
    refine hK.out _ _ ⟨cell_later hB10 f3, cell_later hB10 hcm, hrg9 _ hB10, hl9 _ hB10⟩ (fun hHeld3 => ?_)
    clear hK K'
    try simp only [Act.put, List.setIfInBounds_toArray, List.set_cons_zero, List.set_cons_succ]
    refine wpAnyH_ready (rs := [12]) (by kernel_rfl) (by simp) ?_
    refine AllReadyH.cons rfl (fun K' hK => ?_) AllReadyH.nil
    rw [if_pos (by rfl)]
    go_simp
    refine hK.out _ _ hHeld3 (fun _ => ?_)
    clear hK K'
    try simp only [Act.put, List.setIfInBounds_toArray, List.set_cons_zero, List.set_cons_succ]
    refine wpAnyH_done (by kernel_rfl) ?_ _
    refine NoPanic.normal ?_
    go_wp2_with fail
    go_meet
    exact ⟨rfl, rfl, hB10, t1⟩
  case rest =>
    obtain ⟨rfl, rfl, hBx, bX⟩ := hcut
    obtain ⟨w10, hw10⟩ : ∃ w10, w10 = wc := ⟨_, rfl⟩
    subst hw10
    have fm9 := fm.below hBx
    clear fm f3 hcm hrg hl8
    obtain ⟨hb, hhb⟩ : ∃ hb, hb = (hitE c g args cache).isSome := ⟨_, rfl⟩
    have HHB := Lib.hid hhb
    clear hhb
    have HPr : Hid (Pred rArg 37 #[.pointer (some ⟨w.heap.size + 1, 0, none⟩)] w10 args (fun a => decide ((orderS c a.cls).2 ≠ 0))) := Lib.hid (fun x _ cs w' hB hk => by
      refine (find37 c _ x cs w' (w.heap.size + 1) (K_below HC.out (below_to fm9.hB hB)) ((fm9.xC).later hB) HOK.out.cs.1 hk).mono ?_
      rintro e w2 ⟨rfl, h2⟩
      exact ⟨rfl, h2⟩)
    have H36 := Lib.hid (fun w' (hB : Below w10.heap.size w10 w') => cfn36 rArg rfl rfl e args (.slice A3 args.length k3) 37 #[.pointer (some ⟨w.heap.size + 1, 0, none⟩)] (fun a => decide ((orderS c a.cls).2 ≠ 0)) w' (K_below HA.out (below_to fm9.hB hB)) enters37 (fun x hx cs w2 hB2 hk => HPr.out x hx cs w2 (below_to hB hB2) hk))
    have hany : args.any (fun a => decide ((orderS c a.cls).2 ≠ 0)) = !knownS c args := by
      rw [knownS, List.not_all_eq_any_not]
      congr 1
      funext a
      simp
    rw [hany] at H36
    clear hany
    have h2 := fm9.xG.cell 2 _ rfl
    have hN := fm9.xN.cell 0 _ rfl
    have l2 := fm9.xG.lt
    have lN := fm9.xN.lt
    have lX := bX.lt
    go_upto_region 9 with fail
    go_cut [15] (fun vh wx => vh = .bool hb ∧ Below w10.heap.size w10 wx)
    case first =>
      cases found with
      | false =>
        have e : hb = false := by rw [HHB.out, hitE, ← HKy.out, HX.out.1 rfl]; rfl
        have HE := Lib.hid e
        clear e
        go_wp2_with fail
        go_meet
        exact ⟨by rw [HE.out], Below.refl _ _⟩
      | true =>
        obtain ⟨x, hx, hxK⟩ := HX.out.2.1 rfl
        obtain ⟨xa, xb, xc, xd, rfl, _⟩ := entK_form hxK
        have hst := bX.cell 5 _ rfl
        have HHx : Hid (hitE c g args cache = if x.stamp = now ∧ g.req ≤ args.length ∧ knownS c args = true then some x else none) := Lib.hid (by rw [hitE, ← HKy.out, hx, HNow.out])
        clear hx hxK
        by_cases h1 : x.stamp = now
        · have t1 : (x.stamp == now) = true := by simpa using h1
          by_cases h2' : g.req ≤ args.length
          · have t2 : decide (g.req ≤ (args.length : Int)) = true := by simpa using h2'
            have HE : Hid (hb = knownS c args) := Lib.hid (by
              rw [HHB.out, HHx.out]
              cases hk : knownS c args with
              | true => rw [if_pos ⟨h1, h2', rfl⟩]; rfl
              | false => rw [if_neg (by simp)]; rfl)
            clear h1
            go_wp2_with (first
              | (go_at_call 36; refine (H36.out _ (Below.refl _ _)).mono ?_; rintro e w9 ⟨rfl, hB9⟩)
              | go_in)
            go_meet
            exact ⟨by rw [HE.out], hB9⟩
          · have t2 : decide (g.req ≤ (args.length : Int)) = false := by simpa using h2'
            have HE : Hid (hb = false) := Lib.hid (by rw [HHB.out, HHx.out, if_neg (fun h => h2' h.2.1)]; rfl)
            clear h1
            go_wp2_with fail
            go_meet
            exact ⟨by rw [HE.out], Below.refl _ _⟩
        · have t1 : (x.stamp == now) = false := by simpa using h1
          have HE : Hid (hb = false) := Lib.hid (by rw [HHB.out, HHx.out, if_neg (fun h => h1 h.1)]; rfl)
          clear h1
          go_wp2_with fail
          go_meet
          exact ⟨by rw [HE.out], Below.refl _ _⟩
    case rest =>
      obtain ⟨rfl, hBy⟩ := hcut
      obtain ⟨w11, hw11⟩ : ∃ w11, w11 = wc := ⟨_, rfl⟩
      subst hw11
      have fma := fm9.below hBy
      have bXa := bX.later hBy
      have hB8 := below_to hBx hBy
      have HCa : Hid ((copiedS s).caches.getD n [] = cache ∧ s.caches.getD n [] = cache) := by
        have h1 : (copiedS s).caches.getD n [] = cache := by rw [← HL.out, List.getD_eq_getElem?_getD, HX.out.2.2.2.2.1]; rfl
        exact Lib.hid ⟨h1, by rw [← h1]; exact (padC_getD _ _ _).symm⟩
      clear fm9 bX HPr H36 h2 hN l2 lN lX
      go_upto_if 72 with fail
      go_cut [] (fun wx => ∃ (x : Ent) (xs : List Value) (h m : Int), FM w w8 w1.heap.size w2.heap.size w7.heap.size [.slice A1 c.classes.length k1, .slice A2 c.history.length k2] [.string g.name, .string g.comb, .int .i64 g.req, .slice C0 g.meths.length n0] now ky (.slice A4 s.gens.length k4) (.slice (some ⟨B5, 0, none⟩) l.length k5) s.gens hdrs  [.slice A4 s.gens.length k4, .int .i64 h, .int .i64 m, .slice (some ⟨B5, 0, none⟩) l.length k5, .int .i64 s.most, .int .i64 (s.clock + 1)] wx ∧ Box wx w8.heap.size 117 xs ∧ rEnt.K wx x xs ∧ ToEnt s c n g args now ky hb x h m)
      case first =>
        cases hb with
        | true =>
          obtain ⟨x, hx⟩ : ∃ x, hitE c g args cache = some x := Option.isSome_iff_exists.1 HHB.out.symm
          obtain ⟨hxa, hxst⟩ := hitE_some hx
          have hfound : found = true := by
            cases hf : found with
            | true => rfl
            | false => rw [← HKy.out, HX.out.1 hf] at hxa; cases hxa
          obtain ⟨x', hx', hxK⟩ := HX.out.2.1 hfound
          rw [HKy.out, hxa] at hx'
          cases hx'
          have HT : Hid (ToEnt s c n g args now ky true x (s.hits + 1) s.misses) := Lib.hid (by
            refine ⟨(HOK.out.plans _ (by rw [HCa.out.2]; exact aget_mem hxa)).1, by rw [HNow.out]; exact hxst, ⟨by omega, by omega⟩, ⟨by omega, by omega⟩, fun kd => ?_⟩
            rw [findS, HCa.out.1, hx, HKy.out, HNow.out]
            rfl)
          have HK := Lib.hid (K_below hxK hB8)
          have f1 := fma.xS.cell 1 _ rfl
          have fl := fma.xS.lt
          clear hx hxa hxst hxK hfound
          go_wp2_with (first
            | (refine wp_box_set rfl 3 _ _ rfl (j := 1) (u := .int .i64 (s.hits + 1)) rfl rfl fma.xS rfl rfl rfl siz3 ?_; intro w12 z0 hc12; have fmb := fma.setS hc12 z0; have bXb := hc12.box_ty bXa (by decide); have HKb := hc12.K rfl HK.out)
            | go_in)
          go_meet
          exact ⟨x, _, _, _, fmb, bXb, HKb, HT.out⟩
        | false =>
          have hnone : hitE c g args cache = none := by
            have := HHB.out
            cases hh : hitE c g args cache with
            | none => rfl
            | some x => rw [hh] at this; cases this
          have HNo := Lib.hid hnone
          clear hnone
          have H23 := Lib.hid (fun w' (hB : Below w.heap.size w w') => eff23 c _ g _ e args (.slice A3 args.length k3) w' (K_below HC.out hB) (K_below HGK.out hB) (K_below HA.out hB) HOK.out.cs.1 HOK.out.meths HOK.out.args HOK.out.specs)
          simp only [rCS_val, rGen_val] at H23
          obtain ⟨pl, hpl⟩ : ∃ pl, pl = (effS c g args).1 := ⟨_, rfl⟩
          obtain ⟨code, hcode⟩ : ∃ code, code = (effS c g args).2 := ⟨_, rfl⟩
          have hE : effS c g args = (pl, code) := by rw [hpl, hcode]
          rw [hE] at H23
          have HE := Lib.hid hE
          clear hpl hcode hE
          have f2 := fma.xS.cell 2 _ rfl
          have fl := fma.xS.lt
          have ARM : True := trivial
          by_cases hz : code = 0
          · subst hz
            obtain ⟨x0, x1, x2, x3, x4, x5, x6, hxv⟩ : ∃ x0 x1 x2 x3 x4 x5 x6, xv = [x0, x1, x2, x3, x4, x5, x6] := by
              have := HXl.out.1
              match xv, this with
              | [x0, x1, x2, x3, x4, x5, x6], _ => exact ⟨_, _, _, _, _, _, _, rfl⟩
            rw [hxv] at bXa
            clear hxv
            have H39 := Lib.hid (fun cs w' (hk : rPlan.K w' pl cs) => owned39 pl cs w' hk (by have := eff_ok c g args HOK.out.meths; rw [HE.out] at this; exact this))
            have HT : Hid (ToEnt s c n g args now ky false ⟨pl, now, 0⟩ s.hits (s.misses + 1)) := Lib.hid (by
              refine ⟨by have := eff_ok c g args HOK.out.meths; rw [HE.out] at this; exact this, rfl, HS3.out.1, ⟨by omega, by omega⟩, fun kd => ?_⟩
              rw [findS, HCa.out.1, HNo.out, HE.out, HKy.out, HNow.out]
              show (if (0 : Int) = 0 then _ else _) = _
              rw [if_pos rfl]
              rfl)
            go_wp2_with (first
              | (refine wp_box_set rfl 3 _ _ rfl (j := 2) (u := .int .i64 (s.misses + 1)) rfl rfl fma.xS rfl rfl rfl siz3 ?_; intro w12 z0 hc12; have fmb := fma.setS hc12 z0; have bXb := hc12.box_ty bXa (by decide); clear f2 fl; obtain ⟨p0, p1, pf, p5⟩ := fmb.xC.two; obtain ⟨q0, q1, q2, q3, qf, ql⟩ := fmb.xG.four)
              | (go_at_call 23; refine (H23.out _ fmb.hB).mono ?_; rintro e w13 ⟨pcs, rfl, hpk, hB13⟩; obtain ⟨pa, pb, pc, pd, rfl, hpa, hpb, hpc, hpd, hpo⟩ := hpk; have fmc := fmb.below hB13; clear p0 p1 pf p5 q0 q1 q2 q3 qf ql)
              | (refine wp_box_store rfl 48 _ _ rfl (us := [pa, pb, pc, pd, .string pl.op]) rfl rfl (Box.mk_ w13 (cs := zPlan) rfl rfl) siz48 rfl (plan_one hpa hpb hpc hpd) ?_; intro w14 z4 hc14; have hB14 := hc14.below (below_one w13 _) (Nat.le_refl _); have fmd := fmc.below hB14; obtain ⟨q0, q1, q2, q3, q4, qf, ql⟩ := z4.five; have qN := fmd.xN.cell 0 _ rfl; have qNl := fmd.xN.lt; have bXd := (bXb.later hB13).later hB14; have hP14 : rPlan.K w14 pl [pa, pb, pc, pd, .string pl.op] := K_below ⟨_, _, _, _, rfl, hpa, hpb, hpc, hpd, hpo⟩ hB14)
              | go_in)
            clear hpa hpb hpc hpd hpo
            have hl13 := (bXb.later hB13).lt
            have hl2 := HF.out.2.2
            have hl7 := HW8.out
            have ne1 : ¬ w8.heap.size = w13.heap.size := by omega
            have ne2 : ¬ w13.heap.size = w8.heap.size := by omega
            have ne3 : ¬ w8.heap.size = w2.heap.size := by omega
            have ne4 : ¬ w2.heap.size = w8.heap.size := by omega
            clear hl13 hl2 hl7
            go_region_held3 (fun w' => w'.cell? ⟨w13.heap.size, 0, none⟩ = some pa ∧ w'.cell? ⟨w13.heap.size, 1, none⟩ = some pb ∧ w'.cell? ⟨w13.heap.size, 2, none⟩ = some pc ∧ w'.cell? ⟨w13.heap.size, 3, none⟩ = some pd ∧ w'.cell? ⟨w13.heap.size, 4, none⟩ = some (.string pl.op) ∧ w'.cell? ⟨w2.heap.size, 0, none⟩ = some (.int .i64 now))
              (go_keep)
              (first | (go_at_call 39; refine (H39.out [pa, pb, pc, pd, .string pl.op] _ (K_below hP14 (below_drew w14))).mono ?_; rintro e w17 ⟨cs2, rfl, ⟨ra, rb, rc, rd, rfl, t1, t2, t3, t4, t5⟩, hB17⟩; obtain ⟨Ra, na, rfl⟩ := slice_form t1; obtain ⟨Rb, nb, rfl⟩ := slice_form t2; obtain ⟨Rc, nc, rfl⟩ := slice_form t3; obtain ⟨Rd, nd, rfl⟩ := slice_form t4; have hT17 := below_to (below_drew w14) hB17; obtain ⟨hcc, hcf⟩ := bcell hT17; have bXf := bXd.later hT17; have m0 := bXf.cell 0 _ rfl; have m1 := bXf.cell 1 _ rfl; have m2 := bXf.cell 2 _ rfl; have m3 := bXf.cell 3 _ rfl; have m4 := bXf.cell 4 _ rfl; have m5 := bXf.cell 5 _ rfl; have m6 := bXf.cell 6 _ rfl; have mf0 := bXf.free 0; have mf1 := bXf.free 1; have mf2 := bXf.free 2; have mf3 := bXf.free 3; have mf4 := bXf.free 4; have mf5 := bXf.free 5; have mf6 := bXf.free 6; have ml := bXf.lt))
            obtain ⟨bY, hc18⟩ := Box.putAll [.slice Ra pl.ar.length na, .slice Rb pl.be.length nb, .slice Rc pl.pr.length nc, .slice Rd pl.af.length nd, .string pl.op, .int .i64 now, .int .i64 0] bXf rfl
            have fmf := (fmd.below hT17).setX hc18 (by have := HF.out; have := HW8.out; omega)
            have HKf : rEnt.K (putCells w17 w8.heap.size 0 [.slice Ra pl.ar.length na, .slice Rb pl.be.length nb, .slice Rc pl.pr.length nc, .slice Rd pl.af.length nd, .string pl.op, .int .i64 now, .int .i64 0]) ⟨pl, now, 0⟩ [.slice Ra pl.ar.length na, .slice Rb pl.be.length nb, .slice Rc pl.pr.length nc, .slice Rd pl.af.length nd, .string pl.op, .int .i64 now, .int .i64 0] := ⟨_, rfl, hc18.K rfl ⟨_, _, _, _, rfl, t1, t2, t3, t4, t5⟩, HNi.out, okZero⟩
            go_wp2_with fail
            go_meet
            exact ⟨⟨pl, now, 0⟩, _, _, _, fmf, bY, HKf, HT.out⟩
          · go_wp2_with (first
              | (refine wp_box_set rfl 3 _ _ rfl (j := 2) (u := .int .i64 (s.misses + 1)) rfl rfl fma.xS rfl rfl rfl siz3 ?_; intro w12 z0 hc12; have fmb := fma.setS hc12 z0; have bXb := hc12.box_ty bXa (by decide); clear f2 fl; obtain ⟨p0, p1, pf, p5⟩ := fmb.xC.two; obtain ⟨q0, q1, q2, q3, qf, ql⟩ := fmb.xG.four)
              | (go_at_call 23; refine (H23.out _ fmb.hB).mono ?_; rintro e w13 ⟨pcs, rfl, hpk, hB13⟩; obtain ⟨pa, pb, pc, pd, rfl, hpa, hpb, hpc, hpd, hpo⟩ := hpk; have fmc := fmb.below hB13; clear p0 p1 pf p5 q0 q1 q2 q3 qf ql)
              | (refine wp_box_store rfl 48 _ _ rfl (us := [pa, pb, pc, pd, .string pl.op]) rfl rfl (Box.mk_ w13 (cs := zPlan) rfl rfl) siz48 rfl (plan_one hpa hpb hpc hpd) ?_; intro w14 z4 hc14; have hB14 := hc14.below (below_one w13 _) (Nat.le_refl _); have fmd := fmc.below hB14; obtain ⟨q0, q1, q2, q3, q4, q5, qf, ql⟩ := fmd.xS.six)
              | (refine wp_box_store rfl 28 _ _ rfl (us := [.slice A4 s.gens.length k4, .int .i64 s.hits, .int .i64 (s.misses + 1), .slice (some ⟨B5, 0, none⟩) l.length k5, .int .i64 s.most, .int .i64 (s.clock + 1)]) rfl rfl fmd.xR siz28 rfl st_one ?_; intro w15 z5 hc15; have z6 := hc15.box_ty fmd.xP (by decide); clear q0 q1 q2 q3 q4 q5 qf ql)
              | (refine wp_box_store rfl 48 _ _ rfl (us := zPlan) rfl rfl z6 siz48 rfl zPlan_one ?_; intro w16 z7 hc16; have z8 := hc16.box_ty z5 (by decide); obtain ⟨q0, q1, q2, q3, q4, q5, qf, ql⟩ := z8.six; obtain ⟨p0, p1, p2, p3, p4, pf, p5⟩ := z7.five)
              | go_in)
            obtain ⟨o1, o2, o3, o4⟩ := fmd.out hc15 hc16
            obtain ⟨kd, hkd⟩ := oldest_ex (fresh (stampS c) ((copiedS s).caches.getD n []))
            have hFS : findS s c n g args kd = ({ tickS s with misses := s.misses + 1 }, emptyPlan, code) := by
              rw [findS, HCa.out.1, HNo.out, HE.out]
              show (if code = 0 then _ else _) = _
              rw [if_neg hz]
            refine bodyPost_ret (v := .tuple #[.agg ([.slice A4 s.gens.length k4, .int .i64 s.hits, .int .i64 (s.misses + 1), .slice (some ⟨B5, 0, none⟩) l.length k5, .int .i64 s.most, .int .i64 (s.clock + 1)] : List Value).toArray, .agg zPlan.toArray, .int .i64 code]) (by simp [results, Tryz.results13, go_sem, q0, q1, q2, q3, q4, q5, p0, p1, p2, p3, p4]) rfl ⟨kd, [.slice A4 s.gens.length k4, .int .i64 s.hits, .int .i64 (s.misses + 1), .slice (some ⟨B5, 0, none⟩) l.length k5, .int .i64 s.most, .int .i64 (s.clock + 1)], zPlan, by rw [hFS]; rfl, hkd, ?_, by rw [hFS]; exact emptyPlan_K _, o4⟩
            rw [hFS]
            exact st_K (s := { tickS s with misses := s.misses + 1 }) o1 o2 (HX.out.2.2.2.1.trans (by rw [HL.out]; rfl)) (fun i x hx => by
              obtain ⟨h, h1, h2⟩ := HX.out.2.2.1 i x (by rw [HL.out]; exact hx)
              exact ⟨h, h1, rMap.mov o3 h2⟩) HS3.out.1 ⟨by show _ ≤ s.misses + 1; omega, by show s.misses + 1 ≤ _; omega⟩ HS3.out.2.2.1 ⟨by show _ ≤ s.clock + 1; omega, by show s.clock + 1 ≤ _; omega⟩
      case rest =>
        obtain ⟨x, xs, h, m, fm, bX, hxK, hTo⟩ := hcut
        obtain ⟨w12, hw12⟩ : ∃ w12, w12 = wc := ⟨_, rfl⟩
        subst hw12
        have hxK2 := Lib.hid hxK
        obtain ⟨xa, xb, xc, xd, rfl, _⟩ := entK_form hxK
        have HCk : Hid (Rp.okInt (s.clock + 1)) := Lib.hid ⟨by omega, by omega⟩
        have HTo := Lib.hid hTo
        clear fma bXa hTo hxK hB8
        have f5 := fm.xS.cell 5 _ rfl
        have fl := fm.xS.lt
        go_upto_region 20 with (first
          | (refine wp_box_set rfl 3 _ _ rfl (j := 6) (u := .int .i64 (s.clock + 1)) rfl rfl bX rfl rfl rfl siz3 ?_; intro w13 bX1 hc13; have fm1 := fm.setX hc13 (by have := HF.out; have := HW8.out; omega); clear f5 fl; have f3 := fm1.xS.cell 3 _ rfl; have fl := fm1.xS.lt; obtain ⟨hcm1, hcmf, hcml, _⟩ := fm1.cellC HX.out.2.2.2.1 HX.out.2.2.2.2.2.1; have HK1 := Lib.hid (entK_used hxK2.out hc13 (s.clock + 1) HCk.out))
          | (go_at_call 40; refine (clone40 cache (.map hd) _ (rMap.mov fm1.hs HX.out.2.2.2.2.2.2)).mono ?_; rintro e w14 ⟨v', rfl, hcl14, hB14⟩; obtain ⟨hv, rfl, hCl⟩ := cloned_of hcl14; have fm2 := fm1.below hB14; have bX2 := bX1.later hB14; clear f3 fl hcm1 hcmf hcml hcl14; have fN := fm2.xN.cell 0 _ rfl)
          | (go_at_call 41; refine (del41 hCl fN).mono ?_; rintro e w15 ⟨rfl, hCl2, hdel⟩)
          | go_in)
        have h3 : FM w w8 w1.heap.size w2.heap.size w7.heap.size [.slice A1 c.classes.length k1, .slice A2 c.history.length k2] [.string g.name, .string g.comb, .int .i64 g.req, .slice C0 g.meths.length n0] now ky (.slice A4 s.gens.length k4) (.slice (some ⟨B5, 0, none⟩) l.length k5) s.gens hdrs [.slice A4 s.gens.length k4, .int .i64 h, .int .i64 m, .slice (some ⟨B5, 0, none⟩) l.length k5, .int .i64 s.most, .int .i64 (s.clock + 1)] w15 ∧ Box w15 w8.heap.size 117 [xa, xb, xc, xd, .string x.plan.op, .int .i64 x.stamp, .int .i64 (s.clock + 1)] ∧ rEnt.K w15 { x with used := s.clock + 1 } [xa, xb, xc, xd, .string x.plan.op, .int .i64 x.stamp, .int .i64 (s.clock + 1)] := by
          have hK2 := K_below HK1.out hB14
          rcases hdel with hB | ⟨b', h1, h2, h3, l', h4⟩
          · exact ⟨fm2.below hB, bX2.later hB, K_below hK2 hB⟩
          · have hz := fm1.hz
            exact ⟨fm2.setD h4 h2 h3 (by have := HF.out; have := HW8.out; omega) (by omega), bX2.grown h2 (bX2.ne_map h4), rEnt.mov (h3 _ rfl) hK2⟩
        obtain ⟨fm3, bX3, hK3⟩ := h3
        have HK3 := Lib.hid hK3
        have hz13 : w8.heap.size ≤ w13.heap.size := fm1.hz
        have hz14 : w13.heap.size ≤ w14.heap.size := hB14.size
        have hz15 : w14.heap.size ≤ w15.heap.size := hdel.elim (fun h => h.size) (fun ⟨_, _, h, _⟩ => h.size)
        clear fm fm1 fm2 bX bX1 bX2 hxK2 HK1 hdel hK3 fN hCl hB14 hc13
        have heq := run_eql_map_nil (P := Tryz.prog) w15 119 114 117 hv Tryz.underlying119
        obtain ⟨isN, hisN⟩ : ∃ isN, isN = hv.isNone := ⟨_, rfl⟩
        rw [← hisN] at heq
        have HN := Lib.hid hisN
        clear hisN
        have hmm := @run_makeMap Tryz.prog
        go_upto_if 110 with fail
        clear heq
        go_cut [18] (fun v wx => ∃ b', v = .map (some b') ∧ w8.heap.size ≤ b' ∧ CacheIs wx b' (fresh now cache) ∧ FM w w8 w1.heap.size w2.heap.size w7.heap.size [.slice A1 c.classes.length k1, .slice A2 c.history.length k2] [.string g.name, .string g.comb, .int .i64 g.req, .slice C0 g.meths.length n0] now ky (.slice A4 s.gens.length k4) (.slice (some ⟨B5, 0, none⟩) l.length k5) s.gens hdrs [.slice A4 s.gens.length k4, .int .i64 h, .int .i64 m, .slice (some ⟨B5, 0, none⟩) l.length k5, .int .i64 s.most, .int .i64 (s.clock + 1)] wx ∧ Box wx w8.heap.size 117 [xa, xb, xc, xd, .string x.plan.op, .int .i64 x.stamp, .int .i64 (s.clock + 1)] ∧ rEnt.K wx { x with used := s.clock + 1 } [xa, xb, xc, xd, .string x.plan.op, .int .i64 x.stamp, .int .i64 (s.clock + 1)])
        case first =>
          cases isN with
          | true =>
            have hfr : Hid (fresh now cache = []) := by
              rcases hCl2 with ⟨_, h⟩ | ⟨b', h, _⟩
              · exact Lib.hid h
              · have := HN.out; rw [h] at this; cases this
            go_wp2_with fail
            go_meet
            exact ⟨_, rfl, Nat.le_trans hz13 (Nat.le_trans hz14 hz15), hfr.out ▸ MapIs.made w15, fm3.below (below_one _ _), bX3.later (below_one _ _), K_below HK3.out (below_one _ _)⟩
          | false =>
            obtain ⟨b', hv', hb', hM'⟩ : ∃ b', hv = some b' ∧ w13.heap.size ≤ b' ∧ CacheIs w15 b' (fresh now cache) := by
              rcases hCl2 with ⟨h, _⟩ | h
              · have := HN.out; rw [h] at this; cases this
              · exact h
            have HV := Lib.hid hv'
            clear hv' hmm
            go_wp2_with fail
            go_meet
            exact ⟨b', by rw [HV.out], Nat.le_trans hz13 hb', hM', fm3, bX3, HK3.out⟩
        case rest =>
          obtain ⟨b', rfl, hb', hM4, fm4, bX4, hK4⟩ := hcut
          obtain ⟨w16, hw16⟩ : ∃ w16, w16 = wc := ⟨_, rfl⟩
          subst hw16
          have HK4 := Lib.hid hK4
          clear hK4 fm3 bX3 HK3 hCl2 hz13 hz14 hz15
          obtain ⟨L1, hL1⟩ : ∃ L1, L1 = fresh now cache := ⟨_, rfl⟩
          rw [← hL1] at hM4
          have HL1 := Lib.hid hL1
          have hpos : ∀ p ∈ L1, 0 ≤ p.2.used := by
            intro p hp
            rw [hL1] at hp
            exact (HOK.out.plans p (by rw [HCa.out.2]; exact (List.mem_filter.1 (show p ∈ List.filter _ cache from hp)).1)).2
          have HPos := Lib.hid hpos
          clear hL1 hpos
          obtain ⟨ev, hev⟩ : ∃ ev, ev = (!hb && (decide (0 < L1.length) && decide (s.most ≤ L1.length))) := ⟨_, rfl⟩
          have HEv := Lib.hid hev
          clear hev
          have hln := hM4.len Tryz.underlying119 3
          have hm4 := fm4.xS.cell 4 _ rfl
          have hml := fm4.xS.lt
          go_upto_region 22 with fail
          go_cut [125] (fun v wx => v = .bool ev ∧ w16 = wx)
          case first =>
            cases hb with
            | true =>
              go_wp2_with fail
              go_meet
              exact ⟨by rw [HEv.out]; rfl, rfl⟩
            | false =>
              by_cases h0 : 0 < L1.length
              · by_cases h1 : s.most ≤ L1.length
                · have HE : Hid (ev = true) := Lib.hid (by rw [HEv.out]; simp [h0, h1])
                  go_wp2_with fail
                  go_meet
                  exact ⟨by rw [HE.out], rfl⟩
                · have HE : Hid (ev = false) := Lib.hid (by rw [HEv.out]; simp [h1])
                  go_wp2_with fail
                  go_meet
                  exact ⟨by rw [HE.out], rfl⟩
              · have HE : Hid (ev = false) := Lib.hid (by rw [HEv.out]; simp [h0])
                have h0' : L1.length = 0 := by omega
                go_wp2_with fail
                go_meet
                exact ⟨by rw [HE.out], rfl⟩
          case rest =>
            obtain ⟨rfl, rfl⟩ := hcut
            clear hln hm4 hml
            go_upto_if 125 with fail
            go_cut [] (fun wx => ∃ kd L2, Oldest kd L1 ∧ L2 = (if ev = true then adel kd L1 else L1) ∧ CacheIs wx b' L2 ∧ FM w w8 w1.heap.size w2.heap.size w7.heap.size [.slice A1 c.classes.length k1, .slice A2 c.history.length k2] [.string g.name, .string g.comb, .int .i64 g.req, .slice C0 g.meths.length n0] now ky (.slice A4 s.gens.length k4) (.slice (some ⟨B5, 0, none⟩) l.length k5) s.gens hdrs [.slice A4 s.gens.length k4, .int .i64 h, .int .i64 m, .slice (some ⟨B5, 0, none⟩) l.length k5, .int .i64 s.most, .int .i64 (s.clock + 1)] wx ∧ Box wx w8.heap.size 117 [xa, xb, xc, xd, .string x.plan.op, .int .i64 x.stamp, .int .i64 (s.clock + 1)] ∧ rEnt.K wx { x with used := s.clock + 1 } [xa, xb, xc, xd, .string x.plan.op, .int .i64 x.stamp, .int .i64 (s.clock + 1)])
            case first =>
              cases ev with
              | true =>
                go_wp2_with (first
                  | (go_at_call 43; refine (oldest43 L1 b' w16 hM4 HPos.out).mono ?_; rintro e w17 ⟨kd, rfl, hok17, hold, hB17⟩; have hM5 := hM4.below hB17; have HO := Lib.hid hold; clear hold)
                  | (refine wp_map_drop _ rfl _ _ 119 114 rfl keysKey Tryz.underlying119 rfl rfl hM5 (X := kd) rfl hok17 ?_; intro w18 hM6 hg6 hs6 hz6)
                  | go_in)
                go_meet
                have hc6 := Chg.of_map hM5 hg6 hs6 hz6
                exact ⟨kd, _, HO.out, rfl, hM6, (fm4.below hB17).setM hc6 (by have := HF.out; have := HW8.out; omega) hb', hc6.box_ty (bX4.later hB17) (by decide), hc6.K rfl (K_below HK4.out hB17)⟩
              | false =>
                obtain ⟨kd, hkd⟩ := oldest_ex L1
                have HO := Lib.hid hkd
                clear hkd
                go_wp2_with fail
                go_meet
                exact ⟨kd, L1, HO.out, rfl, hM4, fm4, bX4, HK4.out⟩
            case rest =>
              obtain ⟨kd, L2, hold, hL2, hM6, fm6, bX6, hK6⟩ := hcut
              obtain ⟨w17, hw17⟩ : ∃ w17, w17 = wc := ⟨_, rfl⟩
              subst hw17
              have HK6 := Lib.hid hK6
              have HO := Lib.hid (And.intro hold hL2)
              clear hold hL2 hK6 fm4 bX4 HK4 hM4
              have hm4 := fm6.xS.cell 4 _ rfl
              have hml := fm6.xS.lt
              go_upto_if 131 with fail
              go_cut [] (fun wx => ∃ L3, L3 = (if 0 < s.most then aput ky { x with used := s.clock + 1 } L2 else L2) ∧ CacheIs wx b' L3 ∧ FM w w8 w1.heap.size w2.heap.size w7.heap.size [.slice A1 c.classes.length k1, .slice A2 c.history.length k2] [.string g.name, .string g.comb, .int .i64 g.req, .slice C0 g.meths.length n0] now ky (.slice A4 s.gens.length k4) (.slice (some ⟨B5, 0, none⟩) l.length k5) s.gens hdrs [.slice A4 s.gens.length k4, .int .i64 h, .int .i64 m, .slice (some ⟨B5, 0, none⟩) l.length k5, .int .i64 s.most, .int .i64 (s.clock + 1)] wx ∧ Box wx w8.heap.size 117 [xa, xb, xc, xd, .string x.plan.op, .int .i64 x.stamp, .int .i64 (s.clock + 1)] ∧ rEnt.K wx { x with used := s.clock + 1 } [xa, xb, xc, xd, .string x.plan.op, .int .i64 x.stamp, .int .i64 (s.clock + 1)])
              case first =>
                clear hm4 hml
                by_cases hp : 0 < s.most
                · have I114' : (Tryz.prog.info? 114).map (·.size) = some (keyCells ky).length := by rw [keyCells_length, hky.1]; exact siz114
                  have HP := Lib.hid hp
                  go_wp2_with (first
                    | (refine wp_box_load rfl 114 _ rfl rfl fm6.xK Tryz.underlying114 rfl I114' ?_)
                    | (refine wp_box_load rfl 117 _ rfl rfl bX6 Tryz.underlying117 rfl siz117 ?_)
                    | (refine wp_map_store _ rfl _ _ _ 119 rfl keysKey Tryz.underlying119 rfl rfl hM6 (X := ky) rfl hky (y := { x with used := s.clock + 1 }) (cs := [xa, xb, xc, xd, .string x.plan.op, .int .i64 x.stamp, .int .i64 (s.clock + 1)]) rfl HK6.out ?_; intro w18 hM7 hg7 hs7 hz7)
                    | go_in)
                  go_meet
                  have hc7 := Chg.of_map hM6 hg7 hs7 hz7
                  exact ⟨_, by rw [if_pos HP.out], hM7, fm6.setM hc7 (by have := HF.out; have := HW8.out; omega) hb', hc7.box_ty bX6 (by decide), hc7.K rfl HK6.out⟩
                · have HP := Lib.hid hp
                  go_wp2_with fail
                  go_meet
                  exact ⟨L2, by rw [if_neg (by have := HP.out; omega)], hM6, fm6, bX6, HK6.out⟩
              case rest =>
                obtain ⟨L3, hL3, hM7, fm7, bX7, hK7⟩ := hcut
                obtain ⟨w18, hw18⟩ : ∃ w18, w18 = wc := ⟨_, rfl⟩
                subst hw18
                have HK7 := Lib.hid hK7
                have hcs : L3 = cacheS s.most now ky kd { x with used := s.clock + 1 } hb cache := by
                  rw [hL3, HO.out.2, cacheS, ← HL1.out]
                  have e : (ev = true) ↔ (hb = false ∧ L1 ≠ [] ∧ s.most ≤ (L1.length : Int)) := by
                    rw [HEv.out]
                    cases hb <;> simp [List.length_pos_iff]
                  by_cases he : ev = true
                  · rw [if_pos he, if_pos (e.1 he)]
                  · rw [if_neg he, if_neg (fun h => he (e.2 h))]
                have HCS := Lib.hid hcs
                clear hL3 hcs hK7 fm6 bX6 HK6 hM6
                have f3 := fm7.xS.cell 3 _ rfl
                have fl := fm7.xS.lt
                obtain ⟨hcm1, hcmf, hcml, hcB⟩ := fm7.cellC HX.out.2.2.2.1 HX.out.2.2.2.2.2.1
                go_wp2_with fail
                obtain ⟨w19, hw19, fm8, bX8, HK8, hM8⟩ := step_caches (n := n) (b' := b') fm7 HX.out.2.2.2.1 (by omega) bX7 HK7.out hM7
                rw [← hw19]
                clear hw19
                clear fm7 bX7 HK7 hM7 f3 fl hcm1 hcmf hcml hcB
                obtain ⟨hTo1, hTo2, hTo3, hTo4, hTo5⟩ := HTo.out
                have HFS := Lib.hid (hTo5 kd)
                have HIM := Lib.hid (And.intro hTo3 hTo4)
                have hkp : rPlan.K w19 x.plan [xa, xb, xc, xd, .string x.plan.op] := entK_plan HK8
                have H39 := Lib.hid (fun w' (hB : Below w19.heap.size w19 w') => owned39 x.plan _ w' (K_below hkp hB) hTo1)
                clear hTo1 hTo2 hTo3 hTo4 hTo5 hkp
                obtain ⟨q0, q1, q2, q3, q4, q5, qf, ql⟩ := fm8.xS.six
                have e0 := bX8.cell 0 _ rfl
                have e1 := bX8.cell 1 _ rfl
                have e2 := bX8.cell 2 _ rfl
                have e3 := bX8.cell 3 _ rfl
                have e4 := bX8.cell 4 _ rfl
                have el := bX8.lt
                have g1 := HF.out
                have g2 := HW8.out
                have ne1 : ¬ w8.heap.size = w.heap.size + 1 + 1 := by omega
                have ne2 : ¬ w.heap.size + 1 + 1 = w8.heap.size := by omega
                have ne3 : ¬ w8.heap.size = w.heap.size + 1 + 1 + 1 := by omega
                have ne4 : ¬ w.heap.size + 1 + 1 + 1 = w8.heap.size := by omega
                have ne5 : ¬ w.heap.size = w.heap.size + 1 + 1 := by omega
                have ne6 : ¬ w.heap.size + 1 + 1 = w.heap.size := by omega
                have ne7 : ¬ w.heap.size = w.heap.size + 1 + 1 + 1 := by omega
                have ne8 : ¬ w.heap.size + 1 + 1 + 1 = w.heap.size := by omega
                clear g1 g2
                go_region_held3 (fun w' => w'.cell? ⟨w.heap.size, 0, none⟩ = some (.slice A4 s.gens.length k4) ∧ w'.cell? ⟨w.heap.size, 1, none⟩ = some (.int .i64 h) ∧ w'.cell? ⟨w.heap.size, 2, none⟩ = some (.int .i64 m) ∧ w'.cell? ⟨w.heap.size, 3, none⟩ = some (.slice (some ⟨B5, 0, none⟩) l.length k5) ∧ w'.cell? ⟨w.heap.size, 4, none⟩ = some (.int .i64 s.most) ∧ w'.cell? ⟨w.heap.size, 5, none⟩ = some (.int .i64 (s.clock + 1)) ∧
                    w'.cell? ⟨w8.heap.size, 0, none⟩ = some xa ∧ w'.cell? ⟨w8.heap.size, 1, none⟩ = some xb ∧ w'.cell? ⟨w8.heap.size, 2, none⟩ = some xc ∧ w'.cell? ⟨w8.heap.size, 3, none⟩ = some xd ∧ w'.cell? ⟨w8.heap.size, 4, none⟩ = some (.string x.plan.op))
                  (go_keep)
                  (first | (go_at_call 39; refine (H39.out _ (below_drew w19)).mono ?_; rintro e w20 ⟨cs2, rfl, ⟨ra, rb, rc, rd, rfl, t1, t2, t3, t4, t5⟩, hB20⟩; obtain ⟨Ra, na, rfl⟩ := slice_form t1; obtain ⟨Rb, nb, rfl⟩ := slice_form t2; obtain ⟨Rc, nc, rfl⟩ := slice_form t3; obtain ⟨Rd, nd, rfl⟩ := slice_form t4; have hT20 := below_to (below_drew w19) hB20; obtain ⟨hcc, hcf⟩ := bcell hT20; have fm9 := fm8.below hT20; obtain ⟨m0, m1, m2, m3, m4, m5, mf, ml⟩ := fm9.xR.six; obtain ⟨v0, v1, v2, v3, v4, vf, vl⟩ := fm9.xP.five))
                obtain ⟨zR, hcR⟩ := Box.putAll [.slice A4 s.gens.length k4, .int .i64 h, .int .i64 m, .slice (some ⟨B5, 0, none⟩) l.length k5, .int .i64 s.most, .int .i64 (s.clock + 1)] fm9.xR rfl
                obtain ⟨zP, hcP⟩ := Box.putAll [.slice Ra x.plan.ar.length na, .slice Rb x.plan.be.length nb, .slice Rc x.plan.pr.length nc, .slice Rd x.plan.af.length nd, .string x.plan.op] (hcR.box_ty fm9.xP (by decide)) rfl
                obtain ⟨o1, o2, o3, o4⟩ := fm9.out hcR hcP
                have hM9 := hcP.map (hcR.map (hM8.below hT20) (by decide) rfl) (by decide) rfl
                have hKP : rPlan.K (putCells (putCells w20 (w.heap.size + 1 + 1) 0 [.slice A4 s.gens.length k4, .int .i64 h, .int .i64 m, .slice (some ⟨B5, 0, none⟩) l.length k5, .int .i64 s.most, .int .i64 (s.clock + 1)]) (w.heap.size + 1 + 1 + 1) 0 [.slice Ra x.plan.ar.length na, .slice Rb x.plan.be.length nb, .slice Rc x.plan.pr.length nc, .slice Rd x.plan.af.length nd, .string x.plan.op]) x.plan [.slice Ra x.plan.ar.length na, .slice Rb x.plan.be.length nb, .slice Rc x.plan.pr.length nc, .slice Rd x.plan.af.length nd, .string x.plan.op] :=
                  hcP.K rfl (hcR.K rfl (⟨_, _, _, _, rfl, t1, t2, t3, t4, t5⟩ : rPlan.K w20 x.plan [.slice Ra x.plan.ar.length na, .slice Rb x.plan.be.length nb, .slice Rc x.plan.pr.length nc, .slice Rd x.plan.af.length nd, .string x.plan.op]))
                have hst := st_tail (h := h) (m := m) (now := now) (ky := ky) (kd := kd) (x := { x with used := s.clock + 1 }) (hb := hb) HL.out HX.out.2.2.2.2.1 HX.out.2.2.1 HX.out.2.2.2.1 HCS.out o1 o2 o3 hM9 HIM.out.1 HIM.out.2 HS3.out.2.2.1 HCk.out
                have HZ := Lib.hid (And.intro hKP (And.intro hst o4))
                clear zR zP hcR hcP o1 o2 o3 o4 hM9 hKP hst
                go_wp2_with fail
                refine bodyPost_ret (v := .tuple #[.agg ([.slice A4 s.gens.length k4, .int .i64 h, .int .i64 m, .slice (some ⟨B5, 0, none⟩) l.length k5, .int .i64 s.most, .int .i64 (s.clock + 1)] : List Value).toArray, .agg ([.slice Ra x.plan.ar.length na, .slice Rb x.plan.be.length nb, .slice Rc x.plan.pr.length nc, .slice Rd x.plan.af.length nd, .string x.plan.op] : List Value).toArray, .int .i64 0]) ?_ rfl ?_
                · simp [results, Tryz.results13, go_sem, m0, m1, m2, m3, m4, m5, v0, v1, v2, v3, v4]
                · refine ⟨kd, [.slice A4 s.gens.length k4, .int .i64 h, .int .i64 m, .slice (some ⟨B5, 0, none⟩) l.length k5, .int .i64 s.most, .int .i64 (s.clock + 1)], [.slice Ra x.plan.ar.length na, .slice Rb x.plan.be.length nb, .slice Rc x.plan.pr.length nc, .slice Rd x.plan.af.length nd, .string x.plan.op], by rw [HFS.out]; rfl, ?_, ?_, ?_, ?_⟩
                  · rw [← HNow.out, HCa.out.1, ← HL1.out]
                    exact HO.out.1
                  · rw [HFS.out]
                    exact HZ.out.2.1
                  · rw [HFS.out]
                    exact HZ.out.1
                  · exact HZ.out.2.2
end Go.Proofs.YtoncaejgflfhhaaGreatDoor
