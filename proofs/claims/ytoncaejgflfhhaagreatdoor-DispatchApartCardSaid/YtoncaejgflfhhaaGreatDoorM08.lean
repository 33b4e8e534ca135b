/- dispatch's states: copied, changed. -/
import Derived.Test.YtoncaejgflfhhaaGreatDoorM07
import Derived.Test.YtoncaejgflfhhaaGreatDoorM01
set_option linter.unusedVariables false
set_option linter.unusedSimpArgs false
namespace Go.Proofs.YtoncaejgflfhhaaGreatDoor
open Go.RowKit

def padC (n : Nat) (l : List (List (Key × Ent))) : List (List (Key × Ent)) := l ++ List.replicate (n - l.length) []
def copiedS (s : St) : St := { s with caches := padC s.gens.length s.caches }
def okS (s : St) : Prop := Rp.okInt s.hits ∧ Rp.okInt s.misses ∧ Rp.okInt s.most ∧ Rp.okInt s.clock
/-- A state whose lists are of one's own. -/
def OwnSt (base : Nat) (w : World) (s : St) (cs : List Value) : Prop :=
  ∃ g c, cs = [g, .int .i64 s.hits, .int .i64 s.misses, c, .int .i64 s.most, .int .i64 s.clock] ∧ Own 80 rGen base w g s.gens ∧ Own 119 rMap base w c s.caches ∧ okS s
theorem OwnSt.read {base : Nat} {w : World} {s : St} {cs : List Value} : OwnSt base w s cs → rSt.K w s cs
  | ⟨g, c, h, h1, h2, h3⟩ => ⟨g, c, h, h1.read, h2.read, h3⟩

set_option maxRecDepth 100000 in
theorem copied30 (s : St) (cs : List Value) (w : World) (h : rSt.K w s cs) (hg : s.gens.length ≤ 100000) (hc : s.caches.length ≤ 100000) :
    Calls Tryz.prog 30 #[rSt.val cs] w fun e w' => ∃ cs', e = .returned (rSt.val cs') ∧ OwnSt w.heap.size w' (copiedS s) cs' ∧ Below w.heap.size w w' := by
  obtain ⟨g, c, rfl, h1, h2, h3⟩ := h
  rw [rSt_val]
  have H1 := Lib.hid (fun w' (hb : Below w.heap.size w w') => clone74 rGen rfl rfl (some 80) s.gens g w' (K_below h1 hb) (by omega))
  have H2 := Lib.hid (fun w' (hb : Below w.heap.size w w') => clone75 rMap rfl rfl (some 119) s.caches c w' (K_below h2 hb) (by omega))
  have H3 := Lib.hid h3
  obtain ⟨A0, k0, rfl⟩ := slice_form h1
  obtain ⟨B0, m0, rfl⟩ := slice_form h2
  clear h1 h2 h3
  obtain ⟨W0, hW0⟩ : ∃ W, W = (w.alloc (.cells #[.slice A0 s.gens.length k0, .int .i64 s.hits, .int .i64 s.misses, .slice B0 s.caches.length m0, .int .i64 s.most, .int .i64 s.clock] 28)).alloc (.cells #[.slice none 0 0, .int .i64 0, .int .i64 0, .slice none 0 0, .int .i64 0, .int .i64 0] 28) := ⟨_, rfl⟩
  have hB0 : Below w.heap.size w W0 := hW0 ▸ below_more (below_one _ _) _
  have b0 : Box W0 w.heap.size 28 [.slice A0 s.gens.length k0, .int .i64 s.hits, .int .i64 s.misses, .slice B0 s.caches.length m0, .int .i64 s.most, .int .i64 s.clock] := hW0 ▸ (Box.mk_ _ rfl rfl).alloc _
  have b1 : Box W0 (w.heap.size + 1) 28 [.slice none 0 0, .int .i64 0, .int .i64 0, .slice none 0 0, .int .i64 0, .int .i64 0] := hW0 ▸ Box.mk_ _ (by simp) rfl
  have HW0 := Lib.hid hW0
  have hlt := b0.lt
  have d0 := b0.cell 0 _ rfl
  have d3 := b0.cell 3 _ rfl
  clear hW0
  go_enter Tryz.func30, Tryz.ntmps30
  go_wp2_with (first
    | (go_at_call 74; rw [← HW0.out]; refine (H1.out _ hB0).mono ?_; rintro e w1 ⟨v1, rfl, hO1, hB1⟩; have hT1 := below_to hB0 hB1; obtain ⟨A1, k1, rfl, _⟩ := hO1.row; have x0 := b0.later hB1; have y0 := b1.later hB1; obtain ⟨p0, p1, p2, p3, p4, p5, pf, pl⟩ := x0.six; have hs1 := hO1.set_box x0 (by decide) rfl 0 (.slice A1 s.gens.length k1); have x1 := x0.set 0 (.slice A1 s.gens.length k1); have y1 := y0.other (p := ⟨w.heap.size, 0, none⟩) (by simp) (.slice A1 s.gens.length k1); have hT1' := below_set hT1 (p := ⟨w.heap.size, 0, none⟩) (Nat.le_refl _) (.slice A1 s.gens.length k1))
    | (go_at_call 75; refine (H2.out _ hT1').mono ?_; rintro e w2 ⟨v2, rfl, hO2, hB2⟩; have hT2 := below_to hT1' hB2; obtain ⟨A2, k2, rfl, _⟩ := hO2.row; have x2 := x1.later hB2; have y2 := y1.later hB2; have hs2 := hs1.below hB2; obtain ⟨q0, q1, q2, q3, q4, q5, qf, ql⟩ := x2.six)
    | go_in)
  have hA := (x2.set 3 (.slice A2 s.caches.length k2))
  have hB' := y2.other (p := ⟨w.heap.size, 3, none⟩) (by simp) (.slice A2 s.caches.length k2)
  have hC := (hO2.set_box x2 (by decide) rfl 3 (.slice A2 s.caches.length k2)).lower (Nat.le_trans hB0.size (Nat.le_trans hB1.size (by simp)))
  have hD := (hs2.set_box x2 (by decide) rfl 3 (.slice A2 s.caches.length k2)).lower hB0.size
  have hE := below_set hT2 (p := ⟨w.heap.size, 3, none⟩) (Nat.le_refl _) (.slice A2 s.caches.length k2)
  clear hO1 x0 y0 x1 y1 hs1 hT1 hT1' hB1 hB2 b0 b1 d0 d3 x2 y2 hs2 hT2 hO2 H1 H2
  go_loopw [11] (fun _ wr => ∃ (k : Nat) (v : Value), k ≤ s.gens.length - s.caches.length ∧ Box wr w.heap.size 28 [.slice A1 s.gens.length k1, .int .i64 s.hits, .int .i64 s.misses, v, .int .i64 s.most, .int .i64 s.clock] ∧
    Box wr (w.heap.size + 1) 28 [.slice none 0 0, .int .i64 0, .int .i64 0, .slice none 0 0, .int .i64 0, .int .i64 0] ∧ Own 119 rMap w.heap.size wr v (s.caches ++ List.replicate k []) ∧ Own 80 rGen w.heap.size wr (.slice A1 s.gens.length k1) s.gens ∧ Below w.heap.size w wr)
    (fun _ wr => s.gens.length - lenAt wr w.heap.size 3)
  case atStart => exact ⟨0, _, Nat.zero_le _, hA, hB', by simpa using hC, hD, hE⟩
  case round =>
    obtain ⟨k, v, hk, x, y, hO, hG, hB⟩ := hrel
    obtain ⟨p0, p1, p2, p3, p4, p5, pf, pl⟩ := x.six
    obtain ⟨q0, q1, q2, q3, q4, q5, qf, ql⟩ := y.six
    obtain ⟨l, hl⟩ : ∃ l, l = s.caches ++ List.replicate k [] := ⟨_, rfl⟩
    have hll : l.length = s.caches.length + k := by rw [hl]; simp
    rw [← hl] at hO
    have HL := Lib.hid (And.intro hl hll)
    obtain ⟨Av, kv, rfl, _⟩ := hO.row
    have hbb : (l.length < s.gens.length → (l.length + 1) * 8 ≤ 140737488355328 ∧ l.length + 1 ≤ maxLen) := fun h => ⟨by omega, by unfold maxLen; omega⟩
    have HBB := Lib.hid hbb
    clear hl hll hbb hA hB' hC hD hE
    by_cases hlt : l.length < s.gens.length
    · have hcell := (K_below (d := rMap) (x := []) (cs := [.map none]) (.inl ⟨rfl, rfl⟩) (Below.refl wr.heap.size wr))
      have HC := Lib.hid (And.intro hcell (HBB.out hlt))
      clear hcell
      go_wp2_with (first
        | (at_builtin; refine wp_app1 (cs := [.map none]) (t' := 119) (y := ([] : List (Key × Ent))) rfl _ _ 26 rfl Tryz.underlying26 inf119 rfl (by decide) rfl hO rfl rfl HC.out.1 HC.out.2.1 HC.out.2.2 (Nat.le_of_lt pl) ?_; intro gg cap w3 hAp; have x3 := hAp.box hO x (by decide); have y3 := hAp.box hO y (by decide); obtain ⟨r0, r1, r2, r3, r4, r5, rf, rl⟩ := x3.six)
        | go_in)
      have x4 := x3.set 3 (.slice (some ⟨gg, 0, none⟩) (l.length + 1) cap)
      have y4 := y3.other (p := ⟨w.heap.size, 3, none⟩) (by simp) (.slice (some ⟨gg, 0, none⟩) (l.length + 1) cap)
      have hO4 := hAp.own.set_box x3 (by decide) rfl 3 (.slice (some ⟨gg, 0, none⟩) (l.length + 1) cap)
      have hg4 : Own 80 rGen w.heap.size w3 (.slice A1 s.gens.length k1) s.gens := hAp.beside hO hG (by decide) rfl
      have hG4 := hg4.set_box x3 (by decide) rfl 3 (.slice (some ⟨gg, 0, none⟩) (l.length + 1) cap)
      have hB4 := below_set (hAp.step hO hB (Nat.le_refl _)) (p := ⟨w.heap.size, 3, none⟩) (Nat.le_refl _) (.slice (some ⟨gg, 0, none⟩) (l.length + 1) cap)
      go_roundw
      case rel => exact ⟨k + 1, _, by have := HL.out.2; omega, x4, y4, by rw [List.replicate_succ', ← List.append_assoc, ← HL.out.1]; exact hO4, hG4, hB4⟩
      case measure =>
        rw [lenAt_of p3, lenAt_of (x4.cell 3 _ rfl)]
        omega
    · go_wp2
      refine bodyPost_ret (v := rSt.val [.slice A1 s.gens.length k1, .int .i64 s.hits, .int .i64 s.misses, .slice Av l.length kv, .int .i64 s.most, .int .i64 s.clock]) ?_ rfl ?_
      · simp [results, Tryz.results30, go_sem, q0, q1, q2, q3, q4, q5]
      · have hll := HL.out.2
        have e1 : (copiedS s).caches = l := by
          show padC s.gens.length s.caches = l
          unfold padC
          rw [HL.out.1, show s.gens.length - s.caches.length = k by omega]
        refine ⟨_, rfl, ⟨_, _, rfl, ?_, ?_, H3.out⟩, ?_⟩
        · exact Own.put_box (by decide) rfl [.slice A1 s.gens.length k1, .int .i64 s.hits, .int .i64 s.misses, .slice Av l.length kv, .int .i64 s.most, .int .i64 s.clock] 0 hG y
        · rw [e1]
          exact Own.put_box (by decide) rfl [.slice A1 s.gens.length k1, .int .i64 s.hits, .int .i64 s.misses, .slice Av l.length kv, .int .i64 s.most, .int .i64 s.clock] 0 hO y
        · exact below_put (by omega) [.slice A1 s.gens.length k1, .int .i64 s.hits, .int .i64 s.misses, .slice Av l.length kv, .int .i64 s.most, .int .i64 s.clock] 0 hB

theorem siz28 : (Tryz.prog.info? 28).map (·.size) = some 6 := by kernel_rfl
theorem siz80 : (Tryz.prog.info? 80).map (·.size) = some 4 := by kernel_rfl
theorem slice_cell {A : Option Addr} {n c : Nat} : (Value.slice A n c).oneCell' = true := rfl
def emptySt : St := ⟨[], 0, 0, [], 0, 0⟩
theorem nil_K {α : Type} (e : Option Nat) (d : Rp α) (w : World) : (Rp.slice e d).K w [] [.slice none 0 0] := ⟨none, 0, rfl, Nat.le_refl _, Nat.zero_le _, fun _ => rfl, .inl rfl⟩
theorem emptySt_K (w : World) : rSt.K w emptySt [.slice none 0 0, .int .i64 0, .int .i64 0, .slice none 0 0, .int .i64 0, .int .i64 0] :=
  ⟨_, _, rfl, nil_K _ _ w, nil_K _ _ w, ⟨by decide, by decide⟩, ⟨by decide, by decide⟩, ⟨by decide, by decide⟩, ⟨by decide, by decide⟩⟩
def changedS (s : St) (i : Nat) (g : Gen) (e : Int) : St × Int :=
  if e = 0 then ({ copiedS s with gens := s.gens.set i g, caches := (copiedS s).caches.set i [] }, 0) else (emptySt, e)

theorem padC_length (n : Nat) (l : List (List (Key × Ent))) : n ≤ (padC n l).length := by
  unfold padC
  rw [List.length_append, List.length_replicate]
  omega
theorem padC_length_le (n m : Nat) (l : List (List (Key × Ent))) (h : l.length ≤ m) (h' : n ≤ m) : (padC n l).length ≤ m := by
  unfold padC
  rw [List.length_append, List.length_replicate]
  omega

set_option maxHeartbeats 1000000 in
set_option maxRecDepth 100000 in
theorem changed33 (s : St) (cs : List Value) (i : Nat) (g : Gen) (gcs : List Value) (e : Int) (w : World) (h : rSt.K w s cs) (hgk : rGen.K w g gcs) (hi : i < s.gens.length) (hg : s.gens.length ≤ 100000) (hc : s.caches.length ≤ 100000) :
    Calls Tryz.prog 33 #[rSt.val cs, .int .i64 i, rGen.val gcs, .int .i64 e] w (RE rSt (changedS s i g e) w) := by
  unfold changedS
  obtain ⟨l, hl⟩ : ∃ l, l = (copiedS s).caches := ⟨_, rfl⟩
  rw [← hl]
  have hll : i < l.length := by rw [hl]; exact Nat.lt_of_lt_of_le hi (padC_length _ _)
  have H := Lib.hid (fun w' (hb : Below w.heap.size w w') => (copied30 s cs w' (K_below h hb) hg hc).mono (R' := fun e w'' => ∃ v c, e = .returned (.agg #[v, .int .i64 s.hits, .int .i64 s.misses, c, .int .i64 s.most, .int .i64 s.clock]) ∧ Own 80 rGen w'.heap.size w'' v s.gens ∧ Own 119 rMap w'.heap.size w'' c l ∧ Below w'.heap.size w' w'')
    (by rintro e w1 ⟨cs1, rfl, ⟨v, c, rfl, h1, h2, _⟩, hB⟩; exact ⟨v, c, rfl, h1, by rw [hl]; exact h2, hB⟩))
  have HN := Lib.hid (And.intro (show s.gens ≠ [] from fun hn => by rw [hn] at hi; simp at hi) (show l ≠ [] from fun hn => by rw [hn] at hll; simp at hll))
  clear hl
  obtain ⟨sg, sc, rfl, h1, h2, h3⟩ := h
  obtain ⟨A0, k0, rfl⟩ := slice_form h1
  obtain ⟨B0, m0, rfl⟩ := slice_form h2
  obtain ⟨gm, rfl, hgm, hg1, hg2, hg3⟩ := hgk
  obtain ⟨C0, n0, rfl⟩ := slice_form hgm
  have HG0 := Lib.hid (show rGen.K w g [.string g.name, .string g.comb, .int .i64 g.req, .slice C0 g.meths.length n0] from ⟨_, rfl, hgm, hg1, hg2, hg3⟩)
  have HG := Lib.hid (And.intro hgm (And.intro hg1 (And.intro hg2 hg3)))
  rw [rSt_val] at H
  rw [rSt_val, rGen_val]
  have HS := Lib.hid h3
  clear h1 h2 h3 hgm hg1 hg2 hg3
  obtain ⟨W0, hW0⟩ : ∃ W, W = ((w.alloc (.cells #[.slice A0 s.gens.length k0, .int .i64 s.hits, .int .i64 s.misses, .slice B0 s.caches.length m0, .int .i64 s.most, .int .i64 s.clock] 28)).alloc (.cells #[.string g.name, .string g.comb, .int .i64 g.req, .slice C0 g.meths.length n0] 80)).alloc (.cells #[.slice none 0 0, .int .i64 0, .int .i64 0, .slice none 0 0, .int .i64 0, .int .i64 0] 28) := ⟨_, rfl⟩
  have hB0 : Below w.heap.size w W0 := hW0 ▸ below_more (below_more (below_one _ _) _) _
  have b0 : Box W0 w.heap.size 28 [.slice A0 s.gens.length k0, .int .i64 s.hits, .int .i64 s.misses, .slice B0 s.caches.length m0, .int .i64 s.most, .int .i64 s.clock] := hW0 ▸ ((Box.mk_ _ rfl rfl).alloc _).alloc _
  have b1 : Box W0 (w.heap.size + 1) 80 [.string g.name, .string g.comb, .int .i64 g.req, .slice C0 g.meths.length n0] := hW0 ▸ (Box.mk_ _ (by simp) rfl).alloc _
  have b2 : Box W0 (w.heap.size + 1 + 1) 28 [.slice none 0 0, .int .i64 0, .int .i64 0, .slice none 0 0, .int .i64 0, .int .i64 0] := hW0 ▸ Box.mk_ _ (by simp) rfl
  have HW0 := Lib.hid hW0
  clear hW0
  by_cases he : e = 0
  · subst he
    rw [if_pos rfl]
    obtain ⟨p0, p1, p2, p3, p4, p5, pf, pl⟩ := b0.six
    go_enter Tryz.func33, Tryz.ntmps33
    go_wp2_with (first
      | (go_at_call 30; rw [← HW0.out]; refine (H.out _ hB0).mono ?_; rintro e w1 ⟨v1, v2, rfl, hO1, hO2, hB1⟩; have hT1 := below_to hB0 hB1; obtain ⟨A1, k1, rfl⟩ := hO1.shape HN.out.1; obtain ⟨A2, k2, rfl⟩ := hO2.shape HN.out.2; have x0 := b0.later hB1; have y0 := b1.later hB1; have z0 := b2.later hB1; have oc1 : ∀ u ∈ [Value.slice (some ⟨A1, 0, none⟩) s.gens.length k1, .int .i64 s.hits, .int .i64 s.misses, .slice (some ⟨A2, 0, none⟩) l.length k2, .int .i64 s.most, .int .i64 s.clock], u.oneCell' = true := (by simp [Value.oneCell']))
      | (refine wp_box_store rfl 28 _ _ rfl (us := [.slice (some ⟨A1, 0, none⟩) s.gens.length k1, .int .i64 s.hits, .int .i64 s.misses, .slice (some ⟨A2, 0, none⟩) l.length k2, .int .i64 s.most, .int .i64 s.clock]) rfl rfl x0 siz28 rfl oc1 ?_; intro w2 x2 hc2; have y2 := hc2.box y0 (by simp); have z2 := hc2.box z0 (by omega); have hO3 := hc2.own hO1 (by decide) rfl; have hO4 := hc2.own hO2 (by decide) rfl; have hT2 := hc2.below hT1 (Nat.le_refl _); obtain ⟨q0, q1, q2, q3, q4, q5, qf, ql⟩ := x2.six; obtain ⟨r0, r1, r2, r3, rf, rl⟩ := y2.four; have hkg := (hc2.K (d := rGen) rfl (rGen.mov (Same.of_below hT1) HG0.out)))
      | (refine wp_own_store rfl 80 _ _ rfl (us := [.string g.name, .string g.comb, .int .i64 g.req, .slice C0 g.meths.length n0]) (sz := 4) (i := i) (by rfl) (by rfl) hO3 rfl hi hkg rfl rfl siz80 ?_; intro w3 hO5 hc3; have x3 := hc3.box_ty x2 (by decide); have z3 := hc3.box_ty z2 (by decide); have hO6 := hc3.own hO4 (by decide) rfl; have hT3 := hc3.below hT2 (Nat.le_trans hB0.size (hO3.ge A1 rfl).1); obtain ⟨q0, q1, q2, q3, q4, q5, qf, ql⟩ := x3.six; obtain ⟨u0, gc0, gf, gl, _⟩ := hO6.get1 rfl rfl i hll; have na : ¬ A2 = w.heap.size := (by have := (hO6.ge A2 rfl).1; have := b0.lt; omega); have nb : ¬ A2 = w.heap.size + 1 + 1 := (by have := (hO6.ge A2 rfl).1; have := b2.lt; omega); clear r0 r1 r2 r3 rf rl p0 p1 p2 p3 p4 p5 pf pl hkg; obtain ⟨t0, t1, t2, t3, t4, t5, tf, tl⟩ := z3.six)
      | go_in)
    obtain ⟨hP, hPg, hPs⟩ := hO6.put1 rfl rfl hll (x := []) (u := .map none) (.inl ⟨rfl, rfl⟩) rfl
    have c4 := hO6.chg hPg hPs (by simp [World.setCell])
    have z4 := c4.box_ty z3 (by decide)
    have hO7 := c4.own hO5 (by decide) rfl
    have hT4 := c4.below hT3 (Nat.le_trans hB0.size (hO6.ge A2 rfl).1)
    refine bodyPost_ret (v := .tuple #[.agg #[.slice (some ⟨A1, 0, none⟩) s.gens.length k1, .int .i64 s.hits, .int .i64 s.misses, .slice (some ⟨A2, 0, none⟩) l.length k2, .int .i64 s.most, .int .i64 s.clock], .int .i64 0]) ?_ rfl ?_
    · simp [results, Tryz.results33, go_sem, t0, t1, t2, t3, t4, t5]
    · refine ⟨[.slice (some ⟨A1, 0, none⟩) s.gens.length k1, .int .i64 s.hits, .int .i64 s.misses, .slice (some ⟨A2, 0, none⟩) l.length k2, .int .i64 s.most, .int .i64 s.clock], ?_, ?_, ?_⟩
      · rfl
      · refine ⟨_, _, rfl, ?_, ?_, HS.out⟩
        · have := K_put (d := sGen) rfl [.slice (some ⟨A1, 0, none⟩) s.gens.length k1, .int .i64 s.hits, .int .i64 s.misses, .slice (some ⟨A2, 0, none⟩) l.length k2, .int .i64 s.most, .int .i64 s.clock] 0 (by have := hO7.read; exact this) z4
          exact this
        · have := K_put (d := sMap) rfl [.slice (some ⟨A1, 0, none⟩) s.gens.length k1, .int .i64 s.hits, .int .i64 s.misses, .slice (some ⟨A2, 0, none⟩) l.length k2, .int .i64 s.most, .int .i64 s.clock] 0 hP.read z4
          exact this
      · have := below_put (b := w.heap.size + 1 + 1) (by omega) [.slice (some ⟨A1, 0, none⟩) s.gens.length k1, .int .i64 s.hits, .int .i64 s.misses, .slice (some ⟨A2, 0, none⟩) l.length k2, .int .i64 s.most, .int .i64 s.clock] 0 hT4
        exact this
  · rw [if_neg he]
    have hne : (e != 0) = true := by simpa using he
    go_enter Tryz.func33, Tryz.ntmps33
    go_wp2
    refine bodyPost_ret (v := .tuple #[.agg #[.slice none 0 0, .int .i64 0, .int .i64 0, .slice none 0 0, .int .i64 0, .int .i64 0], .int .i64 e]) ?_ rfl ?_
    · simp [results, Tryz.results33, go_sem]
    · refine ⟨[.slice none 0 0, .int .i64 0, .int .i64 0, .slice none 0 0, .int .i64 0, .int .i64 0], ?_, ?_, ?_⟩
      · rfl
      · exact emptySt_K _
      · exact below_more (below_more (below_one _ _) _) _
end Go.Proofs.YtoncaejgflfhhaaGreatDoor
