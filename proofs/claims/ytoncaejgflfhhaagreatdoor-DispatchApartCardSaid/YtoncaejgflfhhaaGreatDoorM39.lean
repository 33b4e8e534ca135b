/- dispatch's Ensure. -/
import Derived.Test.YtoncaejgflfhhaaGreatDoorM32
import Derived.Test.YtoncaejgflfhhaaGreatDoorM38
set_option linter.unusedVariables false
set_option linter.unusedSimpArgs false
namespace Go.Proofs.YtoncaejgflfhhaaGreatDoor
open Go.RowKit

/-- What is returned reads as r.1, beside a number and an error. -/
def RE3 {α : Type} (d : Rp α) (r : α × Int × Int) (w : World) (e : Ending) (w' : World) : Prop := ∃ cs, e = .returned (.tuple #[d.val cs, .int .i64 r.2.1, .int .i64 r.2.2]) ∧ d.K w' r.1 cs ∧ Below w.heap.size w w'

theorem siz25 : (Tryz.prog.info? 25).map (·.size) = some 1 := by kernel_rfl
theorem siz26 : (Tryz.prog.info? 26).map (·.size) = some 1 := by kernel_rfl
def newGenS (s : St) (r : Gen × Int) : St × Int × Int :=
  if r.2 = 0 then
    if 200 ≤ s.gens.length then (emptySt, 0, 9)
    else ({ copiedS s with gens := s.gens ++ [r.1], caches := (copiedS s).caches ++ [[]] }, s.gens.length, 0)
  else (emptySt, 0, r.2)
def ensureS (s : St) (n c : ByteArray) (r : Int) : St × Int × Int :=
  match s.gens.findIdx? (fun x => decide (x.name = n)) with
  | some i => match s.gens[i]? with
    | some g => if g.comb = c ∧ g.req = r then (s, i, 0) else (emptySt, 0, 8)
    | none => (emptySt, 0, 0)
  | none => newGenS s (makeG n c r)

theorem indexSt_some {gs : List Gen} {n : ByteArray} {i : Nat} (h : gs.findIdx? (fun x => decide (x.name = n)) = some i) : indexSt gs n = ((i : Int), 0) := by
  unfold indexSt fidx
  rw [h]
  exact if_neg (by show ¬ (i : Int) < 0; omega)
theorem indexSt_none {gs : List Gen} {n : ByteArray} (h : gs.findIdx? (fun x => decide (x.name = n)) = none) : indexSt gs n = (0, 5) := by
  unfold indexSt fidx
  rw [h]
  rfl
theorem wrap_id (n : Nat) (h : n ≤ 100000) : IntKind.i64.wrap (n : Int) = n := by
  unfold IntKind.wrap
  simp [IntKind.bits, IntKind.signed]
  omega
theorem str_bne {a b : ByteArray} (h : a ≠ b) : (a.toList == b.toList) = false := by
  rw [str_beq]
  simp [h]
theorem str_bne' {a b : ByteArray} (h : a = b) : (a.toList == b.toList) = true := by
  rw [str_beq]
  simp [h]

set_option maxHeartbeats 1000000 in
set_option maxRecDepth 100000 in
theorem ensure9_found (s : St) (cs : List Value) (n c : ByteArray) (r : Int) (w : World) (h : rSt.K w s cs) (hn : n.size ≤ maxLen) (hc : c.size ≤ maxLen) (hr : Rp.okInt r) (hg1 : s.gens.length ≤ 100000) (hg2 : s.caches.length ≤ 100000) (i : Nat) (hi : s.gens.findIdx? (fun x => decide (x.name = n)) = some i) :
    Calls Tryz.prog 9 #[rSt.val cs, .string n, .string c, .int .i64 r] w (RE3 rSt (ensureS s n c r) w) := by
  have hlt : i < s.gens.length := (List.findIdx?_eq_some_iff_getElem.1 hi).1
  have HI := Lib.hid (fun w' (hb : Below w.heap.size w w') => index28 s cs n w' (K_below h hb))
  rw [indexSt_some hi] at HI
  unfold ensureS
  rw [hi]
  simp only []
  rw [List.getElem?_eq_getElem hlt]
  obtain ⟨g, hg⟩ : ∃ g, g = s.gens[i] := ⟨_, rfl⟩
  rw [← hg]
  simp only []
  obtain ⟨sg, sc, rfl, h1, h2, h3⟩ := h
  have HS := Lib.hid (And.intro h1 (And.intro h2 h3))
  obtain ⟨A0, k0, hv, _, _, _, hrw⟩ := h1
  cases hv
  obtain ⟨B0, m0, rfl⟩ := slice_form h2
  obtain ⟨b, off, us, rfl, hbl, hk, hcell⟩ := Rp.Row_get hrw i hlt
  rw [← hg] at hk
  obtain ⟨gm, rfl, hgm, hg1', hg2', hg3'⟩ := hk
  obtain ⟨C0, n0, rfl⟩ := slice_form hgm
  have c0 : w.cell? ⟨b, off + i * 4, none⟩ = some (.string g.name) := hcell 0 _ rfl
  have c1 : w.cell? ⟨b, off + i * 4 + 1, none⟩ = some (.string g.comb) := hcell 1 _ rfl
  have c2 : w.cell? ⟨b, off + i * 4 + 2, none⟩ = some (.int .i64 g.req) := hcell 2 _ rfl
  have c3 : w.cell? ⟨b, off + i * 4 + 3, none⟩ = some (.slice C0 g.meths.length n0) := hcell 3 _ rfl
  rw [rSt_val] at HI ⊢
  clear h2 h3 hrw hcell hg hgm hg1' hg2' hg3' hi hg1 hg2
  obtain ⟨W0, hW0⟩ : ∃ W, W = (w.alloc (.cells #[.slice (some ⟨b, off, none⟩) s.gens.length k0, .int .i64 s.hits, .int .i64 s.misses, .slice B0 s.caches.length m0, .int .i64 s.most, .int .i64 s.clock] 28)).alloc (.cells #[.slice none 0 0, .int .i64 0, .int .i64 0, .slice none 0 0, .int .i64 0, .int .i64 0] 28) := ⟨_, rfl⟩
  have hB0 : Below w.heap.size w W0 := hW0 ▸ below_more (below_one _ _) _
  have b0 : Box W0 w.heap.size 28 [.slice (some ⟨b, off, none⟩) s.gens.length k0, .int .i64 s.hits, .int .i64 s.misses, .slice B0 s.caches.length m0, .int .i64 s.most, .int .i64 s.clock] := hW0 ▸ (Box.mk_ _ rfl rfl).alloc _
  have b1 : Box W0 (w.heap.size + 1) 28 [.slice none 0 0, .int .i64 0, .int .i64 0, .slice none 0 0, .int .i64 0, .int .i64 0] := hW0 ▸ Box.mk_ _ (by simp) rfl
  have HW0 := Lib.hid hW0
  clear hW0
  by_cases e1 : g.comb = c
  · have eb := str_bne' e1
    by_cases e2 : g.req = r
    · have ec : (g.req != r) = false := by simpa using e2
      rw [if_pos ⟨e1, e2⟩]
      clear e1 e2
      go_enter Tryz.func9, Tryz.ntmps9
      go_wp2_with (first
        | (go_at_call 28; rw [← HW0.out]; refine (HI.out _ hB0).mono ?_; rintro e w1 ⟨rfl, hB1⟩; have hT1 := below_to hB0 hB1; have x0 := b0.later hB1; have x1 := b1.later hB1; obtain ⟨p0, p1, p2, p3, p4, p5, pf, pl⟩ := x0.six; obtain ⟨t0, t1, t2, t3, t4, t5, tf, tl⟩ := x1.six; have d0 := cell_later hT1 c0; have d1 := cell_later hT1 c1; have d2 := cell_later hT1 c2; have d3 := cell_later hT1 c3; have nz : ¬ w1.heap.size = w.heap.size := (by omega); have nz2 : ¬ w1.heap.size = w.heap.size + 1 := (by omega); have nz3 : ¬ w.heap.size + 1 = w1.heap.size := (by omega))
        | go_in)
      refine bodyPost_ret (v := .tuple #[.agg #[.slice (some ⟨b, off, none⟩) s.gens.length k0, .int .i64 s.hits, .int .i64 s.misses, .slice B0 s.caches.length m0, .int .i64 s.most, .int .i64 s.clock], .int .i64 i, .int .i64 0]) ?_ rfl ?_
      · simp [results, Tryz.results9, go_sem, t0, t1, t2, t3, t4, t5, tl]
      · have hT2 := below_more (below_put (b := w.heap.size + 1) (by omega) [.slice (some ⟨b, off, none⟩) s.gens.length k0, .int .i64 s.hits, .int .i64 s.misses, .slice B0 s.caches.length m0, .int .i64 s.most, .int .i64 s.clock] 0 hT1) (.cells #[.string g.name, .string g.comb, .int .i64 g.req, .slice C0 g.meths.length n0] 80)
        refine ⟨[.slice (some ⟨b, off, none⟩) s.gens.length k0, .int .i64 s.hits, .int .i64 s.misses, .slice B0 s.caches.length m0, .int .i64 s.most, .int .i64 s.clock], ?_, ?_, ?_⟩
        · rfl
        · exact ⟨_, _, rfl, K_below HS.out.1 hT2, K_below HS.out.2.1 hT2, HS.out.2.2⟩
        · exact hT2
    · have ec : (g.req != r) = true := by simpa using e2
      rw [if_neg (fun h => e2 h.2)]
      clear e1 e2
      go_enter Tryz.func9, Tryz.ntmps9
      go_wp2_with (first
        | (go_at_call 28; rw [← HW0.out]; refine (HI.out _ hB0).mono ?_; rintro e w1 ⟨rfl, hB1⟩; have hT1 := below_to hB0 hB1; have x0 := b0.later hB1; have x1 := b1.later hB1; obtain ⟨p0, p1, p2, p3, p4, p5, pf, pl⟩ := x0.six; obtain ⟨t0, t1, t2, t3, t4, t5, tf, tl⟩ := x1.six; have d0 := cell_later hT1 c0; have d1 := cell_later hT1 c1; have d2 := cell_later hT1 c2; have d3 := cell_later hT1 c3; have nz : ¬ w1.heap.size = w.heap.size := (by omega); have nz2 : ¬ w1.heap.size = w.heap.size + 1 := (by omega); have nz3 : ¬ w.heap.size + 1 = w1.heap.size := (by omega))
        | go_in)
      refine bodyPost_ret (v := .tuple #[.agg #[.slice none 0 0, .int .i64 0, .int .i64 0, .slice none 0 0, .int .i64 0, .int .i64 0], .int .i64 0, .int .i64 8]) ?_ rfl ?_
      · simp [results, Tryz.results9, go_sem, t0, t1, t2, t3, t4, t5, tl]
      · refine ⟨[.slice none 0 0, .int .i64 0, .int .i64 0, .slice none 0 0, .int .i64 0, .int .i64 0], ?_, ?_, ?_⟩
        · rfl
        · exact emptySt_K _
        · have := below_more (below_put (b := w.heap.size + 1) (by omega) [.slice none 0 0, .int .i64 0, .int .i64 0, .slice none 0 0, .int .i64 0, .int .i64 0] 0 hT1) (.cells #[.string g.name, .string g.comb, .int .i64 g.req, .slice C0 g.meths.length n0] 80)
          exact this
  · have eb := str_bne e1
    rw [if_neg (fun h => e1 h.1)]
    clear e1
    go_enter Tryz.func9, Tryz.ntmps9
    go_wp2_with (first
      | (go_at_call 28; rw [← HW0.out]; refine (HI.out _ hB0).mono ?_; rintro e w1 ⟨rfl, hB1⟩; have hT1 := below_to hB0 hB1; have x0 := b0.later hB1; have x1 := b1.later hB1; obtain ⟨p0, p1, p2, p3, p4, p5, pf, pl⟩ := x0.six; obtain ⟨t0, t1, t2, t3, t4, t5, tf, tl⟩ := x1.six; have d0 := cell_later hT1 c0; have d1 := cell_later hT1 c1; have d2 := cell_later hT1 c2; have d3 := cell_later hT1 c3; have nz : ¬ w1.heap.size = w.heap.size := (by omega); have nz2 : ¬ w1.heap.size = w.heap.size + 1 := (by omega); have nz3 : ¬ w.heap.size + 1 = w1.heap.size := (by omega))
      | go_in)
    refine bodyPost_ret (v := .tuple #[.agg #[.slice none 0 0, .int .i64 0, .int .i64 0, .slice none 0 0, .int .i64 0, .int .i64 0], .int .i64 0, .int .i64 8]) ?_ rfl ?_
    · simp [results, Tryz.results9, go_sem, t0, t1, t2, t3, t4, t5, tl]
    · refine ⟨[.slice none 0 0, .int .i64 0, .int .i64 0, .slice none 0 0, .int .i64 0, .int .i64 0], ?_, ?_, ?_⟩
      · rfl
      · exact emptySt_K _
      · have := below_more (below_put (b := w.heap.size + 1) (by omega) [.slice none 0 0, .int .i64 0, .int .i64 0, .slice none 0 0, .int .i64 0, .int .i64 0] 0 hT1) (.cells #[.string g.name, .string g.comb, .int .i64 g.req, .slice C0 g.meths.length n0] 80)
        exact this

set_option maxHeartbeats 2000000 in
set_option maxRecDepth 100000 in
theorem ensure9_new (s : St) (cs : List Value) (n c : ByteArray) (r : Int) (w : World) (h : rSt.K w s cs) (hn : n.size ≤ maxLen) (hc : c.size ≤ maxLen) (hr : Rp.okInt r) (hg1 : s.gens.length ≤ 100000) (hg2 : s.caches.length ≤ 100000) (hi : s.gens.findIdx? (fun x => decide (x.name = n)) = none) :
    Calls Tryz.prog 9 #[rSt.val cs, .string n, .string c, .int .i64 r] w (RE3 rSt (ensureS s n c r) w) := by
  have HI := Lib.hid (fun w' (hb : Below w.heap.size w w') => index28 s cs n w' (K_below h hb))
  rw [indexSt_none hi] at HI
  unfold ensureS
  rw [hi]
  simp only []
  have HM := Lib.hid (fun w' => make29 n c r w' hn hc hr)
  obtain ⟨m, hm⟩ : ∃ m, m = makeG n c r := ⟨_, rfl⟩
  rw [← hm] at HM ⊢
  obtain ⟨m1, m2⟩ := m
  unfold newGenS
  simp only []
  obtain ⟨l, hl⟩ : ∃ l, l = (copiedS s).caches := ⟨_, rfl⟩
  rw [← hl]
  have hll : l.length ≤ 100000 := by rw [hl]; exact padC_length_le _ _ _ hg2 hg1
  obtain ⟨sg, sc, rfl, h1, h2, h3⟩ := h
  have HS := Lib.hid h3
  have HC := Lib.hid (fun w' (hb : Below w.heap.size w w') => copied30' s sg sc l hl w' ⟨_, _, rfl, K_below h1 hb, K_below h2 hb, h3⟩ hg1 hg2)
  obtain ⟨A0, k0, rfl⟩ := slice_form h1
  obtain ⟨B0, m0, rfl⟩ := slice_form h2
  have HL := Lib.hid hll
  rw [rSt_val] at HI ⊢
  clear h1 h2 h3 hi hl hll hm
  obtain ⟨W0, hW0⟩ : ∃ W, W = (w.alloc (.cells #[.slice A0 s.gens.length k0, .int .i64 s.hits, .int .i64 s.misses, .slice B0 s.caches.length m0, .int .i64 s.most, .int .i64 s.clock] 28)).alloc (.cells #[.slice none 0 0, .int .i64 0, .int .i64 0, .slice none 0 0, .int .i64 0, .int .i64 0] 28) := ⟨_, rfl⟩
  have hB0 : Below w.heap.size w W0 := hW0 ▸ below_more (below_one _ _) _
  have b0 : Box W0 w.heap.size 28 [.slice A0 s.gens.length k0, .int .i64 s.hits, .int .i64 s.misses, .slice B0 s.caches.length m0, .int .i64 s.most, .int .i64 s.clock] := hW0 ▸ (Box.mk_ _ rfl rfl).alloc _
  have b1 : Box W0 (w.heap.size + 1) 28 [.slice none 0 0, .int .i64 0, .int .i64 0, .slice none 0 0, .int .i64 0, .int .i64 0] := hW0 ▸ Box.mk_ _ (by simp) rfl
  have HW0 := Lib.hid hW0
  clear hW0
  by_cases e1 : m2 = 0
  · subst e1
    rw [if_pos rfl]
    by_cases e2 : 200 ≤ s.gens.length
    · rw [if_pos e2]
      have e3 : (200 : Int) ≤ s.gens.length := by omega
      go_enter Tryz.func9, Tryz.ntmps9
      go_wp2_with (first
        | (go_at_call 28; rw [← HW0.out]; refine (HI.out _ hB0).mono ?_; rintro e w1 ⟨rfl, hB1⟩; have hT1 := below_to hB0 hB1; have x0 := b0.later hB1; have x1 := b1.later hB1; obtain ⟨p0, p1, p2, p3, p4, p5, pf, pl⟩ := x0.six; obtain ⟨t0, t1, t2, t3, t4, t5, tf, tl⟩ := x1.six)
        | (go_at_call 29; refine (HM.out _).mono ?_; rintro e w2 ⟨cs2, rfl, ⟨gm2, rfl, u1, u2⟩, hB2⟩; obtain ⟨E2, l2, rfl⟩ := slice_form u1; have hT2 := below_to hT1 hB2; have y0 := x0.later hB2; have y1 := x1.later hB2; have U := Lib.hid (And.intro u1 u2); clear u1 u2 p0 p1 p2 p3 p4 p5 pf pl t0 t1 t2 t3 t4 t5 tf tl; obtain ⟨p0, p1, p2, p3, p4, p5, pf, pl⟩ := y0.six; obtain ⟨t0, t1, t2, t3, t4, t5, tf, tl⟩ := y1.six; have nz : ¬ w2.heap.size = w.heap.size := (by omega); have nz2 : ¬ w2.heap.size = w.heap.size + 1 := (by omega))
        | go_in)
      refine bodyPost_ret (v := .tuple #[.agg #[.slice none 0 0, .int .i64 0, .int .i64 0, .slice none 0 0, .int .i64 0, .int .i64 0], .int .i64 0, .int .i64 9]) ?_ rfl ?_
      · simp [results, Tryz.results9, go_sem, t0, t1, t2, t3, t4, t5, tl]
      · refine ⟨[.slice none 0 0, .int .i64 0, .int .i64 0, .slice none 0 0, .int .i64 0, .int .i64 0], ?_, ?_, ?_⟩
        · rfl
        · exact emptySt_K _
        · have := below_more (below_put (b := w.heap.size + 1) (by omega) [.slice none 0 0, .int .i64 0, .int .i64 0, .slice none 0 0, .int .i64 0, .int .i64 0] 0 hT2) (.cells #[.string m1.name, .string m1.comb, .int .i64 m1.req, .slice E2 m1.meths.length l2] 80)
          exact this
    · rw [if_neg e2]
      have e3 : ¬ (200 : Int) ≤ s.gens.length := by omega
      have hbb := Lib.hid (And.intro (show (s.gens.length + 1) * 64 ≤ 140737488355328 by omega) (And.intro (show s.gens.length + 1 ≤ maxLen by unfold maxLen; omega) (And.intro (show (l.length + 1) * 8 ≤ 140737488355328 by have := HL.out; omega) (show l.length + 1 ≤ maxLen by have := HL.out; unfold maxLen; omega))))
      go_enter Tryz.func9, Tryz.ntmps9
      go_wp2_with (first
        | (go_at_call 28; rw [← HW0.out]; refine (HI.out _ hB0).mono ?_; rintro e w1 ⟨rfl, hB1⟩; have hT1 := below_to hB0 hB1; have x0 := b0.later hB1; have x1 := b1.later hB1; obtain ⟨p0, p1, p2, p3, p4, p5, pf, pl⟩ := x0.six; obtain ⟨t0, t1, t2, t3, t4, t5, tf, tl⟩ := x1.six)
        | (go_at_call 29; refine (HM.out _).mono ?_; rintro e w2 ⟨cs2, rfl, ⟨gm2, rfl, u1, u2⟩, hB2⟩; obtain ⟨E2, l2, rfl⟩ := slice_form u1; have hT2 := below_to hT1 hB2; have y0 := x0.later hB2; have y1 := x1.later hB2; have U := Lib.hid (And.intro u1 u2); clear u1 u2 p0 p1 p2 p3 p4 p5 pf pl t0 t1 t2 t3 t4 t5 tf tl; obtain ⟨p0, p1, p2, p3, p4, p5, pf, pl⟩ := y0.six; obtain ⟨t0, t1, t2, t3, t4, t5, tf, tl⟩ := y1.six; have nz : ¬ w2.heap.size = w.heap.size := (by omega); have nz2 : ¬ w2.heap.size = w.heap.size + 1 := (by omega); have hT3 := below_more hT2 (.cells #[.string m1.name, .string m1.comb, .int .i64 m1.req, .slice E2 m1.meths.length l2] 80); have hX3 := below_one w2 (.cells #[.string m1.name, .string m1.comb, .int .i64 m1.req, .slice E2 m1.meths.length l2] 80); have z0 := y0.later hX3; have z1 := y1.later hX3; have z2 : Box (w2.alloc (.cells #[.string m1.name, .string m1.comb, .int .i64 m1.req, .slice E2 m1.meths.length l2] 80)) w2.heap.size 80 [.string m1.name, .string m1.comb, .int .i64 m1.req, .slice E2 m1.meths.length l2] := Box.mk_ _ rfl rfl; have hgK : rGen.K (w2.alloc (.cells #[.string m1.name, .string m1.comb, .int .i64 m1.req, .slice E2 m1.meths.length l2] 80)) m1 [.string m1.name, .string m1.comb, .int .i64 m1.req, .slice E2 m1.meths.length l2] := ⟨_, rfl, K_below U.out.1 hX3, U.out.2⟩)
        | (go_at_call 30; refine (HC.out _ hT3).mono ?_; rintro e w4 ⟨v1, v2, rfl, hO1, hO2, hB4⟩; have hT4 := below_to hT3 hB4; obtain ⟨A5, k5, rfl, _⟩ := hO1.row; obtain ⟨B5, m5, rfl, _⟩ := hO2.row; have x4 := z0.later hB4; have y4 := z1.later hB4; have g4 := z2.later hB4; have hgK4 := K_below hgK hB4; have oc1 : ∀ u ∈ [Value.slice A5 s.gens.length k5, .int .i64 s.hits, .int .i64 s.misses, .slice B5 l.length m5, .int .i64 s.most, .int .i64 s.clock], u.oneCell' = true := (by simp [Value.oneCell']))
        | (refine wp_box_store rfl 28 _ _ rfl (us := [.slice A5 s.gens.length k5, .int .i64 s.hits, .int .i64 s.misses, .slice B5 l.length m5, .int .i64 s.most, .int .i64 s.clock]) rfl rfl x4 siz28 rfl oc1 ?_; intro w5 x5 hc5; have y5 := hc5.box y4 (by omega); have g5 := hc5.box g4 nz; have hO3 := (hc5.own hO1 (by decide) rfl).lower hT3.size; have hO4 := (hc5.own hO2 (by decide) rfl).lower hT3.size; have hT5 := hc5.below hT4 (Nat.le_refl _); have hgK5 := hc5.K rfl hgK4; clear p0 p1 p2 p3 p4 p5 pf pl t0 t1 t2 t3 t4 t5 tf tl; obtain ⟨q0, q1, q2, q3, q4, q5, qf, ql⟩ := x5.six; obtain ⟨o0, o1, o2, o3, of_, ol⟩ := g5.four)
        | (at_builtin; refine wp_app1 (v := .slice A5 s.gens.length k5) (cs := [.string m1.name, .string m1.comb, .int .i64 m1.req, .slice E2 m1.meths.length l2]) (t' := 80) (y := m1) rfl _ _ 25 rfl Tryz.underlying25 inf80 rfl (by decide) rfl hO3 rfl rfl hgK5 hbb.out.1 hbb.out.2.1 hT5.size ?_; intro gA cA w6 hA6; have x6 := hA6.box hO3 x5 (by decide); have y6 := hA6.box hO3 y5 (by decide); have hO5 := hA6.beside hO3 hO4 (by decide) rfl; have hT6 := hA6.step hO3 hT5 (Nat.le_refl _); clear q0 q1 q2 q3 q4 q5 qf ql o0 o1 o2 o3 of_ ol)
        | (refine wp_box_set rfl 25 _ _ rfl (j := 0) (u := (.slice (some ⟨gA, 0, none⟩) (s.gens.length + 1) cA)) (by rfl) (by rfl) x6 rfl rfl rfl siz25 ?_; intro w7 x7 hc7; have y7 := hc7.box y6 (by omega); have hO6 := hc7.own hA6.own (by decide) rfl; have hO7 := hc7.own hO5 (by decide) rfl; have hT7 := hc7.below hT6 (Nat.le_refl _); obtain ⟨q0, q1, q2, q3, q4, q5, qf, ql⟩ := x7.six)
        | (at_builtin; refine wp_app1 (v := .slice B5 l.length m5) (cs := [.map none]) (t' := 119) (y := ([] : List (Key × Ent))) rfl _ _ 26 rfl Tryz.underlying26 inf119 rfl (by decide) rfl hO7 rfl rfl (.inl ⟨rfl, rfl⟩) hbb.out.2.2.1 hbb.out.2.2.2 hT7.size ?_; intro gB cB w8 hA8; have x8 := hA8.box hO7 x7 (by decide); have y8 := hA8.box hO7 y7 (by decide); have hO8 := hA8.beside hO7 hO6 (by decide) rfl; have hT8 := hA8.step hO7 hT7 (Nat.le_refl _); clear q0 q1 q2 q3 q4 q5 qf ql)
        | (refine wp_box_set rfl 26 _ _ rfl (j := 3) (u := (.slice (some ⟨gB, 0, none⟩) (l.length + 1) cB)) (by rfl) (by rfl) x8 rfl rfl rfl siz26 ?_; intro w9 x9 hc9; have y9 := hc9.box y8 (by omega); have hO9 := hc9.own hA8.own (by decide) rfl; have hO10 := hc9.own hO8 (by decide) rfl; have hT9 := hc9.below hT8 (Nat.le_refl _); obtain ⟨q0, q1, q2, q3, q4, q5, qf, ql⟩ := x9.six; obtain ⟨r0, r1, r2, r3, r4, r5, rf, rl⟩ := y9.six)
        | go_in)
      have n1 : ¬ w.heap.size = w.heap.size + 1 := by omega
      have n2 : ¬ w.heap.size + 1 = w.heap.size := by omega
      clear hT1 hT2 hT3 hX3 z0 z1 z2 hgK x4 y4 g4 hgK4 oc1 x5 y5 g5 hO3 hO4 hT5 hgK5 hA6 x6 y6 hO5 hT6 x7 y7 hO6 hO7 hT7 hA8 x8 y8 hO8 hT8 x0 x1 y0 y1 b0 b1 hB1 hB2 hB4 hT4 hO1 hO2 hc5 hc7 hc9 e2 e3
      go_region_held3 (fun w' => w'.cell? ⟨w.heap.size, 0, none⟩ = some (.slice (some ⟨gA, 0, none⟩) (s.gens.length + 1) cA) ∧ w'.cell? ⟨w.heap.size, 1, none⟩ = some (.int .i64 s.hits) ∧ w'.cell? ⟨w.heap.size, 2, none⟩ = some (.int .i64 s.misses) ∧ w'.cell? ⟨w.heap.size, 3, none⟩ = some (.slice (some ⟨gB, 0, none⟩) (l.length + 1) cB) ∧ w'.cell? ⟨w.heap.size, 4, none⟩ = some (.int .i64 s.most) ∧ w'.cell? ⟨w.heap.size, 5, none⟩ = some (.int .i64 s.clock)) (go_keep) (fail)
      go_wp2
      refine bodyPost_ret (v := .tuple #[.agg #[.slice (some ⟨gA, 0, none⟩) (s.gens.length + 1) cA, .int .i64 s.hits, .int .i64 s.misses, .slice (some ⟨gB, 0, none⟩) (l.length + 1) cB, .int .i64 s.most, .int .i64 s.clock], .int .i64 s.gens.length, .int .i64 0]) ?_ rfl ?_
      · simp [results, Tryz.results9, go_sem, r0, r1, r2, r3, r4, r5]
        exact wrap_id _ hg1
      · refine ⟨[.slice (some ⟨gA, 0, none⟩) (s.gens.length + 1) cA, .int .i64 s.hits, .int .i64 s.misses, .slice (some ⟨gB, 0, none⟩) (l.length + 1) cB, .int .i64 s.most, .int .i64 s.clock], ?_, ?_, ?_⟩
        · rfl
        · refine ⟨_, _, rfl, ?_, ?_, HS.out⟩
          · have := K_put (d := sGen) rfl [.slice (some ⟨gA, 0, none⟩) (s.gens.length + 1) cA, .int .i64 s.hits, .int .i64 s.misses, .slice (some ⟨gB, 0, none⟩) (l.length + 1) cB, .int .i64 s.most, .int .i64 s.clock] 0 hO10.read y9
            exact K_below this (below_drew _)
          · have := K_put (d := sMap) rfl [.slice (some ⟨gA, 0, none⟩) (s.gens.length + 1) cA, .int .i64 s.hits, .int .i64 s.misses, .slice (some ⟨gB, 0, none⟩) (l.length + 1) cB, .int .i64 s.most, .int .i64 s.clock] 0 hO9.read y9
            exact K_below this (below_drew _)
        · have := (below_put (b := w.heap.size + 1) (by omega) [.slice (some ⟨gA, 0, none⟩) (s.gens.length + 1) cA, .int .i64 s.hits, .int .i64 s.misses, .slice (some ⟨gB, 0, none⟩) (l.length + 1) cB, .int .i64 s.most, .int .i64 s.clock] 0 hT9).drew
          exact this
  · rw [if_neg e1]
    have eb : (m2 != 0) = true := by simpa using e1
    clear e1
    go_enter Tryz.func9, Tryz.ntmps9
    go_wp2_with (first
      | (go_at_call 28; rw [← HW0.out]; refine (HI.out _ hB0).mono ?_; rintro e w1 ⟨rfl, hB1⟩; have hT1 := below_to hB0 hB1; have x0 := b0.later hB1; have x1 := b1.later hB1; obtain ⟨p0, p1, p2, p3, p4, p5, pf, pl⟩ := x0.six; obtain ⟨t0, t1, t2, t3, t4, t5, tf, tl⟩ := x1.six)
      | (go_at_call 29; refine (HM.out _).mono ?_; rintro e w2 ⟨cs2, rfl, ⟨gm2, rfl, u1, u2⟩, hB2⟩; obtain ⟨E2, l2, rfl⟩ := slice_form u1; have hT2 := below_to hT1 hB2; have y0 := x0.later hB2; have y1 := x1.later hB2; have U := Lib.hid (And.intro u1 u2); clear u1 u2 p0 p1 p2 p3 p4 p5 pf pl t0 t1 t2 t3 t4 t5 tf tl; obtain ⟨p0, p1, p2, p3, p4, p5, pf, pl⟩ := y0.six; obtain ⟨t0, t1, t2, t3, t4, t5, tf, tl⟩ := y1.six; have nz : ¬ w2.heap.size = w.heap.size := (by omega); have nz2 : ¬ w2.heap.size = w.heap.size + 1 := (by omega))
      | go_in)
    refine bodyPost_ret (v := .tuple #[.agg #[.slice none 0 0, .int .i64 0, .int .i64 0, .slice none 0 0, .int .i64 0, .int .i64 0], .int .i64 0, .int .i64 m2]) ?_ rfl ?_
    · simp [results, Tryz.results9, go_sem, t0, t1, t2, t3, t4, t5, tl]
    · refine ⟨[.slice none 0 0, .int .i64 0, .int .i64 0, .slice none 0 0, .int .i64 0, .int .i64 0], ?_, ?_, ?_⟩
      · rfl
      · exact emptySt_K _
      · have := below_more (below_put (b := w.heap.size + 1) (by omega) [.slice none 0 0, .int .i64 0, .int .i64 0, .slice none 0 0, .int .i64 0, .int .i64 0] 0 hT2) (.cells #[.string m1.name, .string m1.comb, .int .i64 m1.req, .slice E2 m1.meths.length l2] 80)
        exact this

theorem ensure9 (s : St) (cs : List Value) (n c : ByteArray) (r : Int) (w : World) (h : rSt.K w s cs) (hn : n.size ≤ maxLen) (hc : c.size ≤ maxLen) (hr : Rp.okInt r) (hg1 : s.gens.length ≤ 100000) (hg2 : s.caches.length ≤ 100000) :
    Calls Tryz.prog 9 #[rSt.val cs, .string n, .string c, .int .i64 r] w (RE3 rSt (ensureS s n c r) w) := by
  cases hi : s.gens.findIdx? (fun x => decide (x.name = n)) with
  | some i => exact ensure9_found s cs n c r w h hn hc hr hg1 hg2 i hi
  | none => exact ensure9_new s cs n c r w h hn hc hr hg1 hg2 hi
end Go.Proofs.YtoncaejgflfhhaaGreatDoor
