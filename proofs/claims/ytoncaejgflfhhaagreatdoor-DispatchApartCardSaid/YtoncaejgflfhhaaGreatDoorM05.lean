/- method's copied and with: methods in memory of their own. -/
import Derived.Test.YtoncaejgflfhhaaGreatDoorM04
import Derived.Deep.RegionHeld3
import Derived.Deep.AppendLies
import Derived.Deep.RegionLaw
set_option linter.unusedVariables false
set_option linter.unusedSimpArgs false
namespace Go.Proofs.YtoncaejgflfhhaaGreatDoor
open Go.RowKit

set_option maxRecDepth 100000 in
theorem copied125 (m : Meth) (cs : List Value) (w : World) (h : rMeth.K w m cs) (hb1 : m.quals.length * 16 ≤ 140737488355328) (hb2 : m.specs.length * 32 ≤ 140737488355328) :
    Calls Tryz.prog 125 #[rMeth.val cs] w (R1 rMeth m w) := by
  obtain ⟨q, s, rfl, h1, h2, h3⟩ := h
  rw [show rMeth.val [q, s, .int .i64 m.fn] = .agg #[q, s, .int .i64 m.fn] from rfl]
  have H1 := Lib.hid (fun w' (hb : Below w.heap.size w w') => clone45 Rp.str rfl rfl (some 9) m.quals q w' (K_below h1 hb) hb1)
  have H2 := Lib.hid (fun w' (hb : Below w.heap.size w w') => clone155 rSpec rfl rfl (some 36) m.specs s w' (K_below h2 hb) hb2)
  clear h1 h2 hb1 hb2
  go_enter Tryz.func125, Tryz.ntmps125
  go_wp2
  have hW : ∀ W, W = (w.alloc (.cells #[q, s, .int .i64 m.fn] 40)).alloc (.cells #[.slice none 0 0, .slice none 0 0, .int .i64 0] 40) → Below w.heap.size w W ∧ Box W w.heap.size 40 [q, s, .int .i64 m.fn] ∧ Box W (w.heap.size + 1) 40 [.slice none 0 0, .slice none 0 0, .int .i64 0] := by
    rintro W rfl
    exact ⟨below_more (below_one _ _) _, (Box.mk_ _ rfl rfl).alloc _, Box.mk_ _ (by simp) rfl⟩
  generalize (w.alloc (.cells #[q, s, .int .i64 m.fn] 40)).alloc (.cells #[.slice none 0 0, .slice none 0 0, .int .i64 0] 40) = W0 at *
  obtain ⟨hB0, b0, b1⟩ := hW W0 rfl
  clear hW
  have f1 := b0.cell 0 _ rfl
  have f2 := b0.cell 1 _ rfl
  have f3 := b0.cell 2 _ rfl
  have l0 := b0.lt
  go_region_held3 (fun w' => w'.cell? ⟨w.heap.size, 0, none⟩ = some q ∧ w'.cell? ⟨w.heap.size, 1, none⟩ = some s ∧ w'.cell? ⟨w.heap.size, 2, none⟩ = some (.int .i64 m.fn))
    (go_keep)
    (first | (go_at_call 45; refine (H1.out _ hB0.drew).mono ?_; rintro e w1 ⟨v1, rfl, hO1, hB1⟩; obtain ⟨A1, k1, rfl, _⟩ := hO1.row; have hT1 := below_to (below_drew W0) hB1; obtain ⟨hc1, hf1⟩ := bcell hT1) | (go_at_call 155; refine (H2.out _ (below_to hB0 hT1)).mono ?_; rintro e w2 ⟨v2, rfl, hO2, hB2⟩; obtain ⟨A2, k2, rfl, _⟩ := hO2.row; have hT2 := below_to hT1 hB2; obtain ⟨hc2, hf2⟩ := bcell hT2; have bb := b1.later hT2; have g0 := bb.cell 0 _ rfl; have g1 := bb.cell 1 _ rfl; have g2 := bb.cell 2 _ rfl; have e0 := bb.free 0; have e1 := bb.free 1; have e2 := bb.free 2; have l1 := bb.lt))
  have k1' := K_set (K_set (K_set (K_below hO1.read hB2) bb rfl 0 (.slice A1 m.quals.length k1)) (bb.set 0 _) rfl 1 (.slice A2 m.specs.length k2)) ((bb.set 0 _).set 1 _) rfl 2 (.int .i64 m.fn)
  have k2' := K_set (K_set (K_set hO2.read bb rfl 0 (.slice A1 m.quals.length k1)) (bb.set 0 _) rfl 1 (.slice A2 m.specs.length k2)) ((bb.set 0 _).set 1 _) rfl 2 (.int .i64 m.fn)
  go_wp2
  exact bodyPost_ret (v := .agg #[.slice A1 m.quals.length k1, .slice A2 m.specs.length k2, .int .i64 m.fn]) (by simp [results, Tryz.results125, go_sem, g0, g1, g2]) rfl ⟨[.slice A1 m.quals.length k1, .slice A2 m.specs.length k2, .int .i64 m.fn], rfl, ⟨_, _, rfl, k1', k2', h3⟩, below_set (below_set (below_set (below_to hB0 hT2) (by simp) _) (by simp) _) (by simp) _⟩
def bigM (m : Meth) : Prop := m.quals.length * 16 ≤ 140737488355328 ∧ m.specs.length * 32 ≤ 140737488355328

set_option maxRecDepth 100000 in
theorem with80 (g : Gen) (gcs : List Value) (e : Option Nat) (l : List Meth) (v : Value) (w : World) (hg : rGen.K w g gcs) (hl : (Rp.slice e rMeth).K w l [v])
    (hbig : ∀ m ∈ l, bigM m) (hlen : l.length ≤ 1000000) :
    Calls Tryz.prog 80 #[rGen.val gcs, v] w (R1 rGen { g with meths := l } w) := by
  obtain ⟨gm, rfl, hgm, hg1, hg2, hg3⟩ := hg
  rw [show rGen.val [.string g.name, .string g.comb, .int .i64 g.req, gm] = .agg #[.string g.name, .string g.comb, .int .i64 g.req, gm] from rfl]
  obtain ⟨A, c, hv, h1, h2, h3, h4⟩ := hl
  cases hv
  have H4 := Lib.hid h4
  have HC := Lib.hid (fun m (hm : m ∈ l) cs w' hk => copied125 m cs w' hk (hbig m hm).1 (hbig m hm).2)
  clear h1 h2 h3 h4 hgm hbig
  go_enter Tryz.func80, Tryz.ntmps80
  go_wp2
  go_loopw [10] (fun k wr => ∃ (j : Nat) (v : Value), j ≤ l.length ∧ k = .int .i64 j ∧ Below w.heap.size w wr ∧ Box wr w.heap.size 80 [.string g.name, .string g.comb, .int .i64 g.req, v] ∧ Box wr (w.heap.size + 1) 80 [.string ⟨#[]⟩, .string ⟨#[]⟩, .int .i64 0, .slice none 0 0] ∧ Own 40 rMeth w.heap.size wr v (l.take j)) (fun k _ => l.length - (intOf k).toNat)
  case atStart =>
    exact ⟨0, .slice none 0 0, Nat.zero_le _, rfl, below_more (below_one _ _) _, (Box.mk_ _ rfl rfl).alloc _, Box.mk_ _ (by simp) rfl, Own.nil _ _ _ _⟩
  case round =>
    obtain ⟨j, v, hj, rfl, hB, bx0, bx1, hO⟩ := hrel
    by_cases hlt : j < l.length
    · obtain ⟨b, off, cs, hA, hbl, hk, hcell⟩ := Rp.Row_get (Rp.Row_mov (Same.of_below hB) H4.out) j hlt
      subst hA
      obtain ⟨m, hm⟩ : ∃ m, m = l[j] := ⟨_, rfl⟩
      rw [← hm] at hk
      obtain ⟨mq, ms, rfl, m1, m2, m3⟩ := hk
      obtain ⟨A1, k1, rfl⟩ := slice_form m1
      obtain ⟨A2, k2, rfl⟩ := slice_form m2
      have c0 : wr.cell? ⟨b, off + j * 3, none⟩ = some (.slice A1 m.quals.length k1) := hcell 0 _ rfl
      have c1 : wr.cell? ⟨b, off + j * 3 + 1, none⟩ = some (.slice A2 m.specs.length k2) := hcell 1 _ rfl
      have c2 : wr.cell? ⟨b, off + j * 3 + 2, none⟩ = some (.int .i64 m.fn) := hcell 2 _ rfl
      have M := Lib.hid (And.intro m1 (And.intro m2 m3))
      have HM := Lib.hid hm
      clear hcell m1 m2 m3 hm
      obtain ⟨xs, hxs⟩ : ∃ xs, xs = l.take j := ⟨_, rfl⟩
      rw [← hxs] at hO
      have hbb : (xs.length + 1) * 56 ≤ 140737488355328 := by rw [hxs, List.length_take]; omega
      have hmm : xs.length + 1 ≤ maxLen := by rw [hxs, List.length_take]; unfold maxLen; omega
      have HBB := Lib.hid (And.intro hbb (And.intro hmm hxs))
      clear hbb hmm hxs
      go_wp2
      have hW : ∀ W, W = wr.alloc (.cells #[.slice A1 m.quals.length k1, .slice A2 m.specs.length k2, .int .i64 m.fn] 40) → Below wr.heap.size wr W ∧ Box W wr.heap.size 40 [.slice A1 m.quals.length k1, .slice A2 m.specs.length k2, .int .i64 m.fn] := by
        rintro W rfl
        exact ⟨below_one _ _, Box.mk_ _ rfl rfl⟩
      generalize wr.alloc (.cells #[.slice A1 m.quals.length k1, .slice A2 m.specs.length k2, .int .i64 m.fn] 40) = W0 at *
      obtain ⟨hB0, bm⟩ := hW W0 rfl
      have C := Lib.hid (fun w' (hb : Below W0.heap.size W0 w') => HC.out m (by rw [HM.out]; exact List.getElem_mem _) [.slice A1 m.quals.length k1, .slice A2 m.specs.length k2, .int .i64 m.fn] w' ⟨_, _, rfl, K_below M.out.1 (below_to hB0 hb), K_below M.out.2.1 (below_to hB0 hb), M.out.2.2⟩)
      have b0 := bx0.later hB0
      have b1 := bx1.later hB0
      have hO0 := hO.below hB0
      have f0 := b0.cell 3 _ rfl
      have f1 := bm.cell 0 _ rfl
      have f2 := bm.cell 1 _ rfl
      have f3 := bm.cell 2 _ rfl
      have l0 := b0.lt
      have lm := bm.lt
      clear hW bx0 bx1 hO
      go_region_law (first
        | (go_simp; go_at_call 125; refine (C.out _ (below_drew W0)).mono ?_; rintro e w1 ⟨cs1, rfl, ⟨q', s', rfl, r1, r2, r3⟩, hB1⟩; obtain ⟨A3, k3, rfl⟩ := slice_form r1; obtain ⟨A4, k4, rfl⟩ := slice_form r2; have hT1 := below_to (below_drew W0) hB1; have d0 := b0.later hT1; have d1 := b1.later hT1; have g0 := d0.cell 3 _ rfl; have hO1 := hO0.below hT1; have hz1 := Nat.lt_of_lt_of_le l0 hT1.size; try dsimp only)
        | (refine step_app1 (y := m) (d := rMeth) (e := 40) (base := w.heap.size) (sz := 3) (bs := 56) (cs := [.slice A3 m.quals.length k3, .slice A4 m.specs.length k4, .int .i64 m.fn]) (t' := 40) (by rfl) _ _ 78 (by rfl) Tryz.underlying78 inf40 rfl (by decide) (by rfl) hO1 rfl (by rfl) ⟨_, _, rfl, r1, r2, r3⟩ HBB.out.1 HBB.out.2.1 (Nat.le_of_lt hz1) ?_; intro gg cap w2 hA; have bb := hA.box hO1 d0 (by decide); have bb1 := hA.box hO1 d1 (by decide); have g3 := bb.cell 3 _ rfl; have e3 := bb.free 3))
      all_goals
        have ht : l.take (j + 1) = xs ++ [m] := by rw [List.take_succ_eq_append_getElem hlt, HM.out, HBB.out.2.2]
        have hO2 := hA.own.set_box bb (by decide) rfl 3 (.slice (some ⟨gg, 0, none⟩) (xs.length + 1) cap)
        rw [← ht] at hO2
        have hb2 := bb.set 3 (.slice (some ⟨gg, 0, none⟩) (xs.length + 1) cap)
        have hb3 := bb1.other (p := ⟨w.heap.size, 3, none⟩) (by simp) (.slice (some ⟨gg, 0, none⟩) (xs.length + 1) cap)
        have hB2 := below_set (hA.step hO1 (below_to hB (below_to hB0 hT1)) (Nat.le_refl _)) (p := ⟨w.heap.size, 3, none⟩) (Nat.le_refl _) (.slice (some ⟨gg, 0, none⟩) (xs.length + 1) cap)
        have HT := Lib.hid ht
        clear ht
        go_wp2
        go_roundw
        case rel => exact ⟨j + 1, _, by omega, by go_num, hB2, hb2, hb3, hO2⟩
        case measure => simp [intOf]; omega
    · have hj' : j = l.length := by omega
      subst hj'
      rw [List.take_length] at hO
      have f0 := bx0.cell 0 _ rfl
      have f1 := bx0.cell 1 _ rfl
      have f2 := bx0.cell 2 _ rfl
      have f3 := bx0.cell 3 _ rfl
      have d0 := bx1.cell 0 _ rfl
      have d1 := bx1.cell 1 _ rfl
      have d2 := bx1.cell 2 _ rfl
      have d3 := bx1.cell 3 _ rfl
      have e0 := bx1.free 0
      have e1 := bx1.free 1
      have e2 := bx1.free 2
      have e3 := bx1.free 3
      obtain ⟨A3, k3, rfl, _⟩ := hO.row
      have bz := ((bx1.set 0 (.string g.name)).set 1 (.string g.comb)).set 2 (.int .i64 g.req)
      have hk := hO.read
      have hk2 := K_set (K_set (K_set (K_set hk bx1 rfl 0 (.string g.name)) (bx1.set 0 _) rfl 1 (.string g.comb)) ((bx1.set 0 _).set 1 _) rfl 2 (.int .i64 g.req)) bz rfl 3 (.slice A3 l.length k3)
      go_wp2
      exact bodyPost_ret (v := .agg #[.string g.name, .string g.comb, .int .i64 g.req, .slice A3 l.length k3]) (by simp [results, Tryz.results80, go_sem, d0, d1, d2, d3]) rfl ⟨[.string g.name, .string g.comb, .int .i64 g.req, .slice A3 l.length k3], rfl, ⟨_, rfl, hk2, hg1, hg2, hg3⟩, below_set (below_set (below_set (below_set hB (by simp) _) (by simp) _) (by simp) _) (by simp) _⟩
end Go.Proofs.YtoncaejgflfhhaaGreatDoor
