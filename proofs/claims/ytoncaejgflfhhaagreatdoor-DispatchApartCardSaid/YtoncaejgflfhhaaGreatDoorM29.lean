/- dispatch's owned. -/
import Derived.Test.YtoncaejgflfhhaaGreatDoorM28
import Derived.Test.YtoncaejgflfhhaaGreatDoorM03
import Derived.Test.YtoncaejgflfhhaaGreatDoorM25
import Derived.Deep.RegionLaw
import Derived.Deep.DeepCutAuto
set_option linter.unusedVariables false
set_option linter.unusedSimpArgs false
namespace Go.Proofs.YtoncaejgflfhhaaGreatDoor
open Go.RowKit

theorem siz46 : (Tryz.prog.info? 46).map (·.size) = some 1 := by kernel_rfl
/-- A plan short enough to be copied. -/
def okPlan (p : Plan) : Prop := p.ar.length ≤ 100000 ∧ p.be.length ≤ 100000 ∧ p.pr.length ≤ 100000 ∧ p.af.length ≤ 100000

set_option maxHeartbeats 1000000 in
set_option maxRecDepth 100000 in
theorem owned39 (p : Plan) (cs : List Value) (w : World) (h : rPlan.K w p cs) (hok : okPlan p) :
    Calls Tryz.prog 39 #[rPlan.val cs] w (R1 rPlan p w) := by
  obtain ⟨v0, v1, v2, v3, rfl, h0, h1, h2, h3, h4⟩ := h
  rw [rPlan_val]
  obtain ⟨o0, o1, o2, o3⟩ := hok
  have H0 := Lib.hid (fun w' (hb : Below w.heap.size w w') => clone86 Rp.int rfl rfl (some 3) p.ar v0 w' (K_below h0 hb) (by omega))
  have H1 := Lib.hid (fun w' (hb : Below w.heap.size w w') => clone86 Rp.int rfl rfl (some 3) p.be v1 w' (K_below h1 hb) (by omega))
  have H2 := Lib.hid (fun w' (hb : Below w.heap.size w w') => clone86 Rp.int rfl rfl (some 3) p.pr v2 w' (K_below h2 hb) (by omega))
  have H3 := Lib.hid (fun w' (hb : Below w.heap.size w w') => clone86 Rp.int rfl rfl (some 3) p.af v3 w' (K_below h3 hb) (by omega))
  have HO := Lib.hid h4
  obtain ⟨A0, k0, rfl⟩ := slice_form h0
  obtain ⟨A1, k1, rfl⟩ := slice_form h1
  obtain ⟨A2, k2, rfl⟩ := slice_form h2
  obtain ⟨A3, k3, rfl⟩ := slice_form h3
  clear h0 h1 h2 h3 h4 o0 o1 o2 o3
  go_enter Tryz.func39, Tryz.ntmps39
  go_upto_region 1 with fail
  have hW : ∀ W, W = (w.alloc (.cells #[.slice A0 p.ar.length k0, .slice A1 p.be.length k1, .slice A2 p.pr.length k2, .slice A3 p.af.length k3, .string p.op] 48)).alloc (.cells #[.slice none 0 0, .slice none 0 0, .slice none 0 0, .slice none 0 0, .string ⟨#[]⟩] 48) → Below w.heap.size w W ∧ Box W w.heap.size 48 [.slice A0 p.ar.length k0, .slice A1 p.be.length k1, .slice A2 p.pr.length k2, .slice A3 p.af.length k3, .string p.op] ∧ Box W (w.heap.size + 1) 48 [.slice none 0 0, .slice none 0 0, .slice none 0 0, .slice none 0 0, .string ⟨#[]⟩] := by
    rintro W rfl
    exact ⟨below_more (below_one _ _) _, (Box.mk_ _ rfl rfl).alloc _, Box.mk_ _ (by simp) rfl⟩
  generalize (w.alloc (.cells #[.slice A0 p.ar.length k0, .slice A1 p.be.length k1, .slice A2 p.pr.length k2, .slice A3 p.af.length k3, .string p.op] 48)).alloc (.cells #[.slice none 0 0, .slice none 0 0, .slice none 0 0, .slice none 0 0, .string ⟨#[]⟩] 48) = W0 at *
  obtain ⟨hB0, b0, b1⟩ := hW W0 rfl
  clear hW
  have f0 := b0.cell 0 _ rfl
  have f1 := b0.cell 1 _ rfl
  have l0 := b0.lt
  go_cut [3] (fun _ wx => ∃ A0 k0 A1 k1, Box wx w.heap.size 48 [.slice A0 p.ar.length k0, .slice A1 p.be.length k1, .slice A2 p.pr.length k2, .slice A3 p.af.length k3, .string p.op] ∧ Box wx (w.heap.size + 1) 48 [.slice none 0 0, .slice none 0 0, .slice none 0 0, .slice none 0 0, .string ⟨#[]⟩] ∧ sInt.K wx p.ar [.slice A0 p.ar.length k0] ∧ sInt.K wx p.be [.slice A1 p.be.length k1] ∧ Below w.heap.size w wx)
  case first =>
    go_region_law (first
      | (go_simp; go_at_call 86; refine (H0.out _ hB0.drew).mono ?_; rintro e w1 ⟨v1, rfl, hO1, hB1⟩; obtain ⟨C0, m0, rfl, _⟩ := hO1.row; have hT1 := below_to (below_drew W0) hB1; have d0 := b0.later hT1; have d1 := b1.later hT1; have g1 := d0.cell 1 _ rfl; have z1 := d0.lt; try dsimp only)
      | (go_simp; go_at_call 86; refine (H1.out _ (below_to hB0 hT1)).mono ?_; rintro e w2 ⟨v2, rfl, hO2, hB2⟩; obtain ⟨C1, m1, rfl, _⟩ := hO2.row; have e0 := d0.later hB2; have e1 := d1.later hB2; obtain ⟨q0, q1, q2, q3, q4, qf, ql⟩ := e0.five; try dsimp only))
    all_goals
      have c1 := e0.chg 0 (.slice C0 p.ar.length m0)
      have e0' := e0.set 0 (.slice C0 p.ar.length m0)
      have c2 := e0'.chg 1 (.slice C1 p.be.length m1)
      have r1 := c2.box (c1.box e1 (by omega)) (by omega)
      have r0 := e0'.set 1 (.slice C1 p.be.length m1)
      have s1 := c2.K (d := sInt) rfl (c1.K rfl (K_below hO1.read hB2))
      have s2 := c2.K (d := sInt) rfl (c1.K rfl hO2.read)
      have hT := c2.below (c1.below (below_to (below_to hB0 hT1) hB2) (Nat.le_refl _)) (Nat.le_refl _)
      go_wp2_with fail
      go_meet
      exact ⟨_, _, _, _, r0, r1, s1, s2, hT⟩
  case rest =>
    obtain ⟨A0, k0, A1, k1, b0, b1, s0, s1, hB0⟩ := hcut
    go_upto_region 2 with fail
    have f0 := b0.cell 2 _ rfl
    have f1 := b0.cell 3 _ rfl
    have l0 := b0.lt
    go_cut [11] (fun _ wx => ∃ A2 k2 A3 k3, Box wx w.heap.size 48 [.slice A0 p.ar.length k0, .slice A1 p.be.length k1, .slice A2 p.pr.length k2, .slice A3 p.af.length k3, .string p.op] ∧ Box wx (w.heap.size + 1) 48 [.slice none 0 0, .slice none 0 0, .slice none 0 0, .slice none 0 0, .string ⟨#[]⟩] ∧ sInt.K wx p.ar [.slice A0 p.ar.length k0] ∧ sInt.K wx p.be [.slice A1 p.be.length k1] ∧ sInt.K wx p.pr [.slice A2 p.pr.length k2] ∧ sInt.K wx p.af [.slice A3 p.af.length k3] ∧ Below w.heap.size w wx)
    case first =>
      go_region_law (first
        | (go_simp; go_at_call 86; refine (H2.out _ hB0.drew).mono ?_; rintro e w1 ⟨v1, rfl, hO1, hB1⟩; obtain ⟨C0, m0, rfl, _⟩ := hO1.row; have hT1 := below_to (below_drew _) hB1; have d0 := b0.later hT1; have d1 := b1.later hT1; have g1 := d0.cell 3 _ rfl; have z1 := d0.lt; try dsimp only)
        | (go_simp; go_at_call 86; refine (H3.out _ (below_to hB0 hT1)).mono ?_; rintro e w2 ⟨v2, rfl, hO2, hB2⟩; obtain ⟨C1, m1, rfl, _⟩ := hO2.row; have e0 := d0.later hB2; have e1 := d1.later hB2; obtain ⟨q0, q1, q2, q3, q4, qf, ql⟩ := e0.five; try dsimp only))
      all_goals
        have c1 := e0.chg 2 (.slice C0 p.pr.length m0)
        have e0' := e0.set 2 (.slice C0 p.pr.length m0)
        have c2 := e0'.chg 3 (.slice C1 p.af.length m1)
        have r1 := c2.box (c1.box e1 (by omega)) (by omega)
        have r0 := e0'.set 3 (.slice C1 p.af.length m1)
        have t0 := c2.K (d := sInt) rfl (c1.K rfl (K_below (K_below s0 hT1) hB2))
        have t1 := c2.K (d := sInt) rfl (c1.K rfl (K_below (K_below s1 hT1) hB2))
        have t2 := c2.K (d := sInt) rfl (c1.K rfl (K_below hO1.read hB2))
        have t3 := c2.K (d := sInt) rfl (c1.K rfl hO2.read)
        have hT := c2.below (c1.below (below_to (below_to hB0 hT1) hB2) (Nat.le_refl _)) (Nat.le_refl _)
        go_wp2_with fail
        go_meet
        exact ⟨_, _, _, _, r0, r1, t0, t1, t2, t3, hT⟩
    case rest =>
      obtain ⟨A2, k2, A3, k3, b0, b1, s0, s1, s2, s3, hB0⟩ := hcut
      have hus : ∀ u ∈ [Value.slice A0 p.ar.length k0, .slice A1 p.be.length k1, .slice A2 p.pr.length k2, .slice A3 p.af.length k3, .string p.op], u.oneCell' = true := by simp [Value.oneCell']
      go_wp2_with (first
        | (refine wp_box_load rfl 48 _ rfl rfl b0 Tryz.underlying48 rfl siz48 ?_)
        | (refine wp_box_store rfl 48 _ _ rfl (us := [.slice A0 p.ar.length k0, .slice A1 p.be.length k1, .slice A2 p.pr.length k2, .slice A3 p.af.length k3, .string p.op]) rfl rfl b1 siz48 rfl hus ?_; intro w2 y0 hc2)
        | go_in)
      refine bodyPost_ret (v := .agg #[.slice A0 p.ar.length k0, .slice A1 p.be.length k1, .slice A2 p.pr.length k2, .slice A3 p.af.length k3, .string p.op]) (results_cell_row Tryz.results39 _ _ (w.heap.size + 1) 48 #[.slice A0 p.ar.length k0, .slice A1 p.be.length k1, .slice A2 p.pr.length k2, .slice A3 p.af.length k3, .string p.op] (0, 0) _ rfl y0 Tryz.underlying48 rfl siz48) rfl ⟨[.slice A0 p.ar.length k0, .slice A1 p.be.length k1, .slice A2 p.pr.length k2, .slice A3 p.af.length k3, .string p.op], rfl, ⟨_, _, _, _, rfl, hc2.K rfl s0, hc2.K rfl s1, hc2.K rfl s2, hc2.K rfl s3, HO.out⟩, hc2.below hB0 (by omega)⟩
end Go.Proofs.YtoncaejgflfhhaaGreatDoor
