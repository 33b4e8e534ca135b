/- slices.Delete of one method; method.Remove. -/
import Derived.Test.YtoncaejgflfhhaaGreatDoorM06
set_option linter.unusedVariables false
set_option linter.unusedSimpArgs false
namespace Go.Proofs.YtoncaejgflfhhaaGreatDoor
open Go.RowKit

theorem zero40 (w : World) : (zeroValue 40).run Tryz.prog w = .ok (.agg #[.slice none 0 0, .slice none 0 0, .int .i64 0]) w := by kernel_rfl
set_option maxRecDepth 100000 in
theorem delete91 (base : Nat) (xs : List Meth) (g cap i n : Nat) (hn : n = xs.length) (w : World) (hi : i < n) (hm : n ≤ 1000000) (ho : Own 40 rMeth base w (.slice (some ⟨g, 0, none⟩) n cap) xs) :
    Calls Tryz.prog 91 #[.slice (some ⟨g, 0, none⟩) n cap, .int .i64 i, .int .i64 (i + 1)] w fun e w' => e = .returned (.slice (some ⟨g, 0, none⟩) (n - 1) cap) ∧ Own 40 rMeth base w' (.slice (some ⟨g, 0, none⟩) (n - 1) cap) (xs.eraseIdx i) ∧ w.grownBy w' (some g) := by
  have hcap : n ≤ cap := by
    rcases ho.block with ⟨h, _⟩ | ⟨g', cap', cur, h, _, _, h2, _⟩
    · simp at h
    · simp at h; omega
  have HN := Lib.hid hn
  have hl : (xs.take i ++ xs.drop (i + 1)).length = n - 1 := by rw [List.length_append, List.length_take, List.length_drop]; omega
  have HL := Lib.hid hl
  have h1 : (i : Int) < (n : Int) := by omega
  have h2 : (i : Int) + 1 ≤ (n : Int) := by omega
  have h3 : (n : Int) ≤ (cap : Int) := by omega
  have h4 : ((i : Int) == (i : Int) + 1) = false := by rw [beq_eq_false_iff_ne]; omega
  have h5 : (0 : Int) ≤ (i : Int) := by omega
  have h6 : (i : Int) ≤ (cap : Int) := by omega
  have h7 : (0 : Int) ≤ (i : Int) + 1 := by omega
  have h8 : ((i : Int) + 1).toNat = i + 1 := by omega
  have HO := Lib.hid ho
  clear hn hl ho
  go_enter Tryz.func91, Tryz.ntmps91
  go_wp2
  have e1 : i + (n - (i + 1)) = n - 1 := by omega
  have h9 : (0 : Int) ≤ ((n - 1 : Nat) : Int) := by omega
  have h10 : ((n - 1 : Nat) : Int) ≤ (n : Int) := by omega
  have hne : ¬ cap = n - 1 := by omega
  have E1 := Lib.hid e1
  clear e1
  have hcl : (xs.take i ++ xs.drop (i + 1)) = xs.eraseIdx i := by rw [List.eraseIdx_eq_take_drop_succ]
  have HCL := Lib.hid hcl
  clear hcl
  by_cases hlast : i + 1 < n
  · have hA : ¬ cap = i + 1 := by omega
    go_region_held3 (fun _ => True) (trivial) (first
      | (refine step_cut (w := w.drew) (xs := xs) (n := n) (e := 40) (base := base) (d := rMeth) (t := 78) (sz := 3) (bs := 56) (i := i) (j := i + 1) (by rfl) _ _ (by rfl) HN.out Tryz.underlying78 inf40 rfl HO.out.drew rfl (by omega) (by omega) (by rfl) (by rfl) (fun _ => rfl) ?_; intro w1 hO1 hg1 _))
    rw [E1.out] at hO1 ⊢
    obtain ⟨w2, hclr, hO2, hg2, _⟩ := run_clear_tail (P := Tryz.prog) (ty := 0) (m := n - (n - 1)) (c := cap - (n - 1)) (A := some ⟨g, (n - 1) * 3, none⟩) HL.out.symm Tryz.underlying78 zero40 rfl (by simp [Value.oneCell', Value.cells]) rfl (by decide) hO1 rfl (by omega) (fun _ => rfl)
    go_wp2
    go_ret
    exact ⟨rfl, by rw [← HCL.out]; exact hO2, (show w.grownBy w1 (some g) from ⟨hg1.os, hg1.tape, hg1.output, hg1.size, hg1.block⟩).trans hg2⟩
  · have hl1 : n = i + 1 := by omega
    subst hl1
    have ho : Own 40 rMeth base w (.slice (some ⟨g, 0, none⟩) i cap) (xs.eraseIdx i) := by
      rw [← HCL.out, List.drop_of_length_le (by rw [← HN.out]; omega), List.append_nil]
      exact HO.out.take HN.out (by omega)
    have hl2 : i = (xs.eraseIdx i).length := by rw [← HCL.out, HL.out]; omega
    obtain ⟨w2, hclr, hO2, hg2, _⟩ := run_clear_tail (P := Tryz.prog) (ty := 0) (m := 1) (c := cap - i) (A := some ⟨g, i * 3, none⟩) (w := w.drew) hl2 Tryz.underlying78 zero40 rfl (by simp [Value.oneCell', Value.cells]) rfl (by decide) ho.drew rfl (by omega) (fun _ => rfl)
    have HH := Lib.hid (And.intro ho hl2)
    clear ho hl2
    have h13 : ¬ cap = i := by omega
    by_cases hA : cap = i + 1
    · subst hA
      have h12 : (i : Int) ≤ (i : Int) + 1 := by omega
      go_region_held3 (fun _ => True) (trivial) (first | fail)
      rw [Nat.add_sub_cancel_left] at hclr
      go_wp2
      go_ret
      exact ⟨by rw [Nat.add_sub_cancel]; rfl, by rw [Nat.add_sub_cancel]; exact hO2, ⟨hg2.os, hg2.tape, hg2.output, hg2.size, hg2.block⟩⟩
    · go_region_held3 (fun _ => True) (trivial) (first | fail)
      go_wp2
      go_ret
      exact ⟨by rw [Nat.add_sub_cancel]; rfl, by rw [Nat.add_sub_cancel]; exact hO2, ⟨hg2.os, hg2.tape, hg2.output, hg2.size, hg2.block⟩⟩

/-- method.Remove: the generic function, or what error. -/
def remM (g : Gen) (q : List ByteArray) (s : List Spec) : Gen × Int :=
  if fidx (fun x => hasM x q s) g.meths < 0 then (emptyGen, 5) else ({ g with meths := g.meths.eraseIdx (fidx (fun x => hasM x q s) g.meths).toNat }, 0)

set_option maxRecDepth 100000 in
set_option maxHeartbeats 1000000 in
theorem rem48 (g : Gen) (gcs : List Value) (e e' : Option Nat) (q : List ByteArray) (s : List Spec) (vq vs : Value) (w : World) (hg : rGen.K w g gcs) (hq : (Rp.slice e Rp.str).K w q [vq]) (hs : (Rp.slice e' rSpec).K w s [vs])
    (hbig : ∀ x ∈ g.meths, bigM x) (hlen : g.meths.length ≤ 1000) :
    Calls Tryz.prog 48 #[rGen.val gcs, vq, vs] w (RE rGen (remM g q s) w) := by
  have hg' := hg
  obtain ⟨gm, rfl, hgm, hg1, hg2, hg3⟩ := hg
  obtain ⟨A0, k0, rfl⟩ := slice_form hgm
  obtain ⟨A1, k1, rfl⟩ := slice_form hq
  obtain ⟨A2, k2, rfl⟩ := slice_form hs
  have H1 := Lib.hid (fun w' (hb : Below w.heap.size w w') => clone76 rMeth rfl rfl (some 40) g.meths (.slice A0 g.meths.length k0) w' (K_below hgm hb) (by omega))
  have HW := Lib.hid (fun w' (hb : Below w.heap.size w w') l' (hl1 : ∀ x ∈ l', x ∈ g.meths) (hl2 : l'.length ≤ 1000) e v (hv : (Rp.slice e rMeth).K w' l' [v]) => with80 g [.string g.name, .string g.comb, .int .i64 g.req, .slice A0 g.meths.length k0] e l' v w' (K_below hg' hb) hv (fun x hx => hbig x (hl1 x hx)) (by omega))
  have HI := Lib.hid (fun w' v (hv : sMeth.K w' g.meths [v]) b b' (hbox : Box w' b 38 [.slice A1 q.length k1]) (hbox' : Box w' b' 37 [.slice A2 s.length k2]) (hb : Below w.heap.size w w') => ifn77 rMeth rfl rfl (some 40) g.meths v 90 #[.pointer (some ⟨b, 0, none⟩), .pointer (some ⟨b', 0, none⟩)] _ w' hv enters90 (pred90 b b' q s e e' _ _ w' g.meths (hbox.cell 0 _ rfl) (hbox'.cell 0 _ rfl) (K_below hq hb) (K_below hs hb)))
  have HG := Lib.hid hgm
  rw [rGen_val]
  obtain ⟨W0, hW0⟩ : ∃ W, W = (((w.alloc (.cells #[.string g.name, .string g.comb, .int .i64 g.req, .slice A0 g.meths.length k0] 80)).alloc (.cells #[.slice A1 q.length k1] 38)).alloc (.cells #[.slice A2 s.length k2] 37)).alloc (.cells #[.string ⟨#[]⟩, .string ⟨#[]⟩, .int .i64 0, .slice none 0 0] 80) := ⟨_, rfl⟩
  have hB0 : Below w.heap.size w W0 := hW0 ▸ below_more (below_more (below_more (below_one _ _) _) _) _
  have bg : Box W0 w.heap.size 80 [.string g.name, .string g.comb, .int .i64 g.req, .slice A0 g.meths.length k0] := hW0 ▸ (((Box.mk_ _ rfl rfl).alloc _).alloc _).alloc _
  have bq : Box W0 (w.heap.size + 1) 38 [.slice A1 q.length k1] := hW0 ▸ ((Box.mk_ _ (by simp) rfl).alloc _).alloc _
  have bs : Box W0 (w.heap.size + 1 + 1) 37 [.slice A2 s.length k2] := hW0 ▸ (Box.mk_ _ (by simp) rfl).alloc _
  have br : Box W0 (w.heap.size + 1 + 1 + 1) 80 [.string ⟨#[]⟩, .string ⟨#[]⟩, .int .i64 0, .slice none 0 0] := hW0 ▸ Box.mk_ _ (by simp) rfl
  have HW0 := Lib.hid hW0
  have d3 := bg.cell 0 _ rfl
  have d4 := bg.cell 1 _ rfl
  have d5 := bg.cell 2 _ rfl
  have d6 := bg.cell 3 _ rfl
  have l0 := bg.lt
  have l2 := br.lt
  rcases fidx_cases (fun x => hasM x q s) g.meths with ⟨hz, _⟩ | ⟨i, hi, hz, _⟩
  · rw [show remM g q s = (emptyGen, 5) from by unfold remM; rw [if_pos (by omega)]]
    rw [hz] at HI
    clear hgm hz hg' hbig hW0 hq hs
    go_enter Tryz.func48, Tryz.ntmps48
    go_wp2_with (first
      | (go_at_call 77; rw [← HW0.out]; refine (HI.out W0 _ (K_below HG.out hB0) _ _ bq bs hB0).mono ?_; rintro e w2 ⟨rfl, hB2⟩; have br3 := br.later hB2; have r0 := br3.cell 0 _ rfl; have r1 := br3.cell 1 _ rfl; have r2 := br3.cell 2 _ rfl; have r3 := br3.cell 3 _ rfl; have fr := br3.free))
    have bz : Below w.heap.size w ((((w2.setCell ⟨w.heap.size + 1 + 1 + 1, 0, none⟩ (.string ⟨#[]⟩)).setCell ⟨w.heap.size + 1 + 1 + 1, 1, none⟩ (.string ⟨#[]⟩)).setCell ⟨w.heap.size + 1 + 1 + 1, 2, none⟩ (.int .i64 0)).setCell ⟨w.heap.size + 1 + 1 + 1, 3, none⟩ (.slice none 0 0)) :=
      below_put (by omega) [.string ⟨#[]⟩, .string ⟨#[]⟩, .int .i64 0, .slice none 0 0] 0 (below_to hB0 hB2)
    exact bodyPost_ret (v := .tuple #[.agg #[.string ⟨#[]⟩, .string ⟨#[]⟩, .int .i64 0, .slice none 0 0], .int .i64 5]) (by simp [results, Tryz.results48, go_sem, r0, r1, r2, r3]) rfl ⟨_, rfl, emptyGen_K _, bz⟩
  · obtain ⟨l', hl'⟩ : ∃ l', l' = g.meths.eraseIdx i := ⟨_, rfl⟩
    rw [show remM g q s = ({ g with meths := l' }, 0) from by unfold remM; rw [if_neg (by omega), hz, hl']; rfl]
    rw [hz] at HI
    have HL' := Lib.hid hl'
    have hne : g.meths ≠ [] := by intro h; rw [h] at hi; simp at hi
    have HN := Lib.hid hne
    have HM := Lib.hid (And.intro (show ∀ x ∈ l', x ∈ g.meths from fun x hx => by rw [hl'] at hx; exact List.mem_of_mem_eraseIdx hx) (show l'.length ≤ 1000 by rw [hl', List.length_eraseIdx]; split <;> omega))
    have y1 : ¬ (w.heap.size = w.heap.size + 1 + 1 + 1) := by omega
    have y2 : ¬ (w.heap.size + 1 + 1 + 1 = w.heap.size) := by omega
    have hi2 : (i : Int) < 1000 := by omega
    have hi3 : (0 : Int) ≤ (i : Int) := by omega
    have hwr : IntKind.i64.wrap ((i : Int) + 1) = (i : Int) + 1 := IntWalk.i64_in _ (by omega)
    clear hgm hz hg' hbig hW0 hq hs hl' hne
    go_enter Tryz.func48, Tryz.ntmps48
    go_wp2_with (first
      | (go_at_call 77; rw [← HW0.out]; refine (HI.out W0 _ (K_below HG.out hB0) _ _ bq bs hB0).mono ?_; rintro e w2 ⟨rfl, hB2⟩; obtain ⟨hc2, hf2⟩ := bcell hB2))
    have z1 := Nat.lt_of_lt_of_le l2 hB2.size
    go_region_held3 (fun w' => w'.cell? ⟨w.heap.size, 0, none⟩ = some (.string g.name) ∧ w'.cell? ⟨w.heap.size, 1, none⟩ = some (.string g.comb) ∧ w'.cell? ⟨w.heap.size, 2, none⟩ = some (.int .i64 g.req) ∧ w'.cell? ⟨w.heap.size, 3, none⟩ = some (.slice A0 g.meths.length k0))
      (go_keep)
      (first
        | (go_at_call 76; refine (H1.out _ (below_to hB0 hB2).drew).mono ?_; rintro e w3 ⟨v3, rfl, hO3, hB3⟩; obtain ⟨g3, k3, rfl⟩ := hO3.shape HN.out; have hT3 := below_to hB2.drew hB3; have bg3 := bg.later hT3; have e0 := bg3.cell 0 _ rfl; have e1 := bg3.cell 1 _ rfl; have e2 := bg3.cell 2 _ rfl; have e3 := bg3.cell 3 _ rfl)
        | (go_at_call 91; refine (delete91 _ g.meths g3 k3 i _ rfl _ hi (by omega) hO3).mono ?_; rintro e w4 ⟨rfl, hO4, hg4⟩; have hge := (hO3.ge g3 rfl).1; have hge2 : W0.heap.size ≤ g3 := Nat.le_trans hB2.size hge; have bg4 := bg3.grown hg4 (by simp; omega); have br4 := (br.later hT3).grown hg4 (by simp; omega); have e4 := bg4.cell 0 _ rfl; have e5 := bg4.cell 1 _ rfl; have e6 := bg4.cell 2 _ rfl; have e7 := bg4.cell 3 _ rfl; rw [← HL'.out] at hO4; have hB4 := (below_to hB0 hT3).grown hg4 (below_to hB0 hT3).size (fun k hk => by cases hk; omega))
        | (go_at_call 80; refine (HW.out _ hB4 l' HM.out.1 HM.out.2 (some 40) _ hO4.read).mono ?_; rintro e w5 ⟨cs5, rfl, ⟨gm5, rfl, q1, q2, q3, q4⟩, hB5⟩; obtain ⟨A4, k4, rfl⟩ := slice_form q1; have bg5 := bg4.later hB5; have x0 := bg5.cell 0 _ rfl; have x1 := bg5.cell 1 _ rfl; have x2 := bg5.cell 2 _ rfl; have x3 := bg5.cell 3 _ rfl; have br5 := br4.later hB5; have r0 := br5.cell 0 _ rfl; have r1 := br5.cell 1 _ rfl; have r2 := br5.cell 2 _ rfl; have r3 := br5.cell 3 _ rfl; have fr := br5.free))
    have kz : sMeth.K ((((w5.setCell ⟨w.heap.size + 1 + 1 + 1, 0, none⟩ (.string g.name)).setCell ⟨w.heap.size + 1 + 1 + 1, 1, none⟩ (.string g.comb)).setCell ⟨w.heap.size + 1 + 1 + 1, 2, none⟩ (.int .i64 g.req)).setCell ⟨w.heap.size + 1 + 1 + 1, 3, none⟩ (.slice A4 l'.length k4)) l' [.slice A4 l'.length k4] :=
      K_put (t := 80) (d := sMeth) rfl [.string g.name, .string g.comb, .int .i64 g.req, .slice A4 l'.length k4] 0 q1 br5
    have bz : Below w.heap.size w ((((w5.setCell ⟨w.heap.size + 1 + 1 + 1, 0, none⟩ (.string g.name)).setCell ⟨w.heap.size + 1 + 1 + 1, 1, none⟩ (.string g.comb)).setCell ⟨w.heap.size + 1 + 1 + 1, 2, none⟩ (.int .i64 g.req)).setCell ⟨w.heap.size + 1 + 1 + 1, 3, none⟩ (.slice A4 l'.length k4)) :=
      below_put (by omega) [.string g.name, .string g.comb, .int .i64 g.req, .slice A4 l'.length k4] 0 (below_to hB4 hB5)
    go_wp2
    refine bodyPost_ret (v := .tuple #[.agg #[.string g.name, .string g.comb, .int .i64 g.req, .slice A4 l'.length k4], .int .i64 0]) ?_ rfl ?_
    · simp [results, Tryz.results48, go_sem, r0, r1, r2, r3]
    · refine ⟨[.string g.name, .string g.comb, .int .i64 g.req, .slice A4 l'.length k4], ?_, ?_, ?_⟩
      · rfl
      · exact ⟨_, rfl, kz, q2, q3, q4⟩
      · exact bz
end Go.Proofs.YtoncaejgflfhhaaGreatDoor
