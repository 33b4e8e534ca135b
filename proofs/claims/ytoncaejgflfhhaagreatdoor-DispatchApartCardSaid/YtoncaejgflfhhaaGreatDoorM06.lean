/- method.Add. | Cutting a part out of a row of one's own: append(s[:i], s[j:]...), and clear of a row's tail; over any program. -/
import Derived.Test.YtoncaejgflfhhaaGreatDoorM05
import Derived.Test.YtoncaejgflfhhaaGreatDoorM00
set_option linter.unusedVariables false
set_option linter.unusedSimpArgs false
namespace Go.Proofs.YtoncaejgflfhhaaGreatDoor
open Go.RowKit

/-- What is returned reads as r.1, beside the error r.2. -/
def RE {α : Type} (d : Rp α) (r : α × Int) (w : World) (e : Ending) (w' : World) : Prop := ∃ cs, e = .returned (.tuple #[d.val cs, .int .i64 r.2]) ∧ d.K w' r.1 cs ∧ Below w.heap.size w w'

/-- method.Add: the generic function, or what error. -/
def emptyGen : Gen := ⟨⟨#[]⟩, ⟨#[]⟩, 0, []⟩
theorem emptyGen_K (w : World) : rGen.K w emptyGen [.string ⟨#[]⟩, .string ⟨#[]⟩, .int .i64 0, .slice none 0 0] :=
  ⟨_, rfl, ⟨none, 0, rfl, Nat.le_refl _, Nat.zero_le _, fun _ => rfl, .inl rfl⟩, ⟨by decide, by decide⟩, Nat.zero_le _, Nat.zero_le _⟩
def addM (g : Gen) (m : Meth) : Gen × Int :=
  if (m.specs.length : Int) ≠ g.req then (emptyGen, 4)
  else if fidx (fun x => hasM x m.quals m.specs) g.meths < 0 then
    if 100 ≤ g.meths.length then (emptyGen, 9) else ({ g with meths := g.meths ++ [m] }, 0)
  else ({ g with meths := g.meths.set (fidx (fun x => hasM x m.quals m.specs) g.meths).toNat m }, 0)

set_option maxRecDepth 100000 in
theorem add32_size (g : Gen) (gcs : List Value) (m : Meth) (mcs : List Value) (w : World) (hg : rGen.K w g gcs) (hm : rMeth.K w m mcs) (hne : (m.specs.length : Int) ≠ g.req) :
    Calls Tryz.prog 32 #[rGen.val gcs, rMeth.val mcs] w (RE rGen (addM g m) w) := by
  rw [show addM g m = (emptyGen, 4) from by unfold addM; rw [if_pos hne]]
  obtain ⟨gm, rfl, hgm, hg1, hg2, hg3⟩ := hg
  obtain ⟨mq, ms, rfl, m1, m2, m3⟩ := hm
  obtain ⟨A2, k2, rfl⟩ := slice_form m2
  obtain ⟨A1, k1, rfl⟩ := slice_form m1
  obtain ⟨A0, k0, rfl⟩ := slice_form hgm
  have hb : ((m.specs.length : Int) != g.req) = true := by simpa using hne
  rw [rGen_val, rMeth_val]
  clear hgm hne m1 m2
  go_enter Tryz.func32, Tryz.ntmps32
  go_wp2
  exact bodyPost_ret (v := .tuple #[.agg #[.string ⟨#[]⟩, .string ⟨#[]⟩, .int .i64 0, .slice none 0 0], .int .i64 4]) (by simp [results, Tryz.results32, go_sem]) rfl ⟨_, rfl, emptyGen_K _, below_more (below_more (below_one _ _) _) _⟩

set_option maxHeartbeats 1000000 in
set_option maxRecDepth 100000 in
theorem add32_found (g : Gen) (gcs : List Value) (m : Meth) (mcs : List Value) (w : World) (hg : rGen.K w g gcs) (hm : rMeth.K w m mcs) (heq : (m.specs.length : Int) = g.req)
    (i : Nat) (hi : i < g.meths.length) (hz : fidx (fun x => hasM x m.quals m.specs) g.meths = i) (hbig : ∀ x ∈ g.meths.set i m, bigM x) (hlen : g.meths.length ≤ 1000000) :
    Calls Tryz.prog 32 #[rGen.val gcs, rMeth.val mcs] w (RE rGen (addM g m) w) := by
  rw [show addM g m = ({ g with meths := g.meths.set i m }, 0) from by unfold addM; rw [if_neg (by simpa using heq), if_neg (by omega), hz]; rfl]
  obtain ⟨l', hl'⟩ : ∃ l', l' = g.meths.set i m := ⟨_, rfl⟩
  rw [← hl'] at hbig ⊢
  have hll : l'.length = g.meths.length := by rw [hl', List.length_set]
  have HL' := Lib.hid hl'
  have HLL := Lib.hid hll
  have hg' := hg
  obtain ⟨gm, rfl, hgm, hg1, hg2, hg3⟩ := hg
  obtain ⟨mq, ms, rfl, m1, m2, m3⟩ := hm
  have m1' := m1
  have m2' := m2
  obtain ⟨A2, k2, rfl⟩ := slice_form m2
  obtain ⟨A1, k1, rfl⟩ := slice_form m1
  obtain ⟨A0, k0, rfl⟩ := slice_form hgm
  have hb : ((m.specs.length : Int) != g.req) = false := by rw [heq]; simp
  have H1 := Lib.hid (fun w' (hb : Below w.heap.size w w') => clone76 rMeth rfl rfl (some 40) g.meths (.slice A0 g.meths.length k0) w' (K_below hgm hb) (by omega))
  have HW := Lib.hid (fun w' (hb : Below w.heap.size w w') e v (hv : (Rp.slice e rMeth).K w' l' [v]) => with80 g [.string g.name, .string g.comb, .int .i64 g.req, .slice A0 g.meths.length k0] e l' v w' (K_below hg' hb) hv hbig (by rw [HLL.out]; exact hlen))
  have HI := Lib.hid (fun w' v (hv : sMeth.K w' g.meths [v]) b (hbox : Box w' b 40 [.slice A1 m.quals.length k1, .slice A2 m.specs.length k2, .int .i64 m.fn]) (hb : Below w.heap.size w w') => ifn77 rMeth rfl rfl (some 40) g.meths v 78 #[.pointer (some ⟨b, 0, none⟩)] _ w' hv enters78 (pred78 b m _ _ _ w' g.meths (hbox.cell 0 _ rfl) (hbox.cell 1 _ rfl) (hbox.cell 2 _ rfl) (K_below m1 hb) (K_below m2 hb)))
  rw [hz] at HI
  have HM := Lib.hid (And.intro m1 (And.intro m2 m3))
  have HG := Lib.hid hgm
  rw [rGen_val, rMeth_val]
  obtain ⟨W0, hW0⟩ : ∃ W, W = ((w.alloc (.cells #[.string g.name, .string g.comb, .int .i64 g.req, .slice A0 g.meths.length k0] 80)).alloc (.cells #[.slice A1 m.quals.length k1, .slice A2 m.specs.length k2, .int .i64 m.fn] 40)).alloc (.cells #[.string ⟨#[]⟩, .string ⟨#[]⟩, .int .i64 0, .slice none 0 0] 80) := ⟨_, rfl⟩
  have hB0 : Below w.heap.size w W0 := hW0 ▸ below_more (below_more (below_one _ _) _) _
  have bg : Box W0 w.heap.size 80 [.string g.name, .string g.comb, .int .i64 g.req, .slice A0 g.meths.length k0] := hW0 ▸ ((Box.mk_ _ rfl rfl).alloc _).alloc _
  have bm : Box W0 (w.heap.size + 1) 40 [.slice A1 m.quals.length k1, .slice A2 m.specs.length k2, .int .i64 m.fn] := hW0 ▸ (Box.mk_ _ (by simp) rfl).alloc _
  have br : Box W0 (w.heap.size + 1 + 1) 80 [.string ⟨#[]⟩, .string ⟨#[]⟩, .int .i64 0, .slice none 0 0] := hW0 ▸ Box.mk_ _ (by simp) rfl
  have HW0 := Lib.hid hW0
  have hne : g.meths ≠ [] := by intro h; rw [h] at hi; simp at hi
  have HN := Lib.hid hne
  have d0 := bm.cell 0 _ rfl
  have d1 := bm.cell 1 _ rfl
  have d2 := bm.cell 2 _ rfl
  have d3 := bg.cell 0 _ rfl
  have d4 := bg.cell 1 _ rfl
  have d5 := bg.cell 2 _ rfl
  have d6 := bg.cell 3 _ rfl
  have l0 := bg.lt
  have l1 := bm.lt
  have l2 := br.lt
  clear hgm heq m1 m2 m1' m2' hz hg' hbig hW0 hne hl' hll
  have hi' : (i : Int) < (g.meths.length : Int) := by omega
  go_enter Tryz.func32, Tryz.ntmps32
  go_wp2_with (first
    | (go_at_call 76; rw [← HW0.out]; refine (H1.out _ hB0).mono ?_; rintro e w1 ⟨v1, rfl, hO1, hB1⟩; obtain ⟨g3, k3, rfl⟩ := hO1.shape HN.out; have hge := (hO1.ge g3 rfl).1; have n0 : ¬ w.heap.size = g3 := (by omega); have n1 : ¬ w.heap.size + 1 = g3 := (by omega); have n2 : ¬ w.heap.size + 1 + 1 = g3 := (by omega); have m0 : ¬ g3 = w.heap.size := (by omega); have m1 : ¬ g3 = w.heap.size + 1 := (by omega); have m2 : ¬ g3 = w.heap.size + 1 + 1 := (by omega))
    | (go_at_call 77; refine (HI.out _ _ hO1.read _ (bm.later hB1) (below_to hB0 hB1)).mono ?_; rintro e w2 ⟨rfl, hB2⟩; have hT2 := below_to hB1 hB2; obtain ⟨hc2, hf2⟩ := bcell hT2; have hO2 := hO1.below hB2; obtain ⟨cs3, ⟨xq, xs3, rfl, _⟩, hcc, hfr⟩ := hO2.get i hi; have p0 : w2.cell? ⟨g3, i * 3, none⟩ = some xq := hcc 0 _ rfl; have p1 : w2.cell? ⟨g3, i * 3 + 1, none⟩ = some xs3 := hcc 1 _ rfl; have p2 : w2.cell? ⟨g3, i * 3 + 2, none⟩ = some _ := hcc 2 _ rfl; have hput := Lib.hid (hO2.put hi (x := m) (us := [.slice A1 m.quals.length k1, .slice A2 m.specs.length k2, .int .i64 m.fn]) ⟨_, _, rfl, K_below HM.out.1 (below_to hB0 hT2), K_below HM.out.2.1 (below_to hB0 hT2), HM.out.2.2⟩ rfl); clear hcc; obtain ⟨W3, hW3⟩ : ∃ W, W = ((w2.setCell ⟨g3, i * 3, none⟩ (.slice A1 m.quals.length k1)).setCell ⟨g3, i * 3 + 1, none⟩ (.slice A2 m.specs.length k2)).setCell ⟨g3, i * 3 + 2, none⟩ (.int .i64 m.fn) := ⟨_, rfl⟩; have HP : Hid (Own 40 rMeth W0.heap.size W3 (.slice (some ⟨g3, 0, none⟩) g.meths.length k3) l' ∧ w2.grownBy W3 (some g3)) := hW3 ▸ HL'.out ▸ ⟨hput.out.1, hput.out.2.1⟩; have HW3 := Lib.hid hW3; clear hW3)
    | (go_at_call 80; rw [← HW3.out]; refine (HW.out _ ((below_to hB0 hT2).grown HP.out.2 (below_to hB0 hT2).size (fun k hk => by cases hk; omega)) (some 40) _ HP.out.1.read).mono ?_; rintro e w4 ⟨cs4, rfl, ⟨gm4, rfl, q1, q2, q3, q4⟩, hB4⟩; obtain ⟨A4, k4, rfl⟩ := slice_form q1; have br3 := ((br.later hT2).grown HP.out.2 (by simp; omega)).later hB4; have r0 := br3.cell 0 _ rfl; have r1 := br3.cell 1 _ rfl; have r2 := br3.cell 2 _ rfl; have r3 := br3.cell 3 _ rfl; have fr := br3.free)
    )
  have kz : sMeth.K ((((w4.setCell ⟨w.heap.size + 1 + 1, 0, none⟩ (.string g.name)).setCell ⟨w.heap.size + 1 + 1, 1, none⟩ (.string g.comb)).setCell ⟨w.heap.size + 1 + 1, 2, none⟩ (.int .i64 g.req)).setCell ⟨w.heap.size + 1 + 1, 3, none⟩ (.slice A4 l'.length k4)) l' [.slice A4 l'.length k4] :=
    K_put (t := 80) (d := sMeth) rfl [.string g.name, .string g.comb, .int .i64 g.req, .slice A4 l'.length k4] 0 q1 br3
  have bz : Below w.heap.size w ((((w4.setCell ⟨w.heap.size + 1 + 1, 0, none⟩ (.string g.name)).setCell ⟨w.heap.size + 1 + 1, 1, none⟩ (.string g.comb)).setCell ⟨w.heap.size + 1 + 1, 2, none⟩ (.int .i64 g.req)).setCell ⟨w.heap.size + 1 + 1, 3, none⟩ (.slice A4 l'.length k4)) :=
    below_put (by omega) [.string g.name, .string g.comb, .int .i64 g.req, .slice A4 l'.length k4] 0 (below_to ((below_to hB0 hT2).grown HP.out.2 (below_to hB0 hT2).size (fun k hk => by cases hk; omega)) hB4)
  refine bodyPost_ret (v := .tuple #[.agg #[.string g.name, .string g.comb, .int .i64 g.req, .slice A4 l'.length k4], .int .i64 0]) ?_ rfl ?_
  · simp [results, Tryz.results32, go_sem, r0, r1, r2, r3]
  · refine ⟨[.string g.name, .string g.comb, .int .i64 g.req, .slice A4 l'.length k4], ?_, ?_, ?_⟩
    · rfl
    · exact ⟨_, rfl, kz, q2, q3, q4⟩
    · exact bz

set_option maxHeartbeats 1000000 in
set_option maxRecDepth 100000 in
theorem add32_new (g : Gen) (gcs : List Value) (m : Meth) (mcs : List Value) (w : World) (hg : rGen.K w g gcs) (hm : rMeth.K w m mcs) (heq : (m.specs.length : Int) = g.req)
    (hz : fidx (fun x => hasM x m.quals m.specs) g.meths = -1) (hbig : ∀ x ∈ g.meths ++ [m], bigM x) (hlen : g.meths.length ≤ 1000) :
    Calls Tryz.prog 32 #[rGen.val gcs, rMeth.val mcs] w (RE rGen (addM g m) w) := by
  obtain ⟨l', hl'⟩ : ∃ l', l' = g.meths ++ [m] := ⟨_, rfl⟩
  rw [← hl'] at hbig
  have hll : l'.length = g.meths.length + 1 := by rw [hl', List.length_append]; rfl
  have HL' := Lib.hid hl'
  have HLL := Lib.hid hll
  have hg' := hg
  obtain ⟨gm, rfl, hgm, hg1, hg2, hg3⟩ := hg
  obtain ⟨mq, ms, rfl, m1, m2, m3⟩ := hm
  obtain ⟨A2, k2, rfl⟩ := slice_form m2
  obtain ⟨A1, k1, rfl⟩ := slice_form m1
  obtain ⟨A0, k0, rfl⟩ := slice_form hgm
  have hb : ((m.specs.length : Int) != g.req) = false := by rw [heq]; simp
  have H1 := Lib.hid (fun w' (hb : Below w.heap.size w w') => clone76 rMeth rfl rfl (some 40) g.meths (.slice A0 g.meths.length k0) w' (K_below hgm hb) (by omega))
  have HW := Lib.hid (fun w' (hb : Below w.heap.size w w') e v (hv : (Rp.slice e rMeth).K w' l' [v]) => with80 g [.string g.name, .string g.comb, .int .i64 g.req, .slice A0 g.meths.length k0] e l' v w' (K_below hg' hb) hv hbig (by rw [HLL.out]; omega))
  have HI := Lib.hid (fun w' v (hv : sMeth.K w' g.meths [v]) b (hbox : Box w' b 40 [.slice A1 m.quals.length k1, .slice A2 m.specs.length k2, .int .i64 m.fn]) (hb : Below w.heap.size w w') => ifn77 rMeth rfl rfl (some 40) g.meths v 78 #[.pointer (some ⟨b, 0, none⟩)] _ w' hv enters78 (pred78 b m _ _ _ w' g.meths (hbox.cell 0 _ rfl) (hbox.cell 1 _ rfl) (hbox.cell 2 _ rfl) (K_below m1 hb) (K_below m2 hb)))
  rw [hz] at HI
  have HM := Lib.hid (And.intro m1 (And.intro m2 m3))
  rw [rGen_val, rMeth_val]
  obtain ⟨W0, hW0⟩ : ∃ W, W = ((w.alloc (.cells #[.string g.name, .string g.comb, .int .i64 g.req, .slice A0 g.meths.length k0] 80)).alloc (.cells #[.slice A1 m.quals.length k1, .slice A2 m.specs.length k2, .int .i64 m.fn] 40)).alloc (.cells #[.string ⟨#[]⟩, .string ⟨#[]⟩, .int .i64 0, .slice none 0 0] 80) := ⟨_, rfl⟩
  have hB0 : Below w.heap.size w W0 := hW0 ▸ below_more (below_more (below_one _ _) _) _
  have bg : Box W0 w.heap.size 80 [.string g.name, .string g.comb, .int .i64 g.req, .slice A0 g.meths.length k0] := hW0 ▸ ((Box.mk_ _ rfl rfl).alloc _).alloc _
  have bm : Box W0 (w.heap.size + 1) 40 [.slice A1 m.quals.length k1, .slice A2 m.specs.length k2, .int .i64 m.fn] := hW0 ▸ (Box.mk_ _ (by simp) rfl).alloc _
  have br : Box W0 (w.heap.size + 1 + 1) 80 [.string ⟨#[]⟩, .string ⟨#[]⟩, .int .i64 0, .slice none 0 0] := hW0 ▸ Box.mk_ _ (by simp) rfl
  have HW0 := Lib.hid hW0
  have d0 := bm.cell 0 _ rfl
  have d1 := bm.cell 1 _ rfl
  have d2 := bm.cell 2 _ rfl
  have d3 := bg.cell 0 _ rfl
  have d4 := bg.cell 1 _ rfl
  have d5 := bg.cell 2 _ rfl
  have d6 := bg.cell 3 _ rfl
  have l0 := bg.lt
  have l1 := bm.lt
  have l2 := br.lt
  by_cases hfull : 100 ≤ g.meths.length
  · rw [show addM g m = (emptyGen, 9) from by unfold addM; rw [if_neg (by simpa using heq), if_pos (by omega), if_pos hfull]]
    have hi' : (100 : Int) ≤ (g.meths.length : Int) := by omega
    clear hgm heq m1 m2 hz hg' hbig hW0 hl' hll hfull
    go_enter Tryz.func32, Tryz.ntmps32
    go_wp2_with (first
      | (go_at_call 76; rw [← HW0.out]; refine (H1.out _ hB0).mono ?_; rintro e w1 ⟨v1, rfl, hO1, hB1⟩; obtain ⟨A3, k3, rfl, _⟩ := hO1.row)
      | (go_at_call 77; refine (HI.out _ _ hO1.read _ (bm.later hB1) (below_to hB0 hB1)).mono ?_; rintro e w2 ⟨rfl, hB2⟩; have hT2 := below_to hB1 hB2; have br3 := br.later hT2; have r0 := br3.cell 0 _ rfl; have r1 := br3.cell 1 _ rfl; have r2 := br3.cell 2 _ rfl; have r3 := br3.cell 3 _ rfl; have fr := br3.free))
    have bz : Below w.heap.size w ((((w2.setCell ⟨w.heap.size + 1 + 1, 0, none⟩ (.string ⟨#[]⟩)).setCell ⟨w.heap.size + 1 + 1, 1, none⟩ (.string ⟨#[]⟩)).setCell ⟨w.heap.size + 1 + 1, 2, none⟩ (.int .i64 0)).setCell ⟨w.heap.size + 1 + 1, 3, none⟩ (.slice none 0 0)) :=
      below_put (by omega) [.string ⟨#[]⟩, .string ⟨#[]⟩, .int .i64 0, .slice none 0 0] 0 (below_to hB0 hT2)
    exact bodyPost_ret (v := .tuple #[.agg #[.string ⟨#[]⟩, .string ⟨#[]⟩, .int .i64 0, .slice none 0 0], .int .i64 9]) (by simp [results, Tryz.results32, go_sem, r0, r1, r2, r3]) rfl ⟨_, rfl, emptyGen_K _, bz⟩
  · rw [show addM g m = ({ g with meths := l' }, 0) from by unfold addM; rw [if_neg (by simpa using heq), if_pos (by omega), if_neg hfull, hl']]
    have hi' : (g.meths.length : Int) < (100 : Int) := by omega
    clear hgm heq m1 m2 hz hg' hbig hW0 hl' hll hfull
    go_enter Tryz.func32, Tryz.ntmps32
    go_wp2_with (first
      | (go_at_call 76; rw [← HW0.out]; refine (H1.out _ hB0).mono ?_; rintro e w1 ⟨v1, rfl, hO1, hB1⟩; obtain ⟨A3, k3, rfl, _⟩ := hO1.row)
      | (go_at_call 77; refine (HI.out _ _ hO1.read _ (bm.later hB1) (below_to hB0 hB1)).mono ?_; rintro e w2 ⟨rfl, hB2⟩))
    have hT2 := below_to hB1 hB2
    obtain ⟨hc2, hf2⟩ := bcell hT2
    have hO2 := hO1.below hB2
    have HBB := Lib.hid (And.intro (show (g.meths.length + 1) * 56 ≤ 140737488355328 by omega) (show g.meths.length + 1 ≤ maxLen by unfold maxLen; omega))
    have z1 := Nat.lt_of_lt_of_le l2 hT2.size
    have y1 : ¬ (w.heap.size = w.heap.size + 1 + 1) := by omega
    have y2 : ¬ (w.heap.size + 1 + 1 = w.heap.size) := by omega
    go_region_held3 (fun w' => w'.cell? ⟨w.heap.size, 0, none⟩ = some (.string g.name) ∧ w'.cell? ⟨w.heap.size, 1, none⟩ = some (.string g.comb) ∧ w'.cell? ⟨w.heap.size, 2, none⟩ = some (.int .i64 g.req) ∧ w'.cell? ⟨w.heap.size, 3, none⟩ = some (.slice A0 g.meths.length k0) ∧ w'.cell? ⟨w.heap.size + 1, 0, none⟩ = some (.slice A1 m.quals.length k1) ∧ w'.cell? ⟨w.heap.size + 1, 1, none⟩ = some (.slice A2 m.specs.length k2) ∧ w'.cell? ⟨w.heap.size + 1, 2, none⟩ = some (.int .i64 m.fn))
      (go_keep)
      (first
        | (refine step_app1 (w := w2.drew) (v := .slice A3 g.meths.length k3) (y := m) (d := rMeth) (e := 40) (base := W0.heap.size) (sz := 3) (bs := 56) (cs := [.slice A1 m.quals.length k1, .slice A2 m.specs.length k2, .int .i64 m.fn]) (t' := 40) (by rfl) _ _ 78 (by rfl) Tryz.underlying78 inf40 rfl (by decide) (by rfl) hO2.drew rfl (by rfl) ⟨_, _, rfl, K_below HM.out.1 (below_to hB0 hT2).drew, K_below HM.out.2.1 (below_to hB0 hT2).drew, HM.out.2.2⟩ HBB.out.1 HBB.out.2 (by exact hT2.size) ?_; intro gg cap w3 hA; have bg3 := hA.box_lt hO2.drew (bg.later hT2).drew l0; have bm3 := hA.box_lt hO2.drew (bm.later hT2).drew l1; have br3 := hA.box_lt hO2.drew (br.later hT2).drew l2; have e0 := bg3.cell 0 _ rfl; have e1 := bg3.cell 1 _ rfl; have e2 := bg3.cell 2 _ rfl; have e3 := bg3.cell 3 _ rfl; have e4 := bm3.cell 0 _ rfl; have e5 := bm3.cell 1 _ rfl; have e6 := bm3.cell 2 _ rfl; have hB3 := hA.step hO2.drew (below_to hB0 hT2).drew hB0.size; have hO3 := hA.own; rw [← HL'.out] at hO3)
        | (go_at_call 80; refine (HW.out _ hB3 (some 40) _ hO3.read).mono ?_; rintro e w4 ⟨cs4, rfl, ⟨gm4, rfl, q1, q2, q3, q4⟩, hB4⟩; obtain ⟨A4, k4, rfl⟩ := slice_form q1; have bg4 := bg3.later hB4; have bm4 := bm3.later hB4; have x0 := bg4.cell 0 _ rfl; have x1 := bg4.cell 1 _ rfl; have x2 := bg4.cell 2 _ rfl; have x3 := bg4.cell 3 _ rfl; have x4 := bm4.cell 0 _ rfl; have x5 := bm4.cell 1 _ rfl; have x6 := bm4.cell 2 _ rfl; have br4 := br3.later hB4; have r0 := br4.cell 0 _ rfl; have r1 := br4.cell 1 _ rfl; have r2 := br4.cell 2 _ rfl; have r3 := br4.cell 3 _ rfl; have fr := br4.free))
    have kz : sMeth.K ((((w4.setCell ⟨w.heap.size + 1 + 1, 0, none⟩ (.string g.name)).setCell ⟨w.heap.size + 1 + 1, 1, none⟩ (.string g.comb)).setCell ⟨w.heap.size + 1 + 1, 2, none⟩ (.int .i64 g.req)).setCell ⟨w.heap.size + 1 + 1, 3, none⟩ (.slice A4 l'.length k4)) l' [.slice A4 l'.length k4] :=
      K_put (t := 80) (d := sMeth) rfl [.string g.name, .string g.comb, .int .i64 g.req, .slice A4 l'.length k4] 0 q1 br4
    have bz : Below w.heap.size w ((((w4.setCell ⟨w.heap.size + 1 + 1, 0, none⟩ (.string g.name)).setCell ⟨w.heap.size + 1 + 1, 1, none⟩ (.string g.comb)).setCell ⟨w.heap.size + 1 + 1, 2, none⟩ (.int .i64 g.req)).setCell ⟨w.heap.size + 1 + 1, 3, none⟩ (.slice A4 l'.length k4)) :=
      below_put (by omega) [.string g.name, .string g.comb, .int .i64 g.req, .slice A4 l'.length k4] 0 (below_to hB3 hB4)
    go_wp2
    refine bodyPost_ret (v := .tuple #[.agg #[.string g.name, .string g.comb, .int .i64 g.req, .slice A4 l'.length k4], .int .i64 0]) ?_ rfl ?_
    · simp [results, Tryz.results32, go_sem, r0, r1, r2, r3]
    · refine ⟨[.string g.name, .string g.comb, .int .i64 g.req, .slice A4 l'.length k4], ?_, ?_, ?_⟩
      · rfl
      · exact ⟨_, rfl, kz, q2, q3, q4⟩
      · exact bz

theorem add32 (g : Gen) (gcs : List Value) (m : Meth) (mcs : List Value) (w : World) (hg : rGen.K w g gcs) (hm : rMeth.K w m mcs) (hbig : ∀ x ∈ g.meths, bigM x) (hbm : bigM m) (hlen : g.meths.length ≤ 1000) :
    Calls Tryz.prog 32 #[rGen.val gcs, rMeth.val mcs] w (RE rGen (addM g m) w) := by
  by_cases heq : (m.specs.length : Int) = g.req
  · rcases fidx_cases (fun x => hasM x m.quals m.specs) g.meths with ⟨h, _⟩ | ⟨i, hi, h, _⟩
    · exact add32_new g gcs m mcs w hg hm heq h (fun x hx => by rcases List.mem_append.1 hx with hx | hx; exact hbig x hx; rw [List.mem_singleton.1 hx]; exact hbm) hlen
    · exact add32_found g gcs m mcs w hg hm heq i hi h (fun x hx => by rcases List.mem_or_eq_of_mem_set hx with hx | hx; exact hbig x hx; rw [hx]; exact hbm) (by omega)
  · exact add32_size g gcs m mcs w hg hm heq
end Go.Proofs.YtoncaejgflfhhaaGreatDoor
namespace Go.Proofs.YtoncaejgflfhhaaGreatDoor
open Go.RowKit
section
variable {P : Program} {α : Type} {e base : Nat} {d : Rp α} {w : World} {xs : List α}

theorem grownBy_setRow (w : World) (g : Nat) (cs : Array Value) : w.grownBy (w.setRow g cs) (some g) :=
  ⟨rfl, rfl, rfl, by simp [World.setRow], fun k _ hk => setRow_other w g k cs (fun h => hk (by rw [h]))⟩

/-- The first elements of a row of one's own. -/
theorem Own.take {g cap i n : Nat} (hn : n = xs.length) (ho : Own e d base w (.slice (some ⟨g, 0, none⟩) n cap) xs) (hi : i ≤ n) : Own e d base w (.slice (some ⟨g, 0, none⟩) i cap) (xs.take i) := by
  subst hn
  obtain ⟨cs, hl, hown⟩ := ho
  obtain ⟨ca, r1, hcs1, hla, hlr1⟩ := Rp.L_split (xs := xs.take i) (ys := xs.drop i) (by rw [List.take_append_drop]; exact hl)
  have hlca := Rp.L_len hla
  have hlx : (xs.take i).length = i := by rw [List.length_take]; omega
  rw [hlx] at hlca
  refine ⟨ca, hla, ?_⟩
  rw [hlx]
  rcases hown.2 with ⟨h', _⟩ | ⟨g', cap', cur, h', hb, hg, hnc, hcm, hcs, htake⟩
  · simp at h'
  · simp only [Value.slice.injEq, Option.some.injEq, Addr.mk.injEq, and_true, true_and] at h'
    obtain ⟨rfl, rfl⟩ := h'
    refine ⟨hlca, .inr ⟨g, cap, cur, rfl, hb, hg, by omega, hcm, hcs, ?_⟩⟩
    have : (cur.toList.take (xs.length * d.sz)).take (i * d.sz) = ca := by
      rw [htake, hcs1, List.take_append_of_le_length (by omega), List.take_of_length_le (by omega)]
    rwa [List.take_take, Nat.min_eq_left (Nat.mul_le_mul_right _ (by omega))] at this

/-- append(s[:i], s[j:]...): what stands between falls away. -/
theorem run_cut {t ty sz bs g cap i j c : Nat} {ad : Addr} (ht : P.underlying t = some (.slice e))
    (hinf : (P.info? e).map (fun i => (i.size, i.bytes, i.zero.map (fun z => z.cells.size))) = some (sz, bs, some sz)) (hsz : d.sz = sz)
    (ho : Own e d base w (.slice (some ⟨g, 0, none⟩) xs.length cap) xs) (hE : d.E e = false) (hij : i ≤ j) (hj : j ≤ xs.length) (had : j < xs.length → ad = ⟨g, j * sz, none⟩) :
    ∃ w1, (Builtin.append_ #[t, t] ty #[.slice (some ⟨g, 0, none⟩) i cap, .slice (some ad) (xs.length - j) c]).run P w = .ok (.slice (some ⟨g, 0, none⟩) (i + (xs.length - j)) cap) w1 ∧
      Own e d base w1 (.slice (some ⟨g, 0, none⟩) (i + (xs.length - j)) cap) (xs.take i ++ xs.drop j) ∧ w.grownBy w1 (some g) ∧ ∀ E : Nat → Bool, E e = false → Same E w w1 := by
  subst hsz
  obtain ⟨inf, hi, hh⟩ := Option.map_eq_some_iff.1 hinf
  simp only [Prod.mk.injEq] at hh
  obtain ⟨h1, h2, h3⟩ := hh
  obtain ⟨cs, hl, hown⟩ := ho
  have hcl := Rp.L_len hl
  obtain ⟨ca, r1, hcs1, hla, hlr1⟩ := Rp.L_split (xs := xs.take i) (ys := xs.drop i) (by rw [List.take_append_drop]; exact hl)
  obtain ⟨cb, cc, hcs2, hlb, hlc⟩ := Rp.L_split (xs := xs.take j) (ys := xs.drop j) (by rw [List.take_append_drop]; exact hl)
  have hlca := Rp.L_len hla
  have hlcb := Rp.L_len hlb
  have hlcc := Rp.L_len hlc
  rw [List.length_take, Nat.min_eq_left (by omega)] at hlca hlcb
  rw [List.length_drop] at hlcc
  rcases hown.2 with ⟨h', _⟩ | ⟨g', cap', cur, h', hb, hg, hnc, hcm, hcs, htake⟩
  · simp at h'
  · simp only [Value.slice.injEq, Option.some.injEq, Addr.mk.injEq, and_true, true_and] at h'
    obtain ⟨rfl, rfl⟩ := h'
    have hcells : ∀ q u, cc[q]? = some u → w.cell? (ad.add q) = some u := by
      intro q u hu
      have hq := (List.getElem?_eq_some_iff.1 hu).1
      have hjx : j < xs.length := by
        rcases Nat.lt_or_ge j xs.length with h | h
        · exact h
        · rw [hlcc, show xs.length - j = 0 from by omega, Nat.zero_mul] at hq
          omega
      rw [had hjx, Addr.add_lit, cell_of_row w g _ cur e (0, 0) hg]
      have : cs[j * d.sz + q]? = some u := by
        rw [hcs2, List.getElem?_append_right (by omega), hlcb, Nat.add_sub_cancel_left]
        exact hu
      rw [← htake, List.getElem?_take] at this
      split at this
      · simpa using this
      · cases this
    have hmul : i * d.sz + (xs.length - j) * d.sz ≤ xs.length * d.sz := by rw [← Nat.add_mul]; exact Nat.mul_le_mul_right _ (by omega)
    have hmul2 : xs.length * d.sz ≤ cap * d.sz := Nat.mul_le_mul_right _ hnc
    have hr := run_append_room (P := P) w t ty e inf ht hi g i cap cur hg ad (xs.length - j) c cc (by rw [hlcc, h1]) hcells (Rp.L_one hlc) (by omega) (by rw [h1, hlcc]; omega)
    rw [h1] at hr
    have hgr := grownBy_setRow w g (cur.toList.take (i * d.sz) ++ cc ++ cur.toList.drop (i * d.sz + cc.length)).toArray
    have hs : ∀ E : Nat → Bool, E e = false → Same E w (w.setRow g (cur.toList.take (i * d.sz) ++ cc ++ cur.toList.drop (i * d.sz + cc.length)).toArray) := fun E hE' => Same.grown hgr hg hE'
    refine ⟨_, hr, ⟨ca ++ cc, Rp.L_append (Rp.L_mov (hs _ hE) hla) (Rp.L_mov (hs _ hE) hlc), ?_⟩, hgr, hs⟩
    have hnl : (xs.take i ++ xs.drop j).length = i + (xs.length - j) := by rw [List.length_append, List.length_take, List.length_drop, Nat.min_eq_left (by omega)]
    rw [hnl]
    refine ⟨by rw [List.length_append, hlca, hlcc, Nat.add_mul], .inr ⟨g, cap, _, rfl, hb, setRow_heap w g cur _ e _ hg, by omega, hcm, ?_, ?_⟩⟩
    · simp only [List.size_toArray, List.length_append, List.length_take, List.length_drop, Array.length_toList]
      omega
    · have hca : cur.toList.take (i * d.sz) = ca := by
        have : (cur.toList.take (xs.length * d.sz)).take (i * d.sz) = ca := by
          rw [htake, hcs1, List.take_append_of_le_length (by omega), List.take_of_length_le (by omega)]
        rwa [List.take_take, Nat.min_eq_left (Nat.mul_le_mul_right _ (by omega))] at this
      rw [hca]
      rw [List.take_append_of_le_length (by rw [List.length_append, hlca, hlcc, Nat.add_mul]; omega), List.take_of_length_le (by rw [List.length_append, hlca, hlcc, Nat.add_mul]; omega)]

/-- clear of what lies behind a row's elements. -/
theorem run_clear_tail {t ty sz g cap m c : Nat} {z : Value} {n : Nat} (hn : n = xs.length) (ht : P.underlying t = some (.slice e)) (hv : ∀ w, (zeroValue e).run P w = .ok z w) (hz : z.cells.size = sz) (hz1 : ∀ u ∈ z.cells.toList, u.oneCell' = true) (hsz : d.sz = sz) (h0 : 0 < sz)
    (ho : Own e d base w (.slice (some ⟨g, 0, none⟩) n cap) xs) (hE : d.E e = false) (hkm : n + m ≤ cap) {A : Option Addr} (hA : 0 < m → A = some ⟨g, n * sz, none⟩) :
    ∃ w1, (Builtin.clear_ #[t] ty #[.slice A m c]).run P w = .ok (.tuple #[]) w1 ∧
      Own e d base w1 (.slice (some ⟨g, 0, none⟩) n cap) xs ∧ w.grownBy w1 (some g) ∧ ∀ E : Nat → Bool, E e = false → Same E w w1 := by
  subst hsz
  subst hn
  rcases Nat.eq_zero_or_pos m with hm | hm
  · subst hm
    refine ⟨w, ?_, ho, World.grownBy.refl w _, fun E _ => Same.refl E w⟩
    cases A <;> simp [Builtin.clear_, run_underlying ht]
  · rw [hA hm]
    obtain ⟨cs, hl, hown⟩ := ho
    rcases hown.2 with ⟨h', _⟩ | ⟨g', cap', cur, h', hb, hg, hnc, hcm, hcs, htake⟩
    · simp at h'
    · simp only [Value.slice.injEq, Option.some.injEq, Addr.mk.injEq, and_true, true_and] at h'
      obtain ⟨rfl, rfl⟩ := h'
      have hzs : (Builtin.zeroCells z.cells m).toList.length = m * d.sz := by rw [Array.length_toList, size_zeroCells, hz]
      have hmul : xs.length * d.sz + m * d.sz ≤ cap * d.sz := by rw [← Nat.add_mul]; exact Nat.mul_le_mul_right _ hkm
      have hz2 : ∀ u ∈ (Builtin.zeroCells z.cells m).toList, u.oneCell' = true := by
        intro u hu
        unfold Builtin.zeroCells at hu
        rw [Array.mem_toList_iff, Array.mem_map] at hu
        obtain ⟨i, _, rfl⟩ := hu
        have hlt : i % z.cells.size < z.cells.size := Nat.mod_lt _ (by omega)
        rw [getElem!_pos z.cells (i % z.cells.size) hlt]
        exact hz1 _ (by simp)
      have hst := run_storeCells_at P g (xs.length * d.sz) e (Builtin.zeroCells z.cells m).toList 0 cur w hg (by rw [hzs, hcs]; omega) hz2
      simp only [Nat.add_zero] at hst
      obtain ⟨k, rfl⟩ : ∃ k, m = k + 1 := ⟨m - 1, by omega⟩
      have hgr := grownBy_setRow w g (cur.toList.take (xs.length * d.sz) ++ (Builtin.zeroCells z.cells (k + 1)).toList ++ cur.toList.drop (xs.length * d.sz + (Builtin.zeroCells z.cells (k + 1)).toList.length)).toArray
      refine ⟨_, ?_, ⟨cs, ?_, hown.1, .inr ⟨g, cap, _, rfl, hb, setRow_heap w g cur _ e _ hg, hnc, hcm, ?_, ?_⟩⟩, hgr, fun E hE' => Same.grown hgr hg hE'⟩
      · simp [Builtin.clear_, run_underlying ht, hv, hst]
      · exact Rp.L_mov (Same.grown hgr hg hE) hl
      · simp only [List.size_toArray, List.length_append, List.length_take, List.length_drop, Array.length_toList]
        rw [Array.length_toList] at hzs
        omega
      · have hlt : (cur.toList.take (xs.length * d.sz)).length = xs.length * d.sz := by
          have hcu : cur.toList.length = cur.size := Array.length_toList
          rw [List.length_take]
          omega
        rw [List.append_assoc, List.toList_toArray, List.take_append_of_le_length (by omega), List.take_of_length_le (by omega)]
        exact htake

theorem wp_clear {ops : Array Oper} {rest : List Oper} {o : Oper} {a : Act} {Q : Exit → Act → World → Prop} {t sz g cap m c : Nat} {z : Value} {n : Nat} (hgd : o.guard = none) (x : Operand)
    (hop : o.op = .call { callee := .builtin .clear, args := #[x], argTypes := #[t] })
    (hn : n = xs.length) (ht : P.underlying t = some (.slice e)) (hv : ∀ w, (zeroValue e).run P w = .ok z w) (hz : z.cells.size = sz) (hz1 : ∀ u ∈ z.cells.toList, u.oneCell' = true) (hsz : d.sz = sz) (h0 : 0 < sz)
    (ho : Own e d base w (.slice (some ⟨g, 0, none⟩) n cap) xs) (hE : d.E e = false) (hkm : n + m ≤ cap) {A : Option Addr} (hA : 0 < m → A = some ⟨g, n * sz, none⟩) (hx : a.eval x = .slice A m c)
    (h : ∀ w1, Own e d base w1 (.slice (some ⟨g, 0, none⟩) n cap) xs → w.grownBy w1 (some g) → (∀ E : Nat → Bool, E e = false → Same E w w1) → wpList P ops Q rest (a.put o.dst (.tuple #[])) w1) : wpList P ops Q (o :: rest) a w := by
  refine wpList_plain hgd fun K hK => ?_
  obtain ⟨w1, hr, h1, h2, h3⟩ := run_clear_tail (P := P) (ty := o.type) (c := c) hn ht hv hz hz1 hsz h0 ho hE hkm hA
  unfold Oper.wp execOp
  simp only [hop, resolve, invoke, builtin, Sem.run_bind, Sem.run_pure, Result.andThen_ok, List.map_toArray, List.map_cons, List.map_nil, hx, hr]
  exact hK _ _ (h w1 h1 h2 h3)

theorem step_cut {ops : Array Oper} {o : Oper} {a : Act} {K : Act → World → Prop} {Q : Exit → Act → World → Prop} {F : Prop} {t sz bs g cap i j c : Nat} {n : Nat} {ad : Addr} (hgd : o.guard = none) (s x : Operand)
    (hop : o.op = .call { callee := .builtin .append, args := #[s, x], argTypes := #[t, t] })
    (hn : n = xs.length) (ht : P.underlying t = some (.slice e))
    (hinf : (P.info? e).map (fun i => (i.size, i.bytes, i.zero.map (fun z => z.cells.size))) = some (sz, bs, some sz)) (hsz : d.sz = sz)
    (ho : Own e d base w (.slice (some ⟨g, 0, none⟩) n cap) xs) (hE : d.E e = false) (hij : i ≤ j) (hj : j ≤ n)
    (hs : a.eval s = .slice (some ⟨g, 0, none⟩) i cap) (hx : a.eval x = .slice (some ad) (n - j) c) (had : j < n → ad = ⟨g, j * sz, none⟩)
    (h : ∀ w1, Own e d base w1 (.slice (some ⟨g, 0, none⟩) (i + (n - j)) cap) (xs.take i ++ xs.drop j) → w.grownBy w1 (some g) → (∀ E : Nat → Bool, E e = false → Same E w w1) → K (a.put o.dst (.slice (some ⟨g, 0, none⟩) (i + (n - j)) cap)) w1) :
    if Region.wanted o (yielded ops a.tmps) = true then Oper.wp P o a w K Q else F := by
  subst hn
  subst hsz
  have hw : Region.wanted o (yielded ops a.tmps) = true := by simp [Region.wanted, hgd]
  rw [if_pos hw]
  obtain ⟨w1, hr, h1, h2, h3⟩ := run_cut (P := P) (ty := o.type) (c := c) (ad := ad) ht hinf rfl ho hE hij hj had
  unfold Oper.wp execOp
  simp only [hop, resolve, invoke, builtin, Sem.run_bind, Sem.run_pure, Result.andThen_ok, List.map_toArray, List.map_cons, List.map_nil, hs, hx, hr]
  exact h w1 h1 h2 h3
end
end Go.Proofs.YtoncaejgflfhhaaGreatDoor
