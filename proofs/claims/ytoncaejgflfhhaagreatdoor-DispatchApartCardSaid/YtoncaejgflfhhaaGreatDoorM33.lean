/- class.New. -/
import Derived.Test.YtoncaejgflfhhaaGreatDoorM01
import Derived.Test.YtoncaejgflfhhaaGreatDoorM10
import Derived.Test.YtoncaejgflfhhaaGreatDoorM32
set_option linter.unusedVariables false
set_option linter.unusedSimpArgs false
namespace Go.Proofs.YtoncaejgflfhhaaGreatDoor
open Go.RowKit

/-- The built-in classes, by names and superclasses. -/
def builtL : List (ByteArray × List Int) := [(⟨#[84]⟩, []), (⟨#[83, 84, 65, 78, 68, 65, 82, 68, 45, 79, 66, 74, 69, 67, 84]⟩, [0]), (⟨#[83, 89, 77, 66, 79, 76]⟩, [0]), (⟨#[83, 69, 81, 85, 69, 78, 67, 69]⟩, [0]), (⟨#[76, 73, 83, 84]⟩, [3]), (⟨#[78, 85, 76, 76]⟩, [2, 4]), (⟨#[67, 79, 78, 83]⟩, [4]), (⟨#[65, 82, 82, 65, 89]⟩, [0]), (⟨#[86, 69, 67, 84, 79, 82]⟩, [7, 3]), (⟨#[83, 84, 82, 73, 78, 71]⟩, [8]), (⟨#[78, 85, 77, 66, 69, 82]⟩, [0]), (⟨#[67, 79, 77, 80, 76, 69, 88]⟩, [10]), (⟨#[82, 69, 65, 76]⟩, [10]), (⟨#[70, 76, 79, 65, 84]⟩, [12]), (⟨#[82, 65, 84, 73, 79, 78, 65, 76]⟩, [12]), (⟨#[82, 65, 84, 73, 79]⟩, [14]), (⟨#[73, 78, 84, 69, 71, 69, 82]⟩, [14]), (⟨#[67, 72, 65, 82, 65, 67, 84, 69, 82]⟩, [0]), (⟨#[70, 85, 78, 67, 84, 73, 79, 78]⟩, [0]), (⟨#[72, 65, 83, 72, 45, 84, 65, 66, 76, 69]⟩, [0]), (⟨#[80, 65, 67, 75, 65, 71, 69]⟩, [0])]
def clsOf (p : ByteArray × List Int) : Cls := ⟨p.1, p.2, [], 1, true⟩
/-- A new state. -/
def newCS : CS := ⟨builtL.map clsOf, builtL.map fun _ => [[]]⟩
/-- Their superclasses' rows, one behind the other. -/
def worldB : List (ByteArray × List Int) → World → World
  | [], w => w
  | (_, []) :: r, w => worldB r w
  | (_, x :: l) :: r, w => worldB r (w.alloc (.cells ((x :: l).map (Value.int .i64)).toArray 3))
def cellsB : List (ByteArray × List Int) → Nat → List Value
  | [], _ => []
  | (s, []) :: r, n => [.string s, .slice none 0 0, .slice none 0 0, .int .i64 0, .bool false] ++ cellsB r n
  | (s, x :: l) :: r, n => [.string s, .slice (some ⟨n, 0, none⟩) (l.length + 1) (l.length + 1), .slice none 0 0, .int .i64 0, .bool false] ++ cellsB r (n + 1)
theorem worldB_below : ∀ (l : List (ByteArray × List Int)) (w : World), Below w.heap.size w (worldB l w)
  | [], w => Below.refl _ _
  | (_, []) :: r, w => worldB_below r w
  | (_, _ :: _) :: r, w => below_to (below_one w _) (worldB_below r _)
theorem worldB_size : ∀ (l : List (ByteArray × List Int)) (w : World), (worldB l w).heap.size = w.heap.size + (l.filter fun p => !p.2.isEmpty).length
  | [], w => rfl
  | (_, []) :: r, w => by simp [worldB, worldB_size r]
  | (_, _ :: _) :: r, w => by simp [worldB, worldB_size r]; omega
theorem L_ints (w : World) : ∀ l : List Int, (∀ x ∈ l, Rp.okInt x) → Rp.int.L w l (l.map (Value.int .i64))
  | [], _ => rfl
  | x :: r, h => ⟨[.int .i64 x], _, rfl, ⟨rfl, h x (.head _)⟩, L_ints w r fun y hy => h y (.tail _ hy)⟩
/-- A class as New writes it down first. -/
def rawOf (p : ByteArray × List Int) : Cls := ⟨p.1, p.2, [], 0, false⟩
theorem L_built : ∀ (l : List (ByteArray × List Int)) (w : World), (∀ p ∈ l, p.1.size ≤ maxLen ∧ p.2.length ≤ 100 ∧ ∀ x ∈ p.2, Rp.okInt x) → rCls.L (worldB l w) (l.map rawOf) (cellsB l w.heap.size)
  | [], _, _ => rfl
  | (s, []) :: r, w, h => by
    obtain ⟨h1, _⟩ := h _ (.head _)
    exact ⟨_, _, rfl, ⟨_, _, rfl, nil_K _ _ _, nil_K _ _ _, okZero, h1⟩, L_built r w fun p hp => h p (.tail _ hp)⟩
  | (s, x :: l) :: r, w, h => by
    obtain ⟨h1, h2, h3⟩ := h _ (.head _)
    refine ⟨_, _, rfl, ⟨_, _, rfl, ?_, nil_K _ _ _, okZero, h1⟩, ?_⟩
    · have hb := worldB_below r (w.alloc (.cells ((x :: l).map (Value.int .i64)).toArray 3))
      have hx : Box (w.alloc (.cells ((x :: l).map (Value.int .i64)).toArray 3)) w.heap.size 3 ((x :: l).map (Value.int .i64)) := Box.new w _ 3
      have hx := hx.later hb
      have hl : (x :: l).length = l.length + 1 := rfl
      refine ⟨some ⟨w.heap.size, 0, none⟩, l.length + 1, rfl, Nat.le_refl _, by have : l.length + 1 ≤ 100 := h2; unfold maxLen; omega, (fun h => nomatch h), .inr ⟨w.heap.size, 0, _, _, rfl, hx, fun t ht => by cases ht; rfl, L_ints _ _ h3, fun j u hu => by rw [Nat.zero_add]; exact hx.cell j u hu⟩⟩
    · have := L_built r (w.alloc (.cells ((x :: l).map (Value.int .i64)).toArray 3)) fun p hp => h p (.tail _ hp)
      rwa [show (w.alloc (.cells ((x :: l).map (Value.int .i64)).toArray 3)).heap.size = w.heap.size + 1 from by simp] at this
theorem builtL_ok : ∀ p ∈ builtL, p.1.size ≤ maxLen ∧ p.2.length ≤ 100 ∧ ∀ x ∈ p.2, Rp.okInt x := by
  unfold maxLen Rp.okInt
  decide +kernel

theorem inf108 : (Tryz.prog.info? 108).map (fun i => (i.size, i.bytes, i.zero.map (fun z => z.cells.size))) = some (5, 80, some 5) := by kernel_rfl
theorem inf109 : (Tryz.prog.info? 109).map (fun i => (i.size, i.bytes, i.zero.map (fun z => z.cells.size))) = some (1, 24, some 1) := by kernel_rfl
theorem siz41 : (Tryz.prog.info? 41).map (·.size) = some 1 := by kernel_rfl
theorem siz42 : (Tryz.prog.info? 42).map (·.size) = some 1 := by kernel_rfl
theorem siz44 : (Tryz.prog.info? 44).map (·.size) = some 2 := by kernel_rfl
def worldV (w : World) : World := (worldB builtL (w.alloc (.cells #[.slice none 0 0, .slice none 0 0] 44))).alloc (.cells (cellsB builtL (w.heap.size + 1)).toArray 108)
theorem worldV_facts (w : World) : Below w.heap.size w (worldV w) ∧ Box (worldV w) w.heap.size 44 [.slice none 0 0, .slice none 0 0] ∧ Box (worldV w) (w.heap.size + 1 + 1 + 1 + 1 + 1 + 1 + 1 + 1 + 1 + 1 + 1 + 1 + 1 + 1 + 1 + 1 + 1 + 1 + 1 + 1 + 1) 108 (cellsB builtL (w.heap.size + 1)) ∧ rCls.L (worldV w) (builtL.map rawOf) (cellsB builtL (w.heap.size + 1)) ∧ (worldV w).heap.size = w.heap.size + 1 + 1 + 1 + 1 + 1 + 1 + 1 + 1 + 1 + 1 + 1 + 1 + 1 + 1 + 1 + 1 + 1 + 1 + 1 + 1 + 1 + 1 := by
  have hb := worldB_below builtL (w.alloc (.cells #[.slice none 0 0, .slice none 0 0] 44))
  have hz := worldB_size builtL (w.alloc (.cells #[.slice none 0 0, .slice none 0 0] 44))
  have hz2 : (worldB builtL (w.alloc (.cells #[.slice none 0 0, .slice none 0 0] 44))).heap.size = w.heap.size + 1 + 1 + 1 + 1 + 1 + 1 + 1 + 1 + 1 + 1 + 1 + 1 + 1 + 1 + 1 + 1 + 1 + 1 + 1 + 1 + 1 := by
    rw [hz, show (builtL.filter fun p => !p.2.isEmpty).length = 20 from by decide +kernel]
    simp
  have hv : Below (worldB builtL (w.alloc (.cells #[.slice none 0 0, .slice none 0 0] 44))).heap.size (worldB builtL (w.alloc (.cells #[.slice none 0 0, .slice none 0 0] 44))) (worldV w) := below_one _ _
  have hL := L_built builtL (w.alloc (.cells #[.slice none 0 0, .slice none 0 0] 44)) builtL_ok
  rw [show (w.alloc (.cells #[.slice none 0 0, .slice none 0 0] 44)).heap.size = w.heap.size + 1 from by simp] at hL
  refine ⟨below_to (below_to (below_one w _) hb) hv, ((Box.mk_ w rfl rfl).later hb).later hv, Box.mk_ _ hz2.symm rfl, Rp.L_mov (Same.of_below hv) hL, ?_⟩
  show ((worldB builtL _).alloc _).heap.size = _
  rw [show ∀ (W : World) (o : Obj), (W.alloc o).heap.size = W.heap.size + 1 from fun W o => by simp, hz2]
theorem empty_version (w : World) : sStr2.K (w.alloc (.cells #[.slice none 0 0] 38)) [[]] [.slice (some ⟨w.heap.size, 0, none⟩) 1 1] := by
  have hx : Box (w.alloc (.cells #[.slice none 0 0] 38)) w.heap.size 38 [.slice none 0 0] := Box.mk_ _ rfl rfl
  exact ⟨_, 1, rfl, Nat.le_refl _, by unfold maxLen; decide, (fun h => nomatch h), .inr ⟨_, 0, _, _, rfl, hx, fun t ht => by cases ht; rfl, ⟨[.slice none 0 0], [], rfl, nil_K _ _ _, rfl⟩, fun j u hu => by rw [Nat.zero_add]; exact hx.cell j u hu⟩⟩
/-- At the head of New's loop. -/
def New1 (w V : World) (vi : Value) (wr : World) : Prop :=
  ∃ (j : Nat) (vc vh : Value), j ≤ 21 ∧ vi = .int .i64 j ∧ Box wr V.heap.size 44 [vc, vh] ∧ Own 108 rCls V.heap.size wr vc ((builtL.take j).map clsOf) ∧ Own 109 sStr2 V.heap.size wr vh ((builtL.take j).map fun _ => [[]]) ∧ Below V.heap.size V wr

set_option maxHeartbeats 4000000 in
set_option maxRecDepth 100000 in
theorem new12 (w : World) : Calls Tryz.prog 12 #[] w (R1 rCS newCS w) := by
  obtain ⟨hBw, bR, bL, hL, hz⟩ := worldV_facts w
  have hst : New1 w (worldV w) (.int .i64 0) ((worldV w).alloc (.cells #[.slice none 0 0, .slice none 0 0] 44)) := ⟨0, _, _, Nat.zero_le _, rfl, Box.mk_ _ rfl rfl, Own.nil _ _ _ _, Own.nil _ _ _ _, below_one _ _⟩
  have hWV : (worldV w).alloc (.cells #[.slice none 0 0, .slice none 0 0] 44) = ((worldB builtL (w.alloc (.cells #[.slice none 0 0, .slice none 0 0] 44))).alloc (.cells (cellsB builtL (w.heap.size + 1)).toArray 108)).alloc (.cells #[.slice none 0 0, .slice none 0 0] 44) := rfl
  rw [hWV] at hst
  clear hWV
  obtain ⟨V, hV⟩ : ∃ V, V = worldV w := ⟨_, rfl⟩
  rw [← hV] at hBw bR bL hL hz hst
  have HST := Lib.hid hst
  clear hV hst
  have HVB : Hid (V.heap.size ≤ w.heap.size + 1 + 1 + 1 + 1 + 1 + 1 + 1 + 1 + 1 + 1 + 1 + 1 + 1 + 1 + 1 + 1 + 1 + 1 + 1 + 1 + 1 + 1) := Lib.hid (by rw [hz]; exact Nat.le_refl _)
  have HF := Lib.hid (And.intro hBw (And.intro bR (And.intro bL (And.intro hL hz))))
  clear hBw bR bL hL hz
  go_enter Tryz.func12, Tryz.ntmps12
  go_wp2
  go_loopw [49] (New1 w V) (fun vi _ => 21 - (intOf vi).toNat)
  case atStart =>
    exact HST.out
  case round =>
    obtain ⟨j, vc, vh, hj, rfl, x2, hC, hH, hB⟩ := hrel
    by_cases hlt : j < 21
    · have hjl : j < builtL.length := hlt
      obtain ⟨p, hp, hpm⟩ := some_at hjl
      obtain ⟨cs, hk, hcc⟩ := Rp.L_get HF.out.2.2.2.1 j (rawOf p) (by rw [List.getElem?_map, hp]; rfl)
      obtain ⟨u, l, rfl, hu, hl2, _, hns⟩ := hk
      obtain ⟨A1, k1, rfl⟩ := slice_form hu
      obtain ⟨A2, k2, hl3⟩ := slice_form hl2
      have hl3 : l = .slice A2 0 k2 := hl3
      have bL := HF.out.2.2.1.later hB
      have c0 : wr.cell? ⟨w.heap.size + 1 + 1 + 1 + 1 + 1 + 1 + 1 + 1 + 1 + 1 + 1 + 1 + 1 + 1 + 1 + 1 + 1 + 1 + 1 + 1 + 1, j * 5, none⟩ = some (.string p.1) := bL.cell _ _ (hcc 0 _ rfl)
      have c1 : wr.cell? ⟨w.heap.size + 1 + 1 + 1 + 1 + 1 + 1 + 1 + 1 + 1 + 1 + 1 + 1 + 1 + 1 + 1 + 1 + 1 + 1 + 1 + 1 + 1, j * 5 + 1, none⟩ = some (.slice A1 p.2.length k1) := bL.cell _ _ (hcc 1 _ rfl)
      have c2 : wr.cell? ⟨w.heap.size + 1 + 1 + 1 + 1 + 1 + 1 + 1 + 1 + 1 + 1 + 1 + 1 + 1 + 1 + 1 + 1 + 1 + 1 + 1 + 1 + 1, j * 5 + 2, none⟩ = some l := bL.cell _ _ (hcc 2 _ rfl)
      have c3 : wr.cell? ⟨w.heap.size + 1 + 1 + 1 + 1 + 1 + 1 + 1 + 1 + 1 + 1 + 1 + 1 + 1 + 1 + 1 + 1 + 1 + 1 + 1 + 1 + 1, j * 5 + 3, none⟩ = some (.int .i64 0) := bL.cell _ _ (hcc 3 _ rfl)
      have c4 : wr.cell? ⟨w.heap.size + 1 + 1 + 1 + 1 + 1 + 1 + 1 + 1 + 1 + 1 + 1 + 1 + 1 + 1 + 1 + 1 + 1 + 1 + 1 + 1 + 1, j * 5 + 4, none⟩ = some (.bool false) := bL.cell _ _ (hcc 4 _ rfl)
      have hcl : w.heap.size + 1 + 1 + 1 + 1 + 1 + 1 + 1 + 1 + 1 + 1 + 1 + 1 + 1 + 1 + 1 + 1 + 1 + 1 + 1 + 1 + 1 < wr.heap.size := bL.lt
      have HK : Hid (rCls.K V (clsOf p) [.string p.1, .slice A1 p.2.length k1, l, .int .i64 1, .bool true]) := Lib.hid ⟨_, _, rfl, hu, hl2, ⟨by show (-9223372036854775808 : Int) ≤ 1; decide, by show (1 : Int) ≤ _; decide⟩, hns⟩
      subst hl3
      have HT1 : Hid ((builtL.take (j + 1)).map clsOf = (builtL.take j).map clsOf ++ [clsOf p]) := Lib.hid (by rw [take_snoc_at hp, List.map_append]; rfl)
      have HT2 : Hid ((builtL.take (j + 1)).map (fun _ => ([[]] : List (List ByteArray))) = (builtL.take j).map (fun _ => [[]]) ++ [[[]]]) := Lib.hid (by rw [take_snoc_at hp, List.map_append]; rfl)
      obtain ⟨zs, hzs⟩ : ∃ zs, zs = (builtL.take j).map clsOf := ⟨_, rfl⟩
      obtain ⟨ys, hys⟩ : ∃ ys, ys = (builtL.take j).map (fun _ => ([[]] : List (List ByteArray))) := ⟨_, rfl⟩
      have hzl : zs.length = j := by rw [hzs, List.length_map, List.length_take]; omega
      have hyl : ys.length = j := by rw [hys, List.length_map, List.length_take]; omega
      rw [← hzs] at hC HT1
      rw [← hys] at hH HT2
      have HBB := Lib.hid (And.intro (show (zs.length + 1) * 80 ≤ 140737488355328 by omega) (And.intro (show zs.length + 1 ≤ maxLen by unfold maxLen; omega) (And.intro (show (ys.length + 1) * 24 ≤ 140737488355328 by omega) (show ys.length + 1 ≤ maxLen by unfold maxLen; omega))))
      have HLT := Lib.hid hlt
      have HZ := HF.out.2.2.2.2
      rw [HZ] at x2
      have hVl := HZ
      clear hcc hu hl2 hns hp hpm hzs hys hzl hyl bL hjl hVl
      obtain ⟨W1, hW1⟩ : ∃ W, W = wr.alloc (.cells #[.string p.1, .slice A1 p.2.length k1, .slice A2 0 k2, .int .i64 0, .bool false] 108) := ⟨_, rfl⟩
      have hX1 : Below wr.heap.size wr W1 := hW1 ▸ below_one _ _
      have bc : Box W1 wr.heap.size 108 [.string p.1, .slice A1 p.2.length k1, .slice A2 0 k2, .int .i64 0, .bool false] := hW1 ▸ Box.mk_ _ rfl rfl
      have HW1 := Lib.hid hW1
      have hBl := hB.size
      rw [HZ] at hBl
      have hBl2 := x2.lt
      clear hW1 HZ
      go_upto_region 6 with fail
      rw [← HW1.out]
      clear c0 c1 c2 c3 c4 hcl
      go_wp2_with (first
        | (refine wp_box_set rfl 3 _ _ rfl (j := 3) (u := .int .i64 1) rfl rfl bc rfl rfl rfl siz3 ?_; intro w2 bc2 hc2)
        | (refine wp_box_set rfl 4 _ _ rfl (j := 4) (u := .bool true) rfl rfl bc2 rfl rfl rfl siz4 ?_; intro w3 bc3 hc3; have hc3' := hc2.trans hc3; have hX3 := hc3'.below hX1 (Nat.le_refl _); have y2 := x2.later hX3; have hC3 := hC.below hX3; have hH3 := hH.below hX3; have hT3 := below_to hB hX3; have d0 := y2.cell 0 _ rfl; have dl := y2.lt)
        | (refine wp_box_load rfl 108 _ rfl rfl bc3 Tryz.underlying108 rfl siz108 ?_)
        | (at_builtin; refine wp_app1 (v := vc) (y := clsOf p) (d := rCls) (e := 108) (base := V.heap.size) (cs := [.string p.1, .slice A1 p.2.length k1, .slice A2 0 k2, .int .i64 1, .bool true]) (t' := 108) rfl _ _ 41 rfl Tryz.underlying41 inf108 rfl (by decide) rfl hC3 rfl rfl (K_below HK.out hT3) HBB.out.1 HBB.out.2.1 hT3.size ?_; intro gA cA w4 hA; have y4 := hA.box hC3 y2 (by decide); have hH4 := hA.beside hC3 hH3 (by decide) rfl; have hT4 := hA.step hC3 hT3 (Nat.le_refl _); have hC4 := hA.own)
        | (refine wp_box_set rfl 41 _ _ rfl (j := 0) (u := .slice (some ⟨gA, 0, none⟩) (zs.length + 1) cA) rfl rfl y4 rfl rfl rfl siz41 ?_; intro w5 y5 hc5; have hC5 := hc5.own hC4 (by decide) rfl; have hH5 := hc5.own hH4 (by decide) rfl; have hT5 := hc5.below hT4 HVB.out; clear d0 dl; have d1 := y5.cell 1 _ rfl; have dl := y5.lt)
        | (at_builtin; refine wp_app1 (w := w5.alloc (.cells #[.slice none 0 0] 38)) (v := vh) (y := [[]]) (d := sStr2) (e := 109) (base := V.heap.size) (cs := [.slice (some ⟨w5.heap.size, 0, none⟩) 1 1]) (t' := 109) rfl _ _ 42 rfl Tryz.underlying42 inf109 rfl (by decide) rfl (hH5.alloc _) rfl (c := 1) (by simp [go_sem]) (empty_version w5) HBB.out.2.2.1 HBB.out.2.2.2 (below_more hT5 _).size ?_; intro gB cB w6 hA6; have y6 := hA6.box (hH5.alloc _) (y5.alloc _) (by decide); have hC6 := hA6.beside (hH5.alloc _) (hC5.alloc _) (by decide) rfl; have hT6 := hA6.step (hH5.alloc _) (below_more hT5 _) (Nat.le_refl _); have hH6 := hA6.own)
        | (refine wp_box_set rfl 42 _ _ rfl (j := 1) (u := .slice (some ⟨gB, 0, none⟩) (ys.length + 1) cB) rfl rfl y6 rfl rfl rfl siz42 ?_; intro w7 y7 hc7)
        | go_in)
      have t1 := hc7.own hC6 (by decide) rfl
      have t2 := hc7.own hH6 (by decide) rfl
      have tB := hc7.below hT6 HVB.out
      rw [← HT1.out] at t1
      rw [← HT2.out] at t2
      have y7' : Box w7 V.heap.size 44 _ := HF.out.2.2.2.2 ▸ y7
      have HG := Lib.hid (And.intro y7' (And.intro t1 (And.intro t2 tB)))
      clear t1 t2 tB y7'
      go_roundw
      case rel => exact ⟨j + 1, _, _, by have := HLT.out; omega, by go_num, HG.out.1, HG.out.2.1, HG.out.2.2.1, HG.out.2.2.2⟩
      case measure => have := HLT.out; simp [intOf]; omega
    · have hj' : j = 21 := by omega
      subst hj'
      have hC : Own 108 rCls V.heap.size wr vc (builtL.map clsOf) := hC
      have hH : Own 109 sStr2 V.heap.size wr vh (builtL.map fun _ => [[]]) := hH
      have bR := HF.out.2.1.later hB
      have hBw := below_to HF.out.1 hB
      have hus : ∀ u ∈ [vc, vh], u.oneCell' = true := by
        intro u hu
        simp at hu
        rcases hu with rfl | rfl
        · exact slice_one hC.read
        · exact slice_one hH.read
      have HU := Lib.hid hus
      have hVB := x2.lt
      have HK := Lib.hid (And.intro hC (And.intro hH hBw))
      have HZ := HF.out.2.2.2.2
      rw [HZ] at x2
      clear hus hC hH hBw hB HZ hVB
      go_wp2_with (first
        | (refine wp_box_load rfl 44 _ rfl rfl x2 Tryz.underlying44 rfl siz44 ?_)
        | (refine wp_box_store rfl 44 _ _ rfl (us := [vc, vh]) rfl rfl bR siz44 rfl HU.out ?_; intro w2 y0 hc2; obtain ⟨q0, q1, qf, ql⟩ := y0.two)
        | go_in)
      exact bodyPost_ret (v := .agg #[vc, vh]) (by simp [results, Tryz.results12, go_sem, q0, q1]) rfl ⟨[vc, vh], rfl, ⟨vc, vh, rfl, hc2.K rfl HK.out.1.read, hc2.K rfl HK.out.2.1.read⟩, hc2.below HK.out.2.2 (Nat.le_refl _)⟩
end Go.Proofs.YtoncaejgflfhhaaGreatDoor
