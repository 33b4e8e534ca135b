/- The laws' specifiers, arguments and methods. | The laws' Args. -/
import Derived.Test.YtoncaejgflfhhaaGreatDoorM42
import Derived.Test.YtoncaejgflfhhaaGreatDoorM05
import Derived.Test.YtoncaejgflfhhaaGreatDoorM30
import Derived.IntWalk
set_option linter.unusedVariables false
set_option linter.unusedSimpArgs false
namespace Go.Proofs.YtoncaejgflfhhaaGreatDoor
open Go.RowKit

set_option maxHeartbeats 4000000 in
theorem specs46 (e : Option Nat) (l : List Spec) (v : Value) (w : World) (h : (Rp.slice e rSpec).K w l [v]) (hl : l.length ≤ 1000000) :
    Calls Tryz.prog 46 #[v] w fun e w' => ∃ v', e = .returned v' ∧ Own 36 rSpec w.heap.size w' v' l ∧ Below w.heap.size w w' := by
  obtain ⟨A, c, hv, _, _, _, hr⟩ := h
  cases hv
  have HR := Lib.hid hr
  have HL := Lib.hid hl
  clear hr hl
  go_enter Tryz.func46, Tryz.ntmps46
  go_wp2
  go_loopw [3, 8] (fun vo vi wr => ∃ j : Nat, j ≤ l.length ∧ vi = .int .i64 j ∧ Own 36 rSpec w.heap.size wr vo (l.take j) ∧ Below w.heap.size w wr) (fun _ vi _ => l.length - (intOf vi).toNat)
  case atStart => exact ⟨0, Nat.zero_le _, rfl, Own.nil _ _ _ _, Below.refl _ _⟩
  case round =>
    obtain ⟨j, hj, rfl, hO, hB⟩ := hrel
    have hl := HL.out
    by_cases hlt : j < l.length
    · obtain ⟨x, hx, _⟩ := some_at hlt
      obtain ⟨b, off, cs, hA, hbl, hk, hcell⟩ := Rp.Row_at (Rp.Row_mov (Same.of_below hB) HR.out) hx
      subst hA
      have HK := Lib.hid hk
      obtain ⟨rfl, h1, h2⟩ := hk
      have c0 : wr.cell? ⟨b, off + j * 3, none⟩ = some (.bool x.eql) := hcell 0 _ rfl
      have c1 : wr.cell? ⟨b, off + j * 3 + 1, none⟩ = some (.int .i64 x.cls) := hcell 1 _ rfl
      have c2 : wr.cell? ⟨b, off + j * 3 + 2, none⟩ = some (.string x.obj) := hcell 2 _ rfl
      have HT := Lib.hid (take_snoc_at hx)
      have H89 := Lib.hid (fun w' => spec89 x [.bool x.eql, .int .i64 x.cls, .string x.obj] w' ⟨rfl, h1, h2⟩)
      simp only [rSpec_val] at H89
      obtain ⟨zs, hzs⟩ : ∃ zs, zs = l.take j := ⟨_, rfl⟩
      have hzl : zs.length ≤ 1000000 := by rw [hzs, List.length_take]; omega
      rw [← hzs] at hO HT
      have HBB := Lib.hid (And.intro (show (zs.length + 1) * 32 ≤ 140737488355328 by omega) (show zs.length + 1 ≤ maxLen by unfold maxLen; omega))
      have HLT := Lib.hid hlt
      clear hcell h1 h2 hx hzs hzl
      go_wp2_with (first
        | (go_at_call 89; refine (H89.out _).mono ?_; rintro e w4 ⟨cs4, rfl, ⟨rfl, k1, k2⟩, hB4⟩; have hX := below_to (below_one wr _) hB4; have hO4 := hO.below hX; have hT4 := below_to hB hX)
        | (at_builtin; refine wp_app1 (y := x) (d := rSpec) (e := 36) (base := w.heap.size) (cs := [.bool x.eql, .int .i64 x.cls, .string x.obj]) (t' := 36) rfl _ _ 37 rfl Tryz.underlying37 inf36 rfl (by decide) rfl hO4 rfl rfl ⟨rfl, k1, k2⟩ HBB.out.1 HBB.out.2 hT4.size ?_; intro gA cA w5 hA)
        | go_in)
      go_roundw
      case rel => exact ⟨j + 1, by have := HLT.out; omega, by go_num, by rw [HT.out]; exact hA.own, hA.step hO4 hT4 (Nat.le_refl _)⟩
      case measure => have := HLT.out; simp [intOf]; omega
    · have hj' : j = l.length := by omega
      subst hj'
      rw [List.take_length] at hO
      go_wp2
      go_ret
      exact ⟨_, rfl, hO, hB⟩

/-- A method of the reference: its specializers lie in another type. -/
def rRMeth : Rp Meth where
  agg := true
  sz := 3
  E := fun t => sStr.E t || (Rp.slice (some 135) rSpec).E t
  K := fun w x cs => ∃ q s, cs = [q, s, .int .i64 x.fn] ∧ sStr.K w x.quals [q] ∧ (Rp.slice (some 135) rSpec).K w x.specs [s] ∧ Rp.okInt x.fn
  len := by rintro w x cs ⟨q, s, rfl, _⟩; rfl
  one := by
    rintro w x cs ⟨q, s, rfl, h1, h2, _⟩ u hu
    simp at hu
    rcases hu with rfl | rfl | rfl
    · exact slice_one h1
    · exact slice_one h2
    · rfl
  mov := by
    rintro w w' x cs hs ⟨q, s, rfl, h1, h2, h3⟩
    obtain ⟨a, b⟩ := Rp.mov_or hs
    exact ⟨q, s, rfl, sStr.mov a h1, (Rp.slice (some 135) rSpec).mov b h2, h3⟩
@[go_sem] theorem rRMeth_val (a b c : Value) : rRMeth.val [a, b, c] = .agg #[a, b, c] := rfl

set_option maxHeartbeats 4000000 in
set_option maxRecDepth 100000 in
theorem method15 (m : Meth) (cs : List Value) (w : World) (h : rRMeth.K w m cs) (hb1 : m.quals.length ≤ 1000000) (hb2 : m.specs.length ≤ 1000000) :
    Calls Tryz.prog 15 #[rRMeth.val cs] w (R1 rMeth m w) := by
  obtain ⟨q, s, rfl, h1, h2, h3⟩ := h
  rw [rRMeth_val]
  have H1 := Lib.hid (fun w' (hb : Below w.heap.size w w') => clone45 Rp.str rfl rfl (some 9) m.quals q w' (K_below h1 hb) (by omega))
  have H2 := Lib.hid (fun w' (hb : Below w.heap.size w w') => specs46 (some 135) m.specs s w' (K_below h2 hb) hb2)
  clear h1 h2 hb1 hb2
  go_enter Tryz.func15, Tryz.ntmps15
  go_wp2
  have hW : ∀ W, W = (w.alloc (.cells #[q, s, .int .i64 m.fn] 68)).alloc (.cells #[.slice none 0 0, .slice none 0 0, .int .i64 0] 40) → Below w.heap.size w W ∧ Box W w.heap.size 68 [q, s, .int .i64 m.fn] ∧ Box W (w.heap.size + 1) 40 [.slice none 0 0, .slice none 0 0, .int .i64 0] := by
    rintro W rfl
    exact ⟨below_more (below_one _ _) _, (Box.mk_ _ rfl rfl).alloc _, Box.mk_ _ (by simp) rfl⟩
  generalize (w.alloc (.cells #[q, s, .int .i64 m.fn] 68)).alloc (.cells #[.slice none 0 0, .slice none 0 0, .int .i64 0] 40) = W0 at *
  obtain ⟨hB0, b0, b1⟩ := hW W0 rfl
  clear hW
  have f1 := b0.cell 0 _ rfl
  have f2 := b0.cell 1 _ rfl
  have f3 := b0.cell 2 _ rfl
  have l0 := b0.lt
  go_region_held3 (fun w' => w'.cell? ⟨w.heap.size, 0, none⟩ = some q ∧ w'.cell? ⟨w.heap.size, 1, none⟩ = some s ∧ w'.cell? ⟨w.heap.size, 2, none⟩ = some (.int .i64 m.fn))
    (go_keep)
    (first | (go_at_call 45; refine (H1.out _ hB0.drew).mono ?_; rintro e w1 ⟨v1, rfl, hO1, hB1⟩; obtain ⟨A1, k1, rfl, _⟩ := hO1.row; have hT1 := below_to (below_drew W0) hB1; obtain ⟨hc1, hf1⟩ := bcell hT1) | (go_at_call 46; refine (H2.out _ (below_to hB0 hT1)).mono ?_; rintro e w2 ⟨v2, rfl, hO2, hB2⟩; obtain ⟨A2, k2, rfl, _⟩ := hO2.row; have hT2 := below_to hT1 hB2; obtain ⟨hc2, hf2⟩ := bcell hT2; have bb := b1.later hT2; have g0 := bb.cell 0 _ rfl; have g1 := bb.cell 1 _ rfl; have g2 := bb.cell 2 _ rfl; have e0 := bb.free 0; have e1 := bb.free 1; have e2 := bb.free 2; have l1 := bb.lt))
  have k1' := K_set (K_set (K_set (K_below hO1.read hB2) bb rfl 0 (.slice A1 m.quals.length k1)) (bb.set 0 _) rfl 1 (.slice A2 m.specs.length k2)) ((bb.set 0 _).set 1 _) rfl 2 (.int .i64 m.fn)
  have k2' := K_set (K_set (K_set hO2.read bb rfl 0 (.slice A1 m.quals.length k1)) (bb.set 0 _) rfl 1 (.slice A2 m.specs.length k2)) ((bb.set 0 _).set 1 _) rfl 2 (.int .i64 m.fn)
  go_wp2
  exact bodyPost_ret (v := .agg #[.slice A1 m.quals.length k1, .slice A2 m.specs.length k2, .int .i64 m.fn]) (by simp [results, Tryz.results15, go_sem, g0, g1, g2]) rfl ⟨[.slice A1 m.quals.length k1, .slice A2 m.specs.length k2, .int .i64 m.fn], rfl, ⟨_, _, rfl, k1', k2', h3⟩, below_set (below_set (below_set (below_to hB0 hT2) (by simp) _) (by simp) _) (by simp) _⟩
end Go.Proofs.YtoncaejgflfhhaaGreatDoor
namespace Go.Proofs.YtoncaejgflfhhaaGreatDoor
open Go.RowKit

/-- Two bytes in an array. -/
def rPair : Rp (Int × Int) where
  agg := true
  sz := 2
  E := fun _ => false
  K := fun _ x cs => cs = [.int .u8 x.1, .int .u8 x.2] ∧ okByte x.1 ∧ okByte x.2
  len := by rintro w x cs ⟨rfl, _⟩; rfl
  one := by rintro w x cs ⟨rfl, _⟩ u hu; simp at hu; rcases hu with rfl | rfl <;> rfl
  mov := fun _ h => h
@[go_sem] theorem rPair_val (a b : Value) : rPair.val [a, b] = .agg #[a, b] := rfl
def argS (x : Int × Int) : Arg := ⟨x.1 % 40, objS x.2⟩
def argsS (l : List (Int × Int)) : List Arg := l.map argS
theorem inf52 : (Tryz.prog.info? 52).map (fun i => (i.size, i.bytes, i.zero.map (fun z => z.cells.size))) = some (2, 24, some 2) := by kernel_rfl
theorem inf131 : (Tryz.prog.info? 131).map (fun i => (i.size, i.bytes, i.zero.map (fun z => z.cells.size))) = some (2, 24, some 2) := by kernel_rfl
theorem argS_K (x : Int × Int) (h1 : okByte x.1) (w : World) : rArg.K w (argS x) [.int .i64 (x.1 % 40), .string (objS x.2)] := by
  obtain ⟨a, b⟩ := h1
  exact ⟨rfl, ⟨by show _ ≤ x.1 % 40; omega, by show x.1 % 40 ≤ _; omega⟩, objS_size _⟩

set_option maxHeartbeats 4000000 in
set_option maxRecDepth 100000 in
theorem args14 (e : Option Nat) (l : List (Int × Int)) (v : Value) (w : World) (h : (Rp.slice e rPair).K w l [v]) (hl : l.length ≤ 1000000) :
    Calls Tryz.prog 14 #[v] w fun e w' => ∃ v1 v2, e = .returned (.tuple #[v1, v2]) ∧ Own 52 rArg w.heap.size w' v1 (argsS l) ∧ Own 131 rArg w.heap.size w' v2 (argsS l) ∧ Below w.heap.size w w' := by
  obtain ⟨A, c, hv, _, _, _, hr⟩ := h
  cases hv
  have HR := Lib.hid hr
  have HL := Lib.hid hl
  clear hr hl
  go_enter Tryz.func14, Tryz.ntmps14
  go_wp2
  go_loopw [4, 5, 10] (fun va vb vi wr => ∃ j : Nat, j ≤ l.length ∧ vi = .int .i64 j ∧ Own 52 rArg w.heap.size wr va (argsS (l.take j)) ∧ Own 131 rArg w.heap.size wr vb (argsS (l.take j)) ∧ Below w.heap.size w wr) (fun _ _ vi _ => l.length - (intOf vi).toNat)
  case atStart => exact ⟨0, Nat.zero_le _, rfl, Own.nil _ _ _ _, Own.nil _ _ _ _, Below.refl _ _⟩
  case round =>
    obtain ⟨j, hj, rfl, hO, hP, hB⟩ := hrel
    have hl := HL.out
    by_cases hlt : j < l.length
    · obtain ⟨⟨n, o⟩, hx, _⟩ := some_at hlt
      obtain ⟨b, off, cs, hA, hbl, hk, hcell⟩ := Rp.Row_at (Rp.Row_mov (Same.of_below hB) HR.out) hx
      subst hA
      obtain ⟨rfl, h1, h2⟩ := hk
      have c0 : wr.cell? ⟨b, off + j * 2, none⟩ = some (.int .u8 n) := hcell 0 _ rfl
      have c1 : wr.cell? ⟨b, off + j * 2 + 1, none⟩ = some (.int .u8 o) := hcell 1 _ rfl
      have HT : Hid (argsS (l.take (j + 1)) = argsS (l.take j) ++ [⟨n % 40, objS o⟩]) := Lib.hid (by rw [take_snoc_at hx, argsS, List.map_append]; rfl)
      have H44 := Lib.hid (fun w' => object44 o w' h2)
      obtain ⟨zs, hzs⟩ : ∃ zs, zs = argsS (l.take j) := ⟨_, rfl⟩
      have hzl : zs.length ≤ 1000000 := by rw [hzs, argsS, List.length_map, List.length_take]; omega
      rw [← hzs] at hO hP HT
      have HBB := Lib.hid (And.intro (show (zs.length + 1) * 24 ≤ 140737488355328 by omega) (show zs.length + 1 ≤ maxLen by unfold maxLen; omega))
      have HLT := Lib.hid hlt
      have HK := Lib.hid (fun w => argS_K (n, o) h1 w)
      obtain ⟨b1, b2⟩ := h1
      have b1 : 0 ≤ n := b1
      have b2 : n ≤ 255 := b2
      have htm : Int.tmod n 40 = n % 40 := Int.tmod_eq_emod_of_nonneg b1
      have hwn : IntKind.i64.wrap n = n := IntWalk.i64_in _ (by omega)
      have HTm := Lib.hid (And.intro htm hwn)
      clear hcell h2 hx hzs hzl htm hwn
      go_wp2
      obtain ⟨W1, hW1⟩ : ∃ W, W = wr.alloc (.cells #[.int .u8 n, .int .u8 o] 129) := ⟨_, rfl⟩
      have hB1 : Below wr.heap.size wr W1 := hW1 ▸ below_one _ _
      have x1 : Box W1 wr.heap.size 129 [.int .u8 n, .int .u8 o] := hW1 ▸ Box.mk_ _ rfl rfl
      rw [← hW1]
      clear hW1
      have hO1 := hO.below hB1
      have hP1 := hP.below hB1
      have hT1 := below_to hB hB1
      clear hO hP c0 c1
      have d0 := x1.cell 0 _ rfl
      have d1 := x1.cell 1 _ rfl
      have dl := x1.lt
      have htm := HTm.out.1
      have hwn := HTm.out.2
      go_cut [4] (fun v wx => Own 52 rArg w.heap.size wx v (zs ++ [⟨n % 40, objS o⟩]) ∧ Own 131 rArg w.heap.size wx u5 zs ∧ Box wx wr.heap.size 129 [.int .u8 n, .int .u8 o] ∧ Below w.heap.size w wx)
      case first =>
        go_region_held3 (fun w' => w'.cell? ⟨wr.heap.size, 0, none⟩ = some (.int .u8 n) ∧ w'.cell? ⟨wr.heap.size, 1, none⟩ = some (.int .u8 o))
          (go_keep)
          (first
            | (go_at_call 44; refine (H44.out _).mono ?_; rintro e w2 ⟨rfl, hB2⟩; have hX2 := below_to (below_drew W1) hB2; have x2 := x1.later hX2; have hO2 := hO1.below hX2; have hP2 := hP1.below hX2; have hT2 := below_to hT1 hX2; have e0 := x2.cell 0 _ rfl; have e1 := x2.cell 1 _ rfl; have el := x2.lt)
            | (refine step_app1 (y := ⟨n % 40, objS o⟩) (d := rArg) (e := 52) (base := w.heap.size) (sz := 2) (bs := 24) (cs := [.int .i64 (n % 40), .string (objS o)]) (t' := 52) (by rfl) _ _ 53 (by rfl) Tryz.underlying53 inf52 rfl (by decide) (by rfl) hO2 rfl (by rfl) (HK.out _) HBB.out.1 HBB.out.2 hT2.size ?_; intro gA cA w3 hA; have x3 := hA.box hO2 x2 (by decide); have k0 := x3.cell 0 _ rfl; have k1 := x3.cell 1 _ rfl))
        go_wp2_with fail
        go_meet
        exact ⟨hA.own, hA.beside hO2 hP2 (by decide) rfl, x3, hA.step hO2 hT2 (Nat.le_refl _)⟩
      case rest =>
        obtain ⟨hO2, hP2, x2, hT2⟩ := hcut
        clear hO1 hP1 x1 hT1 d0 d1 dl htm hwn
        have d0 := x2.cell 0 _ rfl
        have d1 := x2.cell 1 _ rfl
        have dl := x2.lt
        have htm := HTm.out.1
        have hwn := HTm.out.2
        go_wp2_with fail
        go_region_held3 (fun w' => w'.cell? ⟨wr.heap.size, 0, none⟩ = some (.int .u8 n) ∧ w'.cell? ⟨wr.heap.size, 1, none⟩ = some (.int .u8 o))
          (go_keep)
          (first
            | (go_at_call 44; refine (H44.out _).mono ?_; rintro e w4 ⟨rfl, hB4⟩; have hX4 := below_to (below_drew wc) hB4; have x4 := x2.later hX4; have hO4 := hO2.below hX4; have hP4 := hP2.below hX4; have hT4 := below_to hT2 hX4; have e0 := x4.cell 0 _ rfl; have e1 := x4.cell 1 _ rfl; have el := x4.lt)
            | (refine step_app1 (y := ⟨n % 40, objS o⟩) (d := rArg) (e := 131) (base := w.heap.size) (sz := 2) (bs := 24) (cs := [.int .i64 (n % 40), .string (objS o)]) (t' := 131) (by rfl) _ _ 62 (by rfl) Tryz.underlying62 inf131 rfl (by decide) (by rfl) hP4 rfl (by rfl) (HK.out _) HBB.out.1 HBB.out.2 hT4.size ?_; intro gB cB w5 hA; have x5 := hA.box hP4 x4 (by decide); have k0 := x5.cell 0 _ rfl; have k1 := x5.cell 1 _ rfl))
        have hZ := Lib.hid (And.intro (hA.beside hP4 hO4 (by decide) rfl) (And.intro hA.own (hA.step hP4 hT4 (Nat.le_refl _))))
        rw [← HT.out] at hZ
        clear htm hwn
        go_wp2
        go_roundw
        case rel => exact ⟨j + 1, by have := HLT.out; omega, by go_num, hZ.out.1, hZ.out.2.1, hZ.out.2.2⟩
        case measure => have := HLT.out; simp [intOf]; omega
    · have hj' : j = l.length := by omega
      subst hj'
      rw [List.take_length] at hO hP
      go_wp2
      go_ret2
      exact ⟨_, _, rfl, hO, hP, hB⟩
end Go.Proofs.YtoncaejgflfhhaaGreatDoor
