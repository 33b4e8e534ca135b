/- The laws' Made. -/
import Derived.Test.YtoncaejgflfhhaaGreatDoorM43
import Derived.Test.YtoncaejgflfhhaaGreatDoorM10
import Derived.Deep.RegionLaw
set_option linter.unusedVariables false
set_option linter.unusedSimpArgs false
namespace Go.Proofs.YtoncaejgflfhhaaGreatDoor
open Go.RowKit

structure Given where
  quals : List Int
  specs : List Int
  objs : List Int
  fn : Int
abbrev sByte : Rp (List Int) := Rp.slice none Rp.byte
def rGiven : Rp Given where
  agg := true
  sz := 4
  E := sByte.E
  K := fun w x cs => ∃ a b c, cs = [a, b, c, .int .i64 x.fn] ∧ sByte.K w x.quals [a] ∧ sByte.K w x.specs [b] ∧ sByte.K w x.objs [c] ∧ Rp.okInt x.fn
  len := by rintro w x cs ⟨a, b, c, rfl, _⟩; rfl
  one := by
    rintro w x cs ⟨a, b, c, rfl, h1, h2, h3, _⟩ u hu
    simp at hu
    rcases hu with rfl | rfl | rfl | rfl
    · exact slice_one h1
    · exact slice_one h2
    · exact slice_one h3
    · rfl
  mov := by
    rintro w w' x cs hs ⟨a, b, c, rfl, h1, h2, h3, h4⟩
    exact ⟨a, b, c, rfl, sByte.mov hs h1, sByte.mov hs h2, sByte.mov hs h3, h4⟩
@[go_sem] theorem rGiven_val (a b c d : Value) : rGiven.val [a, b, c, d] = .agg #[a, b, c, d] := rfl
def specS (objs : List Int) (i : Nat) (n : Int) : Spec := match objs[i]? with
  | some o => if o % 3 = 0 then ⟨true, 0, objS (o / 3)⟩ else ⟨false, n % 40, ⟨#[]⟩⟩
  | none => ⟨false, n % 40, ⟨#[]⟩⟩
def madeS (x : Given) (c : ByteArray) : Meth := ⟨x.quals.map (qualS · c), x.specs.mapIdx (specS x.objs), x.fn⟩
theorem inf135 : (Tryz.prog.info? 135).map (fun i => (i.size, i.bytes, i.zero.map (fun z => z.cells.size))) = some (3, 32, some 3) := by kernel_rfl
theorem siz135 : (Tryz.prog.info? 135).map (·.size) = some 3 := by kernel_rfl
theorem siz68 : (Tryz.prog.info? 68).map (·.size) = some 3 := by kernel_rfl
theorem siz66 : (Tryz.prog.info? 66).map (·.size) = some 1 := by kernel_rfl
theorem specS_ok (objs : List Int) (i : Nat) (n : Int) (h : okByte n) : Rp.okInt (specS objs i n).cls ∧ (specS objs i n).obj.size ≤ maxLen := by
  obtain ⟨h1, h2⟩ := h
  have hn : Rp.okInt (n % 40) := ⟨by omega, by omega⟩
  unfold specS
  split
  · split
    · exact ⟨⟨by show (-9223372036854775808 : Int) ≤ 0; decide, by show (0 : Int) ≤ _; decide⟩, objS_size _⟩
    · exact ⟨hn, Nat.zero_le _⟩
  · exact ⟨hn, Nat.zero_le _⟩
theorem specS_cases (objs : List Int) (i : Nat) (n : Int) : (∃ o, objs[i]? = some o ∧ o % 3 = 0 ∧ specS objs i n = ⟨true, 0, objS (o / 3)⟩) ∨ (specS objs i n = ⟨false, n % 40, ⟨#[]⟩⟩ ∧ ((∃ o, objs[i]? = some o ∧ ¬ o % 3 = 0) ∨ objs.length ≤ i)) := by
  unfold specS
  cases h : objs[i]? with
  | none => exact .inr ⟨rfl, .inr (List.getElem?_eq_none_iff.1 h)⟩
  | some o =>
    by_cases hz : o % 3 = 0
    · exact .inl ⟨o, rfl, hz, if_pos hz⟩
    · exact .inr ⟨if_neg hz, .inl ⟨o, rfl, hz⟩⟩
theorem mapIdx_take {α β : Type} (f : Nat → α → β) (l : List α) {i : Nat} {x : α} (h : l[i]? = some x) : (l.mapIdx f).take (i + 1) = (l.mapIdx f).take i ++ [f i x] := take_snoc_at (by rw [List.getElem?_mapIdx, h]; rfl)

set_option maxHeartbeats 4000000 in
set_option maxRecDepth 100000 in
theorem made16 (x : Given) (cs : List Value) (c : ByteArray) (w : World) (h : rGiven.K w x cs) (hc : c.size ≤ maxLen) (h1 : x.quals.length ≤ 1000) (h2 : x.specs.length ≤ 1000) (h3 : x.objs.length ≤ 9223372036854775807) :
    Calls Tryz.prog 16 #[rGiven.val cs, .string c] w (R1 rRMeth (madeS x c) w) := by
  obtain ⟨a, b, d, rfl, ka, kb, kd, ko⟩ := h
  obtain ⟨A1, c1, rfl⟩ := slice_form ka
  obtain ⟨A2, c2, rfl⟩ := slice_form kb
  obtain ⟨A3, c3, rfl⟩ := slice_form kd
  have HR := Lib.hid (And.intro (Rp.slice_row ka) (And.intro (Rp.slice_row kb) (Rp.slice_row kd)))
  have HC := Lib.hid (And.intro hc ko)
  have HL := Lib.hid (And.intro h1 (And.intro h2 h3))
  rw [rGiven_val]
  clear ka kb kd ko hc h1 h2 h3
  obtain ⟨W0, hW0⟩ : ∃ W, W = ((w.alloc (.cells #[.slice A1 x.quals.length c1, .slice A2 x.specs.length c2, .slice A3 x.objs.length c3, .int .i64 x.fn] 58)).alloc (.cells #[.slice none 0 0, .slice none 0 0, .int .i64 0] 68)).alloc (.cells #[.slice none 0 0, .slice none 0 0, .int .i64 x.fn] 68) := ⟨_, rfl⟩
  have hB0 : Below w.heap.size w W0 := hW0 ▸ below_more (below_more (below_one _ _) _) _
  have b0 : Box W0 w.heap.size 58 [.slice A1 x.quals.length c1, .slice A2 x.specs.length c2, .slice A3 x.objs.length c3, .int .i64 x.fn] := hW0 ▸ ((Box.mk_ _ rfl rfl).alloc _).alloc _
  have b1 : Box W0 (w.heap.size + 1) 68 [.slice none 0 0, .slice none 0 0, .int .i64 0] := hW0 ▸ (Box.mk_ _ (by simp) rfl).alloc _
  have b2 : Box W0 (w.heap.size + 1 + 1) 68 [.slice none 0 0, .slice none 0 0, .int .i64 x.fn] := hW0 ▸ Box.mk_ _ (by simp) rfl
  have HW0 := Lib.hid hW0
  clear hW0
  go_enter Tryz.func16, Tryz.ntmps16
  go_wp2
  rw [← HW0.out]
  go_loopw [17] (fun vi wr => ∃ (j : Nat) (v : Value), j ≤ x.quals.length ∧ vi = .int .i64 j ∧ Box wr w.heap.size 58 [.slice A1 x.quals.length c1, .slice A2 x.specs.length c2, .slice A3 x.objs.length c3, .int .i64 x.fn] ∧ Box wr (w.heap.size + 1) 68 [.slice none 0 0, .slice none 0 0, .int .i64 0] ∧ Box wr (w.heap.size + 1 + 1) 68 [v, .slice none 0 0, .int .i64 x.fn] ∧ Own 9 Rp.str w.heap.size wr v ((x.quals.take j).map (qualS · c)) ∧ Below w.heap.size w wr) (fun vi _ => x.quals.length - (intOf vi).toNat)
  case atStart => exact ⟨0, _, Nat.zero_le _, rfl, b0, b1, b2, Own.nil _ _ _ _, hB0⟩
  case round =>
    obtain ⟨j, v, hj, rfl, x0, x1, x2, hO, hB⟩ := hrel
    clear b0 b1 b2 hB0
    have hl1 := HL.out.1
    by_cases hlt : j < x.quals.length
    · obtain ⟨n, hn, _⟩ := some_at hlt
      obtain ⟨b, off, cs, hA, hbl, hk, hcell⟩ := Rp.Row_at (Rp.Row_mov (Same.of_below hB) HR.out.1) hn
      subst hA
      obtain ⟨rfl, hnb⟩ := hk
      have c0 : wr.cell? ⟨b, off + j, none⟩ = some (.int .u8 n) := by have := hcell 0 _ rfl; simpa [Rp.byte, Rp.scalar] using this
      have HT : Hid ((x.quals.take (j + 1)).map (qualS · c) = (x.quals.take j).map (qualS · c) ++ [qualS n c]) := Lib.hid (by rw [take_snoc_at hn, List.map_append]; rfl)
      have H47 := Lib.hid (fun w' => qualifier47 n c w' hnb)
      obtain ⟨zs, hzs⟩ : ∃ zs, zs = (x.quals.take j).map (qualS · c) := ⟨_, rfl⟩
      have hzl : zs.length ≤ 1000000 := by rw [hzs, List.length_map, List.length_take]; omega
      rw [← hzs] at hO HT
      have HBB := Lib.hid (And.intro (show (zs.length + 1) * 16 ≤ 140737488355328 by omega) (And.intro (show zs.length + 1 ≤ maxLen by unfold maxLen; omega) (qualS_size n HC.out.1)))
      have HLT := Lib.hid hlt
      have f0 := x2.cell 0 _ rfl
      have f1 := x2.free 0
      have l2 := x2.lt
      clear hcell hnb hn hzs hzl
      go_wp2_with fail
      go_region_law (first
        | (go_simp; go_at_call 47; refine (H47.out _).mono ?_; rintro e w2 ⟨rfl, hB2⟩; have hX2 := below_to (below_drew wr) hB2; have y0 := x0.later hX2; have y1 := x1.later hX2; have y2 := x2.later hX2; have hO2 := hO.below hX2; have hT2 := below_to hB hX2; have g0 := y2.cell 0 _ rfl; have gz := y2.lt; try dsimp only)
        | (refine step_app1 (y := qualS n c) (d := Rp.str) (e := 9) (base := w.heap.size) (sz := 1) (bs := 16) (cs := [.string (qualS n c)]) (t' := 9) (by rfl) _ _ 38 (by rfl) Tryz.underlying38 inf9 rfl (by decide) (by rfl) hO2 rfl (by rfl) ⟨rfl, HBB.out.2.2⟩ HBB.out.1 HBB.out.2.1 hT2.size ?_; intro gA cA w3 hA; have z0 := hA.box hO2 y0 (by decide); have z1 := hA.box hO2 y1 (by decide); have z2 := hA.box hO2 y2 (by decide); have g1 := z2.cell 0 _ rfl; have e1 := z2.free 0; have gl := z2.lt))
      all_goals
        have hc9 := z2.chg 0 (.slice (some ⟨gA, 0, none⟩) (zs.length + 1) cA)
        have n2 := z2.set 0 (.slice (some ⟨gA, 0, none⟩) (zs.length + 1) cA)
        have n0 := hc9.box_ty z0 (by decide)
        have n1 := hc9.box z1 (by omega)
        have nO := hc9.own hA.own (by decide) rfl
        have nB := hc9.below (hA.step hO2 hT2 (Nat.le_refl _)) (by omega)
        rw [← HT.out] at nO
        have HZ := Lib.hid (And.intro n0 (And.intro n1 (And.intro n2 (And.intro nO nB))))
        clear hc9 n0 n1 n2 nO nB
        go_wp2
        go_roundw
        case rel => exact ⟨j + 1, _, by have := HLT.out; omega, by go_num, HZ.out.1, HZ.out.2.1, HZ.out.2.2.1, HZ.out.2.2.2.1, HZ.out.2.2.2.2⟩
        case measure => have := HLT.out; simp [intOf]; omega
    · have hj' : j = x.quals.length := by omega
      subst hj'
      rw [List.take_length] at hO
      obtain ⟨qs, hqs⟩ : ∃ qs, qs = x.quals.map (qualS · c) := ⟨_, rfl⟩
      rw [← hqs] at hO
      have HQ := Lib.hid hqs
      clear hqs
      have f1 := x0.cell 1 _ rfl
      have fl := x0.lt
      have HK0 := Lib.hid (And.intro x0 (And.intro x1 (And.intro x2 (And.intro hO hB))))
      go_wp2_with fail
      clear x0 x1 x2 hO hB f1 fl hlt hj
      go_loopw [33] (fun vi wr => ∃ (i : Nat) (vs : Value), i ≤ x.specs.length ∧ vi = .int .i64 i ∧ Box wr w.heap.size 58 [.slice A1 x.quals.length c1, .slice A2 x.specs.length c2, .slice A3 x.objs.length c3, .int .i64 x.fn] ∧ Box wr (w.heap.size + 1) 68 [.slice none 0 0, .slice none 0 0, .int .i64 0] ∧ Box wr (w.heap.size + 1 + 1) 68 [v, vs, .int .i64 x.fn] ∧ Own 9 Rp.str w.heap.size wr v qs ∧ Own 135 rSpec w.heap.size wr vs ((x.specs.mapIdx (specS x.objs)).take i) ∧ Below w.heap.size w wr) (fun vi _ => x.specs.length - (intOf vi).toNat)
      case atStart => exact ⟨0, _, Nat.zero_le _, rfl, HK0.out.1, HK0.out.2.1, HK0.out.2.2.1, HK0.out.2.2.2.1, Own.nil _ _ _ _, HK0.out.2.2.2.2⟩
      case round =>
        obtain ⟨i, vs, hi, rfl, x0, x1, x2, hO, hP, hB⟩ := hrel
        have hl2 := HL.out.2.1
        by_cases hlt : i < x.specs.length
        · obtain ⟨n, hn, _⟩ := some_at hlt
          obtain ⟨b, off, cs, hA, hbl, hk, hcell⟩ := Rp.Row_at (Rp.Row_mov (Same.of_below hB) HR.out.2.1) hn
          subst hA
          obtain ⟨rfl, hnb⟩ := hk
          have c0 : wr.cell? ⟨b, off + i, none⟩ = some (.int .u8 n) := by have := hcell 0 _ rfl; simpa [Rp.byte, Rp.scalar] using this
          have HT := Lib.hid (mapIdx_take (specS x.objs) x.specs hn)
          obtain ⟨zs, hzs⟩ : ∃ zs, zs = (x.specs.mapIdx (specS x.objs)).take i := ⟨_, rfl⟩
          have hzl : zs.length ≤ 1000000 := by rw [hzs, List.length_take, List.length_mapIdx]; omega
          rw [← hzs] at hP HT
          obtain ⟨sp, hsp⟩ : ∃ sp, sp = specS x.objs i n := ⟨_, rfl⟩
          rw [← hsp] at HT
          have HS := Lib.hid hsp
          obtain ⟨n1, n2⟩ := hnb
          have HSo : Hid (Rp.okInt sp.cls ∧ sp.obj.size ≤ maxLen) := by
            refine Lib.hid ?_
            rw [hsp]
            exact specS_ok _ _ _ ⟨n1, n2⟩
          have HBB := Lib.hid (And.intro (show (zs.length + 1) * 32 ≤ 140737488355328 by omega) (show zs.length + 1 ≤ maxLen by unfold maxLen; omega))
          have HLT := Lib.hid hlt
          have f2 := x0.cell 2 _ rfl
          have fl := x0.lt
          clear hcell hn hzs hzl hsp
          rcases specS_cases x.objs i n with ⟨o, ho, hoz, hs⟩ | ⟨hs, ho⟩
          · obtain ⟨bo, oo, cs, hA, hbl2, hk2, hcell⟩ := Rp.Row_at (Rp.Row_mov (Same.of_below hB) HR.out.2.2) ho
            subst hA
            obtain ⟨rfl, hob⟩ := hk2
            have co : wr.cell? ⟨bo, oo + i, none⟩ = some (.int .u8 o) := by have := hcell 0 _ rfl; simpa [Rp.byte, Rp.scalar] using this
            have hil : i < x.objs.length := (List.getElem?_eq_some_iff.1 ho).1
            have hil' : (i : Int) < x.objs.length := by omega
            have H44 := Lib.hid (fun w' => object44 (o / 3) w' (by obtain ⟨h1, h2⟩ := hob; exact ⟨by omega, by omega⟩))
            obtain ⟨o1, o2⟩ := hob
            have hoe : (o % 3 == 0) = true := by simpa using hoz
            have hsp2 : sp = ⟨true, 0, objS (o / 3)⟩ := HS.out.trans hs
            have HSpK : Hid (∀ w, rSpec.K w sp [.bool true, .int .i64 0, .string (objS (o / 3))]) := Lib.hid (fun w => by rw [hsp2]; exact ⟨rfl, okZero, objS_size _⟩)
            have hus : ∀ u ∈ [Value.bool true, .int .i64 0, .string (objS (o / 3))], u.oneCell' = true := by simp [Value.oneCell']
            have HU := Lib.hid hus
            clear hcell hoz hs ho hsp2 hus
            obtain ⟨W1, hW1⟩ : ∃ W, W = wr.alloc (.cells #[.bool false, .int .i64 (n % 40), .string ⟨#[]⟩] 135) := ⟨_, rfl⟩
            have hB1 : Below wr.heap.size wr W1 := hW1 ▸ below_one _ _
            have bs : Box W1 wr.heap.size 135 [.bool false, .int .i64 (n % 40), .string ⟨#[]⟩] := hW1 ▸ Box.mk_ _ rfl rfl
            have HW1 := Lib.hid hW1
            clear hW1
            have co1 := cell_later hB1 co
            have x01 := x0.later hB1
            have f21 := x01.cell 2 _ rfl
            have fl1 := x01.lt
            go_upto_region 11 with fail
            rw [← HW1.out]
            clear co f2 fl
            go_wp2_with (first
              | (go_at_call 44; refine (H44.out _).mono ?_; rintro e w2 ⟨rfl, hB2⟩; have bs2 := bs.later hB2; have hX2 := below_to hB1 hB2)
              | (refine wp_box_store rfl 135 _ _ rfl (us := [.bool true, .int .i64 0, .string (objS (o / 3))]) rfl rfl bs2 siz135 rfl HU.out ?_; intro w3 bs3 hc3; have hX3 := hc3.below hX2 (Nat.le_refl _); have y0 := x0.later hX3; have y1 := x1.later hX3; have y2 := x2.later hX3; have hO4 := hO.below hX3; have hP4 := hP.below hX3; have hT4 := below_to hB hX3; have m0 := bs3.cell 0 _ rfl; have m1 := bs3.cell 1 _ rfl; have m2 := bs3.cell 2 _ rfl; have ml := bs3.lt; have r1 := y2.cell 1 _ rfl; have rl := y2.lt)
              | (at_builtin; refine wp_app1 (v := vs) (y := sp) (d := rSpec) (e := 135) (base := w.heap.size) (cs := [.bool true, .int .i64 0, .string (objS (o / 3))]) (t' := 135) rfl _ _ 66 rfl Tryz.underlying66 inf135 rfl (by decide) rfl hP4 rfl rfl (HSpK.out _) HBB.out.1 HBB.out.2 hT4.size ?_; intro gA cA w5 hA; have z0 := hA.box hP4 y0 (by decide); have z1 := hA.box hP4 y1 (by decide); have z2 := hA.box hP4 y2 (by decide); have hO5 := hA.beside hP4 hO4 (by decide) rfl)
              | (refine wp_box_set rfl 66 _ _ rfl (j := 1) (u := .slice (some ⟨gA, 0, none⟩) (zs.length + 1) cA) rfl rfl z2 rfl rfl rfl siz66 ?_; intro w6 t2 hc6)
              | go_in)
            have t0 := hc6.box_ty z0 (by decide)
            have t1 := hc6.box z1 (by omega)
            have tO := hc6.own hO5 (by decide) rfl
            have tP := hc6.own hA.own (by decide) rfl
            have tB := hc6.below (hA.step hP4 hT4 (Nat.le_refl _)) (by omega)
            rw [← HT.out] at tP
            have HZ := Lib.hid (And.intro t0 (And.intro t1 (And.intro t2 (And.intro tO (And.intro tP tB)))))
            clear t0 t1 t2 tO tP tB hc6
            go_roundw
            case rel => exact ⟨i + 1, _, by have := HLT.out; omega, by go_num, HZ.out.1, HZ.out.2.1, HZ.out.2.2.1, HZ.out.2.2.2.1, HZ.out.2.2.2.2.1, HZ.out.2.2.2.2.2⟩
            case measure => have := HLT.out; simp [intOf]; omega
          · rcases ho with ⟨o, ho, hoz⟩ | ho
            · obtain ⟨bo, oo, cs, hA, hbl2, hk2, hcell⟩ := Rp.Row_at (Rp.Row_mov (Same.of_below hB) HR.out.2.2) ho
              subst hA
              obtain ⟨rfl, hob⟩ := hk2
              have co : wr.cell? ⟨bo, oo + i, none⟩ = some (.int .u8 o) := by have := hcell 0 _ rfl; simpa [Rp.byte, Rp.scalar] using this
              have hil : i < x.objs.length := (List.getElem?_eq_some_iff.1 ho).1
              have hil' : (i : Int) < x.objs.length := by omega
              obtain ⟨o1, o2⟩ := hob
              have hoe : (o % 3 == 0) = false := by simpa using hoz
              clear hcell hoz ho
              have hsp2 : sp = ⟨false, n % 40, ⟨#[]⟩⟩ := HS.out.trans hs
              have HSpK : Hid (∀ w, rSpec.K w sp [.bool false, .int .i64 (n % 40), .string ⟨#[]⟩]) := Lib.hid (fun w => by rw [hsp2]; exact ⟨rfl, ⟨by show _ ≤ n % 40; omega, by show n % 40 ≤ _; omega⟩, Nat.zero_le _⟩)
              clear hs hsp2
              obtain ⟨W1, hW1⟩ : ∃ W, W = wr.alloc (.cells #[.bool false, .int .i64 (n % 40), .string ⟨#[]⟩] 135) := ⟨_, rfl⟩
              have hB1 : Below wr.heap.size wr W1 := hW1 ▸ below_one _ _
              have bs : Box W1 wr.heap.size 135 [.bool false, .int .i64 (n % 40), .string ⟨#[]⟩] := hW1 ▸ Box.mk_ _ rfl rfl
              have HW1 := Lib.hid hW1
              clear hW1
              have x01 := x0.later hB1
              have f21 := x01.cell 2 _ rfl
              have fl1 := x01.lt
              have y0 := x01
              have y1 := x1.later hB1
              have y2 := x2.later hB1
              have hO4 := hO.below hB1
              have hP4 := hP.below hB1
              have hT4 := below_to hB hB1
              have m0 := bs.cell 0 _ rfl
              have m1 := bs.cell 1 _ rfl
              have m2 := bs.cell 2 _ rfl
              have ml := bs.lt
              have r1 := y2.cell 1 _ rfl
              have rl := y2.lt
              have co1 := cell_later hB1 co
              clear co
              go_upto_region 11 with fail
              rw [← HW1.out]
              clear f2 fl
              go_wp2_with (first
                | (at_builtin; refine wp_app1 (v := vs) (y := sp) (d := rSpec) (e := 135) (base := w.heap.size) (cs := [.bool false, .int .i64 (n % 40), .string ⟨#[]⟩]) (t' := 135) rfl _ _ 66 rfl Tryz.underlying66 inf135 rfl (by decide) rfl hP4 rfl rfl (HSpK.out _) HBB.out.1 HBB.out.2 hT4.size ?_; intro gA cA w5 hA; have z0 := hA.box hP4 y0 (by decide); have z1 := hA.box hP4 y1 (by decide); have z2 := hA.box hP4 y2 (by decide); have hO5 := hA.beside hP4 hO4 (by decide) rfl)
                | (refine wp_box_set rfl 66 _ _ rfl (j := 1) (u := .slice (some ⟨gA, 0, none⟩) (zs.length + 1) cA) rfl rfl z2 rfl rfl rfl siz66 ?_; intro w6 t2 hc6)
                | go_in)
              have t0 := hc6.box_ty z0 (by decide)
              have t1 := hc6.box z1 (by omega)
              have tO := hc6.own hO5 (by decide) rfl
              have tP := hc6.own hA.own (by decide) rfl
              have tB := hc6.below (hA.step hP4 hT4 (Nat.le_refl _)) (by omega)
              rw [← HT.out] at tP
              have HZ := Lib.hid (And.intro t0 (And.intro t1 (And.intro t2 (And.intro tO (And.intro tP tB)))))
              clear t0 t1 t2 tO tP tB hc6
              go_roundw
              case rel => exact ⟨i + 1, _, by have := HLT.out; omega, by go_num, HZ.out.1, HZ.out.2.1, HZ.out.2.2.1, HZ.out.2.2.2.1, HZ.out.2.2.2.2.1, HZ.out.2.2.2.2.2⟩
              case measure => have := HLT.out; simp [intOf]; omega
            · have hil : ¬ i < x.objs.length := by omega
              have hil' : decide ((i : Int) < x.objs.length) = false := by simpa using ho
              clear ho
              have hsp2 : sp = ⟨false, n % 40, ⟨#[]⟩⟩ := HS.out.trans hs
              have HSpK : Hid (∀ w, rSpec.K w sp [.bool false, .int .i64 (n % 40), .string ⟨#[]⟩]) := Lib.hid (fun w => by rw [hsp2]; exact ⟨rfl, ⟨by show _ ≤ n % 40; omega, by show n % 40 ≤ _; omega⟩, Nat.zero_le _⟩)
              clear hs hsp2
              obtain ⟨W1, hW1⟩ : ∃ W, W = wr.alloc (.cells #[.bool false, .int .i64 (n % 40), .string ⟨#[]⟩] 135) := ⟨_, rfl⟩
              have hB1 : Below wr.heap.size wr W1 := hW1 ▸ below_one _ _
              have bs : Box W1 wr.heap.size 135 [.bool false, .int .i64 (n % 40), .string ⟨#[]⟩] := hW1 ▸ Box.mk_ _ rfl rfl
              have HW1 := Lib.hid hW1
              clear hW1
              have x01 := x0.later hB1
              have f21 := x01.cell 2 _ rfl
              have fl1 := x01.lt
              have y0 := x01
              have y1 := x1.later hB1
              have y2 := x2.later hB1
              have hO4 := hO.below hB1
              have hP4 := hP.below hB1
              have hT4 := below_to hB hB1
              have m0 := bs.cell 0 _ rfl
              have m1 := bs.cell 1 _ rfl
              have m2 := bs.cell 2 _ rfl
              have ml := bs.lt
              have r1 := y2.cell 1 _ rfl
              have rl := y2.lt
              go_upto_region 11 with fail
              rw [← HW1.out]
              clear f2 fl
              go_wp2_with (first
                | (at_builtin; refine wp_app1 (v := vs) (y := sp) (d := rSpec) (e := 135) (base := w.heap.size) (cs := [.bool false, .int .i64 (n % 40), .string ⟨#[]⟩]) (t' := 135) rfl _ _ 66 rfl Tryz.underlying66 inf135 rfl (by decide) rfl hP4 rfl rfl (HSpK.out _) HBB.out.1 HBB.out.2 hT4.size ?_; intro gA cA w5 hA; have z0 := hA.box hP4 y0 (by decide); have z1 := hA.box hP4 y1 (by decide); have z2 := hA.box hP4 y2 (by decide); have hO5 := hA.beside hP4 hO4 (by decide) rfl)
                | (refine wp_box_set rfl 66 _ _ rfl (j := 1) (u := .slice (some ⟨gA, 0, none⟩) (zs.length + 1) cA) rfl rfl z2 rfl rfl rfl siz66 ?_; intro w6 t2 hc6)
                | go_in)
              have t0 := hc6.box_ty z0 (by decide)
              have t1 := hc6.box z1 (by omega)
              have tO := hc6.own hO5 (by decide) rfl
              have tP := hc6.own hA.own (by decide) rfl
              have tB := hc6.below (hA.step hP4 hT4 (Nat.le_refl _)) (by omega)
              rw [← HT.out] at tP
              have HZ := Lib.hid (And.intro t0 (And.intro t1 (And.intro t2 (And.intro tO (And.intro tP tB)))))
              clear t0 t1 t2 tO tP tB hc6
              go_roundw
              case rel => exact ⟨i + 1, _, by have := HLT.out; omega, by go_num, HZ.out.1, HZ.out.2.1, HZ.out.2.2.1, HZ.out.2.2.2.1, HZ.out.2.2.2.2.1, HZ.out.2.2.2.2.2⟩
              case measure => have := HLT.out; simp [intOf]; omega
        · have hi' : i = x.specs.length := by omega
          subst hi'
          rw [List.take_of_length_le (by simp)] at hP
          have hus : ∀ u ∈ [v, vs, Value.int .i64 x.fn], u.oneCell' = true := by
            intro u hu
            simp at hu
            rcases hu with rfl | rfl | rfl
            · exact slice_one hO.read
            · exact slice_one hP.read
            · rfl
          have HU := Lib.hid hus
          clear hus
          go_wp2_with (first
            | (refine wp_box_load rfl 68 _ rfl rfl x2 Tryz.underlying68 rfl siz68 ?_)
            | (refine wp_box_store rfl 68 _ _ rfl (us := [v, vs, .int .i64 x.fn]) rfl rfl x1 siz68 rfl HU.out ?_; intro w2 y0 hc2; obtain ⟨q0, q1, q2, qf, ql⟩ := y0.three)
            | go_in)
          have hk1 := hc2.K (d := sStr) rfl hO.read
          have hk2 := hc2.K (d := Rp.slice (some 135) rSpec) rfl hP.read
          exact bodyPost_ret (v := .agg #[v, vs, .int .i64 x.fn]) (by simp [results, Tryz.results16, go_sem, q0, q1, q2]) rfl ⟨[v, vs, .int .i64 x.fn], rfl, ⟨v, vs, rfl, by show sStr.K w2 (x.quals.map (qualS · c)) [v]; rw [← HQ.out]; exact hk1, hk2, HC.out.2⟩, hc2.below hB (by omega)⟩
end Go.Proofs.YtoncaejgflfhhaaGreatDoor
