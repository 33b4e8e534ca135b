/- method's Show. -/
import Derived.Test.YtoncaejgflfhhaaGreatDoorM36
import Derived.Test.YtoncaejgflfhhaaGreatDoorM35
set_option linter.unusedVariables false
set_option linter.unusedSimpArgs false
namespace Go.Proofs.YtoncaejgflfhhaaGreatDoor
open Go.RowKit

/-- A number's text. -/
def itoaB (n : Int) : ByteArray := ⟨(Lib.itoa n).toArray⟩
def partsS (p : Plan) : List (ByteArray × List Int) := [(⟨#[97, 114, 111, 117, 110, 100]⟩, p.ar), (⟨#[98, 101, 102, 111, 114, 101]⟩, p.be), (⟨#[112, 114, 105, 109, 97, 114, 121]⟩, p.pr), (⟨#[97, 102, 116, 101, 114]⟩, p.af)]
def partW (q : ByteArray × List Int) : List ByteArray := if q.2 = [] then [] else q.1 :: q.2.map itoaB
def wordsS (p : Plan) : List ByteArray := (partsS p).flatMap partW
def showW (p : Plan) : List ByteArray := wordsS p ++ if p.op = ⟨#[]⟩ then [] else [⟨#[111, 112, 101, 114, 97, 116, 111, 114]⟩, p.op]
def showS (p : Plan) : ByteArray := ⟨(Lib.join ((showW p).map (·.data.toList)) [32]).toArray⟩
def planAll (p : Plan) : List Int := p.ar ++ p.be ++ p.pr ++ p.af
/-- What Itoa does with numbers of this plan, in whatever world behind w. -/
def ItoaOk (p : Plan) (w : World) : Prop := ∀ n ∈ planAll p, ∀ w', Below w.heap.size w w' → Calls Tryz.prog 49 #[.int .i64 n] w' fun e w'' => e = .returned (.string (itoaB n)) ∧ Below w'.heap.size w' w''
theorem itoaOk_small {p : Plan} (h : ∀ n ∈ planAll p, 0 ≤ n ∧ n < 100) (w : World) : ItoaOk p w := by
  intro n hn w' _
  obtain ⟨h0, h1⟩ := h n hn
  obtain ⟨m, rfl⟩ : ∃ m : Nat, n = m := ⟨n.toNat, by omega⟩
  refine (Tryz.strconv_Itoa_small m (by omega) w').mono ?_
  rintro e w2 ⟨rfl, rfl⟩
  exact ⟨by simp [itoaB, Lib.itoa], Below.refl _ _⟩

theorem parts_at (p : Plan) {k : Nat} (hk : k < 4) : ∃ nm, (partsS p)[k]? = some (nm, planL p k) ∧ ∀ v0 v1 v2 v3 : Value,
    ([Value.string ⟨#[97, 114, 111, 117, 110, 100]⟩, v0, .string ⟨#[98, 101, 102, 111, 114, 101]⟩, v1, .string ⟨#[112, 114, 105, 109, 97, 114, 121]⟩, v2, .string ⟨#[97, 102, 116, 101, 114]⟩, v3] : List Value)[k * 2]? = some (.string nm) ∧
    ([Value.string ⟨#[97, 114, 111, 117, 110, 100]⟩, v0, .string ⟨#[98, 101, 102, 111, 114, 101]⟩, v1, .string ⟨#[112, 114, 105, 109, 97, 114, 121]⟩, v2, .string ⟨#[97, 102, 116, 101, 114]⟩, v3] : List Value)[k * 2 + 1]? = ([v0, v1, v2, v3] : List Value)[k]? ∧ nm.size ≤ maxLen := by
  unfold maxLen
  rcases four_cases hk with rfl | rfl | rfl | rfl
  · exact ⟨_, rfl, fun _ _ _ _ => ⟨rfl, rfl, by decide⟩⟩
  · exact ⟨_, rfl, fun _ _ _ _ => ⟨rfl, rfl, by decide⟩⟩
  · exact ⟨_, rfl, fun _ _ _ _ => ⟨rfl, rfl, by decide⟩⟩
  · exact ⟨_, rfl, fun _ _ _ _ => ⟨rfl, rfl, by decide⟩⟩
theorem planL_all {p : Plan} {k : Nat} (hk : k < 4) {n : Int} (h : n ∈ planL p k) : n ∈ planAll p := by
  unfold planAll
  rcases four_cases hk with rfl | rfl | rfl | rfl <;> simp [planL] at h ⊢ <;> simp [h]
theorem plan_slices {w : World} {p : Plan} {cs : List Value} (h : rPlan.K w p cs) : ∃ (A0 A1 A2 A3 : Option Addr) (k0 k1 k2 k3 : Nat), cs = [.slice A0 p.ar.length k0, .slice A1 p.be.length k1, .slice A2 p.pr.length k2, .slice A3 p.af.length k3, .string p.op] ∧
    ∀ k, k < 4 → ∃ A c, ([.slice A0 p.ar.length k0, .slice A1 p.be.length k1, .slice A2 p.pr.length k2, .slice A3 p.af.length k3] : List Value)[k]? = some (.slice A (planL p k).length c) ∧ Rp.Row (some 3) Rp.int w A (planL p k) := by
  obtain ⟨a, b, c, d, rfl, h1, h2, h3, h4, _⟩ := h
  obtain ⟨A0, k0, rfl⟩ := slice_form h1
  obtain ⟨A1, k1, rfl⟩ := slice_form h2
  obtain ⟨A2, k2, rfl⟩ := slice_form h3
  obtain ⟨A3, k3, rfl⟩ := slice_form h4
  refine ⟨A0, A1, A2, A3, k0, k1, k2, k3, rfl, fun k hk => ?_⟩
  rcases four_cases hk with rfl | rfl | rfl | rfl
  · exact ⟨A0, k0, rfl, Rp.slice_row h1⟩
  · exact ⟨A1, k1, rfl, Rp.slice_row h2⟩
  · exact ⟨A2, k2, rfl, Rp.slice_row h3⟩
  · exact ⟨A3, k3, rfl, Rp.slice_row h4⟩
theorem words_snoc (p : Plan) {k : Nat} {q : ByteArray × List Int} (h : (partsS p)[k]? = some q) : ((partsS p).take (k + 1)).flatMap partW = ((partsS p).take k).flatMap partW ++ partW q := by
  rw [take_snoc_at h, List.flatMap_append]
  simp
theorem two_strs (w : World) (a b : ByteArray) (ha : a.size ≤ maxLen) (hb : b.size ≤ maxLen) : Rp.str.L w [a, b] [.string a, .string b] := ⟨[.string a], [.string b], rfl, ⟨rfl, ha⟩, [.string b], [], rfl, ⟨rfl, hb⟩, rfl⟩
/-- strings.Join of a row of one's own, with blanks. -/
theorem join50 (xs : List ByteArray) (v : Value) (base : Nat) (w : World) (hO : Own 9 Rp.str base w v xs) (hn : xs.length ≤ 1000000) (hlen : (Lib.join (xs.map (·.data.toList)) [32]).length ≤ 140737488355328) :
    Calls Tryz.prog 50 #[v, .string ⟨#[32]⟩] w fun e w' => e = .returned (.string ⟨(Lib.join (xs.map (·.data.toList)) [32]).toArray⟩) ∧ Below w.heap.size w w' := by
  obtain ⟨A, c, rfl, h1, _, _, hr⟩ := hO.row
  rcases hr with rfl | ⟨b, off, o, cs, rfl, hb, _, hl, hc⟩
  · refine (Tryz.strings_Join_none A c ⟨#[32]⟩ w).mono ?_
    rintro e w' ⟨rfl, rfl⟩
    exact ⟨rfl, Below.refl _ _⟩
  · refine Tryz.strings_Join b off c xs ⟨#[32]⟩ w (fun j x hx => ?_) (heap_lt hb) (by omega) h1 hlen
    obtain ⟨c1, hk, hcc⟩ := Rp.L_get hl j x hx
    obtain ⟨rfl, _⟩ := hk
    have := hc _ _ (hcc 0 _ rfl)
    simpa [Rp.str, Rp.scalar] using this
/-- At the head of Show's loops. -/
def Show1 (p : Plan) (V : World) (vo vi : Value) (wr : World) : Prop :=
  ∃ k : Nat, k ≤ 4 ∧ vi = .int .i64 k ∧ Own 9 Rp.str V.heap.size wr vo (((partsS p).take k).flatMap partW) ∧ ((((partsS p).take k).flatMap partW).length ≤ 100001 * k) ∧ Below V.heap.size V wr
def Show2 (L : List Int) (ws : List ByteArray) (V : World) (vo vi : Value) (wr : World) : Prop :=
  ∃ j : Nat, j ≤ L.length ∧ vi = .int .i64 j ∧ Own 9 Rp.str V.heap.size wr vo (ws ++ (L.take j).map itoaB) ∧ Below V.heap.size V wr

set_option maxHeartbeats 4000000 in
set_option maxRecDepth 100000 in
theorem show20 (p : Plan) (cs : List Value) (w : World) (h : rPlan.K w p cs) (hok : okPlan p) (hI : ItoaOk p w) (hs : ∀ n ∈ planAll p, (itoaB n).size ≤ maxLen) (hlen : (Lib.join ((showW p).map (·.data.toList)) [32]).length ≤ 140737488355328) :
    Calls Tryz.prog 20 #[rPlan.val cs] w (RV (.string (showS p)) w) := by
  have HI := Lib.hid (And.intro hI (And.intro hs hlen))
  obtain ⟨A0, A1, A2, A3, k0, k1, k2, k3, rfl, hrows⟩ := plan_slices h
  have hop : p.op.size ≤ maxLen := by obtain ⟨_, _, _, _, _, _, _, _, _, h⟩ := h; exact h
  have HOp := Lib.hid hop
  have HR := Lib.hid hrows
  have HOk := Lib.hid hok
  rw [rPlan_val]
  obtain ⟨cells, hcells⟩ : ∃ cells, cells = ([Value.string ⟨#[97, 114, 111, 117, 110, 100]⟩, .slice A0 p.ar.length k0, .string ⟨#[98, 101, 102, 111, 114, 101]⟩, .slice A1 p.be.length k1, .string ⟨#[112, 114, 105, 109, 97, 114, 121]⟩, .slice A2 p.pr.length k2, .string ⟨#[97, 102, 116, 101, 114]⟩, .slice A3 p.af.length k3] : List Value) := ⟨_, rfl⟩
  obtain ⟨W0, hW0⟩ : ∃ W, W = (w.alloc (.cells #[.slice A0 p.ar.length k0, .slice A1 p.be.length k1, .slice A2 p.pr.length k2, .slice A3 p.af.length k3, .string p.op] 48)).alloc (.cells #[Value.string ⟨#[97, 114, 111, 117, 110, 100]⟩, .slice A0 p.ar.length k0, .string ⟨#[98, 101, 102, 111, 114, 101]⟩, .slice A1 p.be.length k1, .string ⟨#[112, 114, 105, 109, 97, 114, 121]⟩, .slice A2 p.pr.length k2, .string ⟨#[97, 102, 116, 101, 114]⟩, .slice A3 p.af.length k3] 137) := ⟨_, rfl⟩
  have hB0 : Below w.heap.size w W0 := hW0 ▸ below_more (below_one _ _) _
  have b0 : Box W0 w.heap.size 48 [.slice A0 p.ar.length k0, .slice A1 p.be.length k1, .slice A2 p.pr.length k2, .slice A3 p.af.length k3, .string p.op] := hW0 ▸ (Box.mk_ _ rfl rfl).alloc _
  have b1 : Box W0 (w.heap.size + 1) 137 cells := hW0 ▸ hcells ▸ Box.mk_ _ (by simp) rfl
  have HW0 := Lib.hid hW0
  have HC := Lib.hid hcells
  clear hW0 hcells h hop hrows hok hI hs hlen
  go_enter Tryz.func20, Tryz.ntmps20
  go_wp2
  rw [← HW0.out]
  go_loopw [3, 22] (Show1 p W0) (fun _ vb _ => 4 - (intOf vb).toNat)
  case atStart => exact ⟨0, Nat.zero_le _, rfl, Own.nil _ _ _ _, Nat.zero_le _, Below.refl _ _⟩
  case round =>
    obtain ⟨k, hk, rfl, hO, hwl, hB⟩ := hrel
    by_cases hlt : k < 4
    · obtain ⟨nm, hnm, hcc⟩ := parts_at p hlt
      obtain ⟨hc0, hc1, hns⟩ := hcc (.slice A0 p.ar.length k0) (.slice A1 p.be.length k1) (.slice A2 p.pr.length k2) (.slice A3 p.af.length k3)
      obtain ⟨A, c, hsl, hrow⟩ := HR.out k hlt
      have bx := b1.later hB
      have c0 : wr.cell? ⟨w.heap.size + 1, k * 2, none⟩ = some (.string nm) := bx.cell _ _ (by rw [HC.out]; exact hc0)
      have c1 : wr.cell? ⟨w.heap.size + 1, k * 2 + 1, none⟩ = some (.slice A (planL p k).length c) := bx.cell _ _ (by rw [HC.out]; exact hc1.trans hsl)
      have HW := Lib.hid (words_snoc p hnm)
      have HAll := Lib.hid (fun n (hn : n ∈ planL p k) => planL_all hlt hn)
      have HNs := Lib.hid hns
      have HRow := Lib.hid hrow
      have hpl : (planL p k).length ≤ 100000 := by
        obtain ⟨q0, q1, q2, q3⟩ := HOk.out
        rcases four_cases hlt with rfl | rfl | rfl | rfl
        · exact q0
        · exact q1
        · exact q2
        · exact q3
      have hkn : (k : Int) < 4 := by omega
      clear hnm hcc hc0 hc1 hsl hns hrow bx
      generalize planL p k = L at *
      obtain ⟨ws, hws⟩ : ∃ ws, ws = ((partsS p).take k).flatMap partW := ⟨_, rfl⟩
      rw [← hws] at hO hwl HW
      by_cases hL : L = []
      · subst hL
        have HT : Hid (((partsS p).take (k + 1)).flatMap partW = ws) := Lib.hid (by rw [HW.out, partW, if_pos rfl, List.append_nil])
        have hws2 := Lib.hid hws
        clear hws
        have hl0 : k + 1 ≤ 4 := by omega
        have hx := hO.below (below_one wr (.cells #[.string nm, .slice A 0 c] 137))
        have hy := below_to hB (below_one wr (.cells #[.string nm, .slice A 0 c] 137))
        have HZ := Lib.hid (And.intro hx hy)
        clear hx hy
        go_wp2
        exact ⟨⟨k + 1, hl0, by go_num, HT.out ▸ HZ.out.1, by rw [HT.out]; omega, HZ.out.2⟩, by simp [intOf]; omega⟩
      · have hLl : ¬ L.length = 0 := fun h => hL (List.eq_nil_of_length_eq_zero h)
        have hLb : ((L.length : Int) == 0) = false := by rw [beq_eq_false_iff_ne]; omega
        have HT : Hid (((partsS p).take (k + 1)).flatMap partW = ws ++ (nm :: L.map itoaB)) := Lib.hid (by rw [HW.out, partW, if_neg hL])
        have HBB := Lib.hid (And.intro (show (ws.length + 1) * 16 ≤ 140737488355328 by omega) (show ws.length + 1 ≤ maxLen by unfold maxLen; omega))
        have HWl := Lib.hid hwl
        obtain ⟨W1, hW1⟩ : ∃ W, W = wr.alloc (.cells #[.string nm, .slice A L.length c] 137) := ⟨_, rfl⟩
        have hB1 : Below wr.heap.size wr W1 := hW1 ▸ below_one _ _
        have x1 : Box W1 wr.heap.size 137 [.string nm, .slice A L.length c] := hW1 ▸ Box.mk_ _ rfl rfl
        have hO1 := hO.below hB1
        have hT1 := below_to hB hB1
        have HW1 := Lib.hid hW1
        clear hW1 hws hwl hL
        have d0 := x1.cell 0 _ rfl
        have d1 := x1.cell 1 _ rfl
        have dl := x1.lt
        go_upto_region 6 with fail
        rw [← HW1.out]
        go_wp2_with (first
          | (at_builtin; refine wp_app1 (y := nm) (d := Rp.str) (e := 9) (base := W0.heap.size) (cs := [.string nm]) (t' := 9) rfl _ _ 38 rfl Tryz.underlying38 inf9 rfl (by decide) rfl hO1 rfl rfl ⟨rfl, HNs.out⟩ HBB.out.1 HBB.out.2 hT1.size ?_; intro gA cA w3 hA; have x3 := hA.box hO1 x1 (by decide); have hT3 := hA.step hO1 hT1 (Nat.le_refl _); have g1 := x3.cell 1 _ rfl; have gl := x3.lt)
          | go_in)
        have HO3 := Lib.hid (And.intro hA.own hT3)
        clear hO hO1 hT1 x1 d0 d1 dl hA c0 c1 hB hB1
        go_loopw [3, 38] (Show2 L (ws ++ [nm]) W0) (fun _ vb _ => L.length - (intOf vb).toNat)
        case atStart => exact ⟨0, Nat.zero_le _, rfl, by simpa using HO3.out.1, HO3.out.2⟩
        case round =>
          obtain ⟨j, hj, rfl, hO, hB⟩ := hrel
          have hB9 := below_to hB0 hB
          by_cases hlt2 : j < L.length
          · obtain ⟨i, hi, him⟩ := some_at hlt2
            obtain ⟨ba, oa, cc, hA, hbl, hki, hcell⟩ := Rp.Row_at (Rp.Row_mov (Same.of_below hB9) HRow.out) hi
            subst hA
            obtain ⟨rfl, hio⟩ := hki
            have f0 : wr.cell? ⟨ba, oa + j, none⟩ = some (.int .i64 i) := by have := hcell 0 _ rfl; simpa [Rp.int, Rp.scalar] using this
            have H49 := Lib.hid (HI.out.1 i (HAll.out i him) wr hB9)
            have HSz := Lib.hid (HI.out.2.1 i (HAll.out i him))
            have HTk := Lib.hid (take_snoc_at hi)
            obtain ⟨zs, hzs⟩ : ∃ zs, zs = ws ++ [nm] ++ (L.take j).map itoaB := ⟨_, rfl⟩
            have hzl : zs.length ≤ 1000000 := by
              rw [hzs]
              have h1 := HWl.out
              simp only [List.length_append, List.length_map, List.length_take, List.length_cons, List.length_nil]
              omega
            rw [← hzs] at hO
            have HBB := Lib.hid (And.intro (show (zs.length + 1) * 16 ≤ 140737488355328 by omega) (And.intro (show zs.length + 1 ≤ maxLen by unfold maxLen; omega) hzs))
            have HLT := Lib.hid hlt2
            clear hzs hzl hcell hio hi him
            go_wp2_with (first
              | (go_at_call 49; refine H49.out.mono ?_; rintro e w4 ⟨rfl, hB4⟩; have hO4 := hO.below hB4; have hT4 := below_to hB hB4)
              | (at_builtin; refine wp_app1 (y := itoaB i) (d := Rp.str) (e := 9) (base := W0.heap.size) (cs := [.string (itoaB i)]) (t' := 9) rfl _ _ 38 rfl Tryz.underlying38 inf9 rfl (by decide) rfl hO4 rfl rfl ⟨rfl, HSz.out⟩ HBB.out.1 HBB.out.2.1 hT4.size ?_; intro gA cA w5 hA)
              | go_in)
            go_roundw
            case rel => exact ⟨j + 1, by have := HLT.out; omega, by go_num, by
              have e : ws ++ [nm] ++ (L.take (j + 1)).map itoaB = zs ++ [itoaB i] := by rw [HTk.out, HBB.out.2.2, List.map_append, ← List.append_assoc]; rfl
              rw [e]
              exact hA.own, hA.step hO4 hT4 (Nat.le_refl _)⟩
            case measure => have := HLT.out; simp [intOf]; omega
          · have hj' : j = L.length := by omega
            subst hj'
            have HZ : Hid (Own 9 Rp.str W0.heap.size wr u3 (((partsS p).take (k + 1)).flatMap partW)) := Lib.hid (by rw [HT.out]; rw [List.take_length] at hO; simpa using hO)
            have hlen9 : (ws ++ (nm :: L.map itoaB)).length ≤ 100001 * (k + 1) := by
              have := HWl.out
              simp only [List.length_append, List.length_cons, List.length_map]
              omega
            have HLn := Lib.hid hlen9
            clear hlen9
            go_wp2
            exact ⟨⟨k + 1, by omega, by go_num, HZ.out, by rw [HT.out]; exact HLn.out, hB⟩, by simp [intOf]; omega⟩
    · have hk4 : k = 4 := by omega
      subst hk4
      have hO : Own 9 Rp.str W0.heap.size wr u3 (wordsS p) := hO
      have hwl : (wordsS p).length ≤ 400004 := by have : (((partsS p).take 4).flatMap partW).length = (wordsS p).length := rfl; omega
      have x0 := b0.later hB
      have d4 := x0.cell 4 _ rfl
      have dl := x0.lt
      have hBw := below_to hB0 hB
      have HB := Lib.hid hBw
      obtain ⟨ws, hws⟩ : ∃ ws, ws = wordsS p := ⟨_, rfl⟩
      rw [← hws] at hO hwl
      by_cases hop : p.op = ⟨#[]⟩
      · have e : showW p = ws := by rw [showW, if_pos hop, List.append_nil, hws]
        have H50 := Lib.hid (join50 ws u3 W0.heap.size wr hO (by omega) (by rw [← e]; exact HI.out.2.2))
        have HE : Hid (showS p = ⟨(Lib.join (ws.map (·.data.toList)) [32]).toArray⟩) := Lib.hid (by rw [showS, e])
        rw [hop] at d4
        clear e hws
        go_wp2_with (first
          | (go_at_call 50; refine H50.out.mono ?_; rintro e w4 ⟨rfl, hB4⟩)
          | go_in)
        go_ret
        exact ⟨by rw [HE.out]; rfl, below_to HB.out hB4⟩
      · have e : showW p = ws ++ [⟨#[111, 112, 101, 114, 97, 116, 111, 114]⟩, p.op] := by rw [showW, if_neg hop, hws]
        have HE : Hid (showS p = ⟨(Lib.join (ws.map (·.data.toList) ++ [[111, 112, 101, 114, 97, 116, 111, 114], p.op.data.toList]) [32]).toArray⟩) := Lib.hid (by rw [showS, e, List.map_append]; rfl)
        have HLn : Hid ((Lib.join ((ws ++ [⟨#[111, 112, 101, 114, 97, 116, 111, 114]⟩, p.op]).map (·.data.toList)) [32]).length ≤ 140737488355328) := Lib.hid (by rw [← e]; exact HI.out.2.2)
        have ho1 : p.op.toList ≠ [] := fun h => hop (by
          have := str_beq p.op ⟨#[]⟩
          rw [h] at this
          simpa using this)
        have ho2 : ¬ p.op.toList = [] := ho1
        have ho3 : (p.op.toList == []) = false := by rw [beq_eq_false_iff_ne]; exact ho1
        have ho4 : (p.op.toList != []) = true := by rw [bne, ho3]; rfl
        have ho5 : (!p.op.toList.isEmpty) = true := by simpa using ho1
        have HBB := Lib.hid (And.intro (show (ws.length + 2) * 16 ≤ 140737488355328 by omega) (And.intro (show ws.length + 2 ≤ maxLen by unfold maxLen; omega) (show ws.length + 2 ≤ 1000000 by omega)))
        have hz := hB.size
        clear e hws hop hwl
        go_wp2_with (first
          | (at_builtin; refine wp_app (w := wr.alloc (.cells #[.string ⟨#[111, 112, 101, 114, 97, 116, 111, 114]⟩, .string p.op] 9)) (xs := ws) (ys := [⟨#[111, 112, 101, 114, 97, 116, 111, 114]⟩, p.op]) (d := Rp.str) (e := 9) (base := W0.heap.size) (ad := ⟨wr.heap.size, 0, none⟩) (cs := [.string ⟨#[111, 112, 101, 114, 97, 116, 111, 114]⟩, .string p.op]) rfl _ _ 38 rfl Tryz.underlying38 inf9 rfl (by decide) rfl (hO.alloc _) rfl rfl (two_strs _ _ _ (by decide +kernel) HOp.out) (cells_new wr _ 9) HBB.out.1 HBB.out.2.1 (by simp; omega) ?_; intro v1 w3 hA; have hO3 := hA.own; have hT3 := hA.below (hO.alloc _) (below_more hB _) (Nat.le_refl _) (by simp; omega))
          | (go_at_call 50; refine (join50 _ v1 W0.heap.size w3 hO3 (by rw [List.length_append]; exact HBB.out.2.2) HLn.out).mono ?_; rintro e w4 ⟨rfl, hB4⟩)
          | go_in)
        go_ret
        exact ⟨by rw [HE.out]; rfl, below_to (below_to hB0 hT3) hB4⟩
end Go.Proofs.YtoncaejgflfhhaaGreatDoor
