/- DispatchApart's walk. -/
import Derived.Test.YtoncaejgflfhhaaGreatDoorM46
set_option linter.unusedVariables false
set_option linter.unusedSimpArgs false
namespace Go.Proofs.YtoncaejgflfhhaaGreatDoor
open Go.RowKit

theorem mG_K (w : World) : rMeth.K (w.alloc (.cells #[.bool false, .int .i64 0, .string ⟨#[]⟩] 36)) mG [.slice none 0 0, .slice (some ⟨w.heap.size, 0, none⟩) 1 1, .int .i64 1] :=
  ⟨_, _, rfl, nil_K _ _ _, one_row (d := rSpec) (cs := [.bool false, .int .i64 0, .string ⟨#[]⟩]) ⟨rfl, okZero, Nat.zero_le _⟩ _ rfl, ⟨by decide, by decide⟩⟩
theorem mG_big : bigM mG := ⟨by decide, by decide⟩
theorem showG_call (cs : List Value) (w : World) (h : rPlan.K w planG cs) : Calls Tryz.prog 20 #[rPlan.val cs] w (RV (.string (showS planG)) w) :=
  show20 planG cs w h planG_ok (itoaOk_small (by decide) w) (by decide +kernel) (by decide +kernel)
theorem lS2_ok : okSt lS2 := by
  refine ⟨by decide +kernel, by decide +kernel, ?_⟩
  rw [la0.2.2.2.2.1]
  intro g hg
  have hg : g = ⟨nG, sStd, 1, []⟩ ∨ g = gH [] := by simpa using hg
  rcases hg with rfl | rfl <;> exact ⟨(fun x hx => nomatch hx), by decide⟩
theorem lS3_okFind : okFind lS3 newCS 0 gG [argN 3] := by
  refine ⟨⟨by decide +kernel, by decide +kernel, ?_⟩, newCS_ok, by rw [la0.2.2.2.2.2]; rfl, by decide, by decide, fun m hm => by have := (okM_gG hm).2; omega, by decide +kernel, ?_, by decide⟩
  · rw [la0.2.2.2.2.2]
    intro g hg
    have hg : g = gG ∨ g = gH [] := by simpa using hg
    rcases hg with rfl | rfl
    · exact ⟨fun m hm => (okM_gG hm).big, by decide⟩
    · exact ⟨(fun x hx => nomatch hx), by decide⟩
  · rw [la0.2.2.2.2.2]
    intro p hp
    exact nomatch hp

theorem siz40' : (Tryz.prog.info? 40).map (·.size) = some 3 := by kernel_rfl
/-- At the head of the law's loop. -/
def Law1 (b3 b9 b10 n : Nat) (w : World) (vi : Value) (wr : World) : Prop :=
  ∃ (j : Nat) (s : St), j ≤ n ∧ vi = .int .i64 j ∧ LInv j s ∧ In b3 28 rSt s wr ∧ In b9 44 rCS newCS wr ∧ In b10 48 rPlan planG wr ∧ Below w.heap.size w wr

set_option maxHeartbeats 16000000 in
set_option maxRecDepth 100000 in
theorem law3 (l : List Step) (v : Value) (w : World) (h : sStep.K w l [v]) : Calls Tryz.prog 3 #[v] w (RV (.bool true) w) := by
  have H8 := Lib.hid (fun w' (hb : Below w.heap.size w w') => long8 l v w' (K_below h hb))
  obtain ⟨A, c, hv, _, hml, _, hr⟩ := h
  cases hv
  have HR := Lib.hid hr
  clear hr
  go_enter Tryz.func3, Tryz.ntmps3
  cases hL : longS l with
  | true =>
    rw [hL] at H8
    go_wp2_with (first
      | (go_at_call 7; refine (awake7 _).mono ?_; rintro e w1 ⟨rfl, b1⟩)
      | (go_at_call 8; refine (H8.out _ b1).mono ?_; rintro e w2 ⟨rfl, b2⟩; have t2 := below_to b1 b2)
      | go_in)
    exact bodyPost_ret (v := .bool true) (by simp [results, Tryz.results3, go_sem]) rfl ⟨rfl, below_to t2 b1⟩
  | false =>
    rw [hL] at H8
    go_wp2_with (first
      | (refine wp_box_store rfl 48 _ _ rfl (us := p) rfl rfl xp (by rw [Lp]; exact siz48) (by rw [Lp]; rfl) (rPlan.one kp) ?_; intro wf yp hcf; have yf := hcf.box_ty xe (by decide); have yc2 := hcf.box_ty yce (by decide); have kpf := hcf.K (d := rPlan) rfl kp; have kaf := hcf.K (d := rSt) rfl kae; have kcf := hcf.K (d := rCS) rfl kce; have tf := hcf.below te (Nat.le_trans td.size (Nat.le_refl _)))
      | (refine wp_box_store rfl 28 _ _ rfl (us := a) rfl rfl (xd.alloc (.cells zPlan.toArray 48)) (by rw [La]; exact siz28) (by rw [L3, La]) (rSt.one ka2) ?_; intro we xe hce; have kae := hce.K (d := rSt) rfl (K_below ka2 (below_one wd _)); have kp := hce.K (d := rPlan) rfl (K_below kp1 (below_one wd _)); have kce := hce.K (d := rCS) rfl (K_below kcd (below_one wd _)); have xp := hce.box_ty (Box.mk_ wd (b := wd.heap.size) (cs := zPlan) (t := 48) rfl rfl) (by decide); have yce := hce.box_ty (yd.alloc (.cells zPlan.toArray 48)) (by decide); have te := hce.below (below_more td _) t4.size)
      | (go_at_call 13; refine (find13 lS3 c3 newCS c4 0 gG (some 52) [argN 3] (.slice (some ⟨wc.heap.size, 0, none⟩) 1 1) _ (K_below kxc (below_one _ _)) (K_below kyc (below_one _ _)) (argN_K 3 (okSmall (by decide) (by decide)) wc) lS3_okFind).mono ?_; rintro e wd ⟨kd, a, p, he, ho, ka2, kp1, bd⟩; (have hf := la1' ho); rw [hf] at he ka2 kp1; dsimp only at he ka2 kp1; subst he; clear hf ho; have bbd := below_to (below_one wc _) bd; have xd := xc.later bbd; have yd := yc.later bbd; have kcd := K_below kyc bbd; have td := below_to tc bbd; have La := rSt.len ka2; have Lp := rPlan.len kp1)
      | (refine wp_box_load rfl 28 _ rfl rfl xc Tryz.underlying28 rfl (by rw [L3]; exact siz28) ?_)
      | (refine wp_box_load rfl 44 _ rfl rfl yc Tryz.underlying44 rfl (by rw [L4]; exact siz44) ?_)
      | (go_at_call 7; refine (awake7 _).mono ?_; rintro e w1 ⟨rfl, b1⟩)
      | (go_at_call 8; refine (H8.out _ b1).mono ?_; rintro e w2 ⟨rfl, b2⟩; have t2 := below_to b1 b2)
      | (go_at_call 10; refine (new10 5 _).mono ?_; rintro e w3 ⟨c0, rfl, k0, b3⟩; have t3 := below_to t2 b3)
      | (refine wp_box_store rfl 44 _ _ rfl (us := c4) rfl rfl (Box.mk_ wb (cs := [.slice none 0 0, .slice none 0 0]) rfl rfl) (by rw [L4]; exact siz44) (by rw [L4]; rfl) (rCS.one kb) ?_; intro wc yc hcc; have kyc := hcc.K (d := rCS) rfl (K_below kb (below_one wb _)); have xc := hcc.box_ty (xb.alloc _) (by decide); have kxc := hcc.K (d := rSt) rfl (K_below kxb (below_one wb _)); have tc := hcc.below (below_more tb _) tb.size)
      | (go_at_call 12; refine (new12 _).mono ?_; rintro e wb ⟨c4, rfl, kb, bb⟩; have xb := xa.later bb; have kxb := K_below ka bb; have tb := below_to ta bb; have L4 := rCS.len kb)
      | (refine wp_box_store rfl 28 _ _ rfl (us := c3) rfl rfl x9 (by rw [L3]; exact siz28) (by rw [L2, L3]) (rSt.one k9) ?_; intro wa xa hca; have ka := hca.K (d := rSt) rfl k9; have ta := hca.below t9 t4.size)
      | (go_at_call 11; refine (addMethod11 lS2 c2 0 mG [.slice none 0 0, .slice (some ⟨w7.heap.size, 0, none⟩) 1 1, .int .i64 1] _ (K_below k7 (below_one _ _)) (mG_K w7) lS2_ok mG_big).mono ?_; rw [la0.2.2.1]; rintro e w9 ⟨c3, rfl, k9, b9⟩; have bb9 := below_to (below_one w7 _) b9; have x9 := x7.later bb9; have t9 := below_to t7 bb9; have L3 := rSt.len k9)
      | (refine wp_box_load rfl 28 _ rfl rfl x7 Tryz.underlying28 rfl (by rw [L2]; exact siz28) ?_)
      | (refine wp_box_store rfl 28 _ _ rfl (us := c2) rfl rfl x6 (by rw [L2]; exact siz28) (by rw [L1, L2]) (rSt.one k6) ?_; intro w7 x7 hc7; have k7 := hc7.K (d := rSt) rfl k6; have t7 := hc7.below t6 t4.size; clear x6 x5)
      | (go_at_call 9; refine (ensure9 lS1 c1 nH sStd 1 w5 k5 (by decide) (by decide) (okSmall (by decide) (by decide)) (by decide +kernel) (by decide +kernel)).mono ?_; rw [la0.2.1]; rintro e w6 ⟨c2, rfl, k6, b6⟩; have x6 := x5.later b6; have t6 := below_to t5 b6; have L2 := rSt.len k6)
      | (refine wp_box_load rfl 28 _ rfl rfl x5 Tryz.underlying28 rfl (by rw [L1]; exact siz28) ?_)
      | (refine wp_box_store rfl 28 _ _ rfl (us := c1) rfl rfl (Box.mk_ w4 (cs := zSt) rfl rfl) (by rw [L1]; exact siz28) (by rw [L1]; rfl) (rSt.one k1) ?_; intro w5 x5 hc5; have k5 := hc5.K (d := rSt) rfl (K_below k1 (below_one w4 _)); have t5 := hc5.below (below_more t4 _) t4.size)
      | (go_at_call 9; refine (ensure9 (newS 5) c0 nG sStd 1 w3 k0 (by decide) (by decide) (okSmall (by decide) (by decide)) (by decide) (by decide)).mono ?_; rw [la0.1]; rintro e w4 ⟨c1, rfl, k1, b4⟩; have t4 := below_to t3 b4; have L1 := rSt.len k1)
      | go_in)
    have HN := Lib.hid (And.intro t4.size (And.intro (show w4.heap.size < wb.heap.size from xb.lt) (show wb.heap.size < wd.heap.size from yd.lt)))
    have HST : Hid (Law1 w4.heap.size wb.heap.size wd.heap.size l.length w (.int .i64 0) wf) := Lib.hid ⟨0, lS4, Nat.zero_le _, rfl, linv_start, ⟨a, yf, kaf⟩, ⟨c4, yc2, kcf⟩, ⟨p, yp, kpf⟩, tf⟩
    have HNo : Hid (l.length ≤ 40 ∧ ∀ x ∈ l, tooLong x = false) := Lib.hid (by
      unfold longS at hL
      rw [Bool.or_eq_false_iff] at hL
      refine ⟨by have := of_decide_eq_false hL.1; omega, fun x hx => ?_⟩
      cases hx2 : tooLong x with
      | false => rfl
      | true => exact absurd (List.any_eq_true.2 ⟨x, hx, hx2⟩) (by rw [hL.2]; simp))
    clear b1 b2 b3 b4 b6 b9 bb bd t2 t3 t4 t5 t6 t7 t9 ta tb tc td te tf k0 k1 k5 k6 k7 k9 ka kb kxb kxc kyc kcd kae kaf kce kcf kp kpf ka2 kp1 x7 x9 xa xb xc xd xe xp yc yd yce yf yp yc2 hc5 hc7 hca hcc hce hcf bb9 bbd L1 L2 L3 L4 La Lp hL
    go_loopw [81] (Law1 w4.heap.size wb.heap.size wd.heap.size l.length w) (fun vi _ => l.length - (intOf vi).toNat)
    case atStart => exact HST.out
    case round =>
      obtain ⟨j, s, hj, rfl, hI, ⟨cs, xs, ks⟩, ⟨cc, xc, kc⟩, ⟨cp, xp, kp⟩, hB⟩ := hrel
      by_cases hlt : j < l.length
      · obtain ⟨x, hx, _⟩ := some_at hlt
        obtain ⟨b, off, rcs, hA, hbl, hk, hcell⟩ := Rp.Row_at (Rp.Row_mov (Same.of_below hB) HR.out) hx
        subst hA
        obtain ⟨a1, a2, q, sp, o, r, rfl, k1, k2, k3, k4, kg, k9, k10⟩ := hk
        obtain ⟨A1, n1, rfl⟩ := slice_form k3
        obtain ⟨A2, n2, rfl⟩ := slice_form k4
        obtain ⟨q', s', o', hg, k5, k6, k7, k8⟩ := id kg
        cases hg
        obtain ⟨A3, n3, rfl⟩ := slice_form k5
        obtain ⟨A4, n4, rfl⟩ := slice_form k6
        obtain ⟨A5, n5, rfl⟩ := slice_form k7
        obtain ⟨A6, n6, rfl⟩ := slice_form k9
        have c0 : wr.cell? ⟨b, off + j * 12, none⟩ = some (.int .u8 x.kind) := hcell 0 _ rfl
        have c1 : wr.cell? ⟨b, off + j * 12 + 1, none⟩ = some (.int .u8 x.gen) := hcell 1 _ rfl
        have c2 : wr.cell? ⟨b, off + j * 12 + 2, none⟩ = some (.int .u8 x.cname) := hcell 2 _ rfl
        have c3 : wr.cell? ⟨b, off + j * 12 + 3, none⟩ = some (.slice A1 x.supers.length n1) := hcell 3 _ rfl
        have c4 : wr.cell? ⟨b, off + j * 12 + 4, none⟩ = some (.slice A2 x.slots.length n2) := hcell 4 _ rfl
        have c5 : wr.cell? ⟨b, off + j * 12 + 5, none⟩ = some (.int .u8 x.odd) := hcell 5 _ rfl
        have c6 : wr.cell? ⟨b, off + j * 12 + 6, none⟩ = some (.slice A3 x.made.quals.length n3) := hcell 6 _ rfl
        have c7 : wr.cell? ⟨b, off + j * 12 + 7, none⟩ = some (.slice A4 x.made.specs.length n4) := hcell 7 _ rfl
        have c8 : wr.cell? ⟨b, off + j * 12 + 8, none⟩ = some (.slice A5 x.made.objs.length n5) := hcell 8 _ rfl
        have c9 : wr.cell? ⟨b, off + j * 12 + 9, none⟩ = some (.int .i64 x.made.fn) := hcell 9 _ rfl
        have c10 : wr.cell? ⟨b, off + j * 12 + 10, none⟩ = some (.slice A6 x.args.length n6) := hcell 10 _ rfl
        have c11 : wr.cell? ⟨b, off + j * 12 + 11, none⟩ = some (.int .i64 x.flush) := hcell 11 _ rfl
        have hno := HNo.out.2 x (List.mem_of_getElem? hx)
        have HX : Hid (x.made.quals.length ≤ 3 ∧ x.made.specs.length ≤ 9 ∧ x.args.length ≤ 6) := Lib.hid (by unfold tooLong at hno; simp at hno; omega)
        have HKG := Lib.hid (And.intro kg (And.intro k9 k1))
        have HLT := Lib.hid hlt
        have HO5 : Hid (x.made.objs.length ≤ 9223372036854775807) := Lib.hid (by obtain ⟨_, _, h1, _, h2, _⟩ := k7; cases h1; unfold maxLen at h2; omega)
        clear hcell k2 k3 k4 k5 k6 k7 k8 k9 k10 kg hno hx k1
        obtain ⟨W1, hW1⟩ : ∃ W, W = wr.alloc (.cells #[.int .u8 x.kind, .int .u8 x.gen, .int .u8 x.cname, .slice A1 x.supers.length n1, .slice A2 x.slots.length n2, .int .u8 x.odd, .slice A3 x.made.quals.length n3, .slice A4 x.made.specs.length n4, .slice A5 x.made.objs.length n5, .int .i64 x.made.fn, .slice A6 x.args.length n6, .int .i64 x.flush] 61) := ⟨_, rfl⟩
        have bX1 : Below wr.heap.size wr W1 := hW1 ▸ below_one _ _
        have x1 : Box W1 wr.heap.size 61 [.int .u8 x.kind, .int .u8 x.gen, .int .u8 x.cname, .slice A1 x.supers.length n1, .slice A2 x.slots.length n2, .int .u8 x.odd, .slice A3 x.made.quals.length n3, .slice A4 x.made.specs.length n4, .slice A5 x.made.objs.length n5, .int .i64 x.made.fn, .slice A6 x.args.length n6, .int .i64 x.flush] := hW1 ▸ Box.mk_ _ rfl rfl
        have HW1 := Lib.hid hW1
        clear hW1
        go_upto_region 13 with fail
        rw [← HW1.out]
        clear c0 c1 c2 c3 c4 c5 c6 c7 c8 c9 c10 c11
        have d10 := x1.cell 10 _ rfl
        have d10l := x1.lt
        go_upto_region 15 with (first
          | (go_at_call 14; refine (args14 none x.args _ _ (K_below HKG.out.2.1 bX1) (by have := HX.out; omega)).mono ?_; rintro e w2 ⟨v1, v2, rfl, hO1, _, b2⟩; have bX2 := below_to bX1 b2; have x2 := x1.later b2; have d6 := x2.cell 6 _ rfl; have d7 := x2.cell 7 _ rfl; have d8 := x2.cell 8 _ rfl; have d9 := x2.cell 9 _ rfl; clear d10 d10l; have d2l := x2.lt)
          | (go_at_call 16; refine (made16 x.made _ sStd _ (K_below HKG.out.1 bX2) (by decide) (by have := HX.out; omega) (by have := HX.out; omega) HO5.out).mono ?_; rintro e w3 ⟨cm, rfl, km, b3⟩; have bX3 := below_to bX2 b3; have x3 := x2.later b3; have oa3 := K_below hO1.read b3; clear d6 d7 d8 d9 d2l)
          | (go_at_call 15; refine (method15 (madeS x.made sStd) cm _ km (by have := HX.out; simp [madeS]; omega) (by have := HX.out; simp [madeS]; omega)).mono ?_; rintro e w4' ⟨cn, rfl, kn, b4⟩; have bX4 := below_to bX3 b4; have x4 := x3.later b4; have oa4 := K_below oa3 b4; have Ln := rMeth.len kn)
          | (refine wp_box_store rfl 40 _ _ rfl (us := cn) rfl rfl (Box.mk_ w4' (cs := [.slice none 0 0, .slice none 0 0, .int .i64 0]) rfl rfl) (by rw [Ln]; exact siz40') (by rw [Ln]; rfl) (rMeth.one kn) ?_; intro w5 xm hc5; have bX5 := hc5.below (below_more bX4 _) bX4.size; have kn5 := hc5.K (d := rMeth) rfl (K_below kn (below_one w4' _)); have oa5 := hc5.K (d := Rp.slice (some 52) rArg) rfl (K_below oa4 (below_one w4' _)); have x5 := hc5.box_ty (x4.alloc _) (by decide))
          | go_in)
        obtain ⟨m, hmd⟩ : ∃ m, m = madeS x.made sStd := ⟨_, rfl⟩
        have HM : Hid (okM m) := Lib.hid (by rw [hmd]; have := HX.out; exact ⟨by simp [madeS]; omega, by simp [madeS]; omega⟩)
        have HA : Hid ((argsS x.args).length ≤ 1000) := Lib.hid (by have := HX.out; simp [argsS]; omega)
        have HJ : Hid (j ≤ 40) := Lib.hid (by have := HNo.out.1; have := HLT.out; omega)
        have HB3 : Hid (w4.heap.size < wr.heap.size) := Lib.hid xs.lt
        rw [← hmd] at kn5
        have hB5 := below_to hB bX5
        have xs5 := xs.later bX5
        have ks5 := K_below ks bX5
        have xc5 := xc.later bX5
        have kc5 := K_below kc bX5
        have xp5 := xp.later bX5
        have kp5 := K_below kp bX5
        have Ls := rSt.len ks5
        have Lc := rCS.len kc5
        have HI := Lib.hid hI
        have d0 := x5.cell 0 _ rfl
        have hk1 : okByte x.kind := HKG.out.2.2
        obtain ⟨hk1, hk2⟩ := hk1
        have hk1 : 0 ≤ x.kind := hk1
        have hk2 : x.kind ≤ 255 := hk2
        have htm : Int.tmod x.kind 4 = x.kind % 4 := Int.tmod_eq_emod_of_nonneg hk1
        obtain ⟨kk, hkk⟩ : ∃ kk, kk = x.kind % 4 := ⟨_, rfl⟩
        rw [← hkk] at htm
        have hj40 : j < 40 := by have := HNo.out.1; have := HLT.out; omega
        have hkr : kk = 0 ∨ kk = 1 ∨ kk = 2 ∨ kk = 3 := by omega
        clear hmd hB xs ks xc kc xp kp bX1 bX2 bX3 bX4 km kn hc5 hI hkk x1 x2 x3 x4 b2 b3 b4 hO1 oa3 oa4
        have LK := rMeth.len kn5
        rcases hkr with rfl | rfl | rfl | rfl
        · obtain ⟨q, hq⟩ : ∃ q, q = addMethodS s 1 m := ⟨_, rfl⟩
          have HQ := Lib.hid (addMethod11 s cs 1 m cn w5 ks5 kn5 (HI.out.ok HJ.out) HM.out.big)
          rw [← hq] at HQ
          by_cases hz : q.2 = 0
          · have HIE : Hid (LInv (j + 1) q.1) := Lib.hid (by rw [hq] at hz ⊢; exact linv_add HI.out HM.out hz)
            clear hq
            go_upto_region 27 with (first
              | (refine wp_box_store rfl 28 _ _ rfl (us := c6) rfl rfl xs7 (by rw [L6]; exact siz28) (by rw [Ls, L6]) (rSt.one k7) ?_; intro w8 xs8 hc8; have ks8 := hc8.K (d := rSt) rfl k7; have xc8 := hc8.box_ty xc7 (by decide); have kc8 := hc8.K (d := rCS) rfl kc7; have xp8 := hc8.box_ty xp7 (by decide); have kp8 := hc8.K (d := rPlan) rfl kp7; have hB8 := hc8.below hB7 HN.out.1)
              | (refine wp_box_load rfl 28 _ rfl rfl x7 Tryz.underlying28 rfl (by rw [L6]; exact siz28) ?_)
              | (refine wp_box_store rfl 28 _ _ rfl (us := c6) rfl rfl (Box.mk_ w6 (cs := zSt) rfl rfl) (by rw [L6]; exact siz28) (by rw [L6]; rfl) (rSt.one k6) ?_; intro w7 x7 hc7; (have bb7 := hc7.below (below_more b6 (.cells zSt.toArray 28)) b6.size); have k7 := hc7.K (d := rSt) rfl (K_below k6 (below_one w6 _)); have xs7 := xs5.later bb7; have ks7 := K_below ks5 bb7; have xc7 := xc5.later bb7; have kc7 := K_below kc5 bb7; have xp7 := xp5.later bb7; have kp7 := K_below kp5 bb7; have hB7 := below_to hB5 bb7)
              | (go_at_call 11; refine HQ.out.mono ?_; rintro e w6 ⟨c6, he, k6, b6⟩; subst he; have L6 := rSt.len k6; clear d0)
              | (refine wp_box_load rfl 28 _ rfl rfl xs5 Tryz.underlying28 rfl (by rw [Ls]; exact siz28) ?_)
              | (refine wp_box_load rfl 40 _ rfl rfl xm Tryz.underlying40 rfl (by rw [LK]; exact siz40') ?_)
              | go_in)
            have LsE := rSt.len ks8
            have HOne := Lib.hid (LInv.one HIE.out)
            go_wp2_with (first
              | (refine wp_box_load rfl 28 _ rfl rfl xs8 Tryz.underlying28 rfl (by rw [LsE]; exact siz28) ?_)
              | (go_at_call 19; refine (entries19 _ _ 0 _ ks8).mono ?_; rw [HOne.out]; rintro e wz ⟨rfl, bz⟩)
              | go_in)
            go_roundw
            case rel => exact ⟨j + 1, _, HLT.out, by go_num, HIE.out, ⟨_, xs8.later bz, K_below ks8 bz⟩, ⟨_, xc8.later bz, K_below kc8 bz⟩, ⟨_, xp8.later bz, K_below kp8 bz⟩, below_to hB8 bz⟩
            case measure => have := HLT.out; simp [intOf]; omega
          · have HIE : Hid (LInv (j + 1) s) := Lib.hid HI.out.more
            have hzb : (q.2 == 0) = false := by simpa using hz
            clear hq
            go_upto_region 27 with (first
              | (refine wp_box_store rfl 28 _ _ rfl (us := c6) rfl rfl (Box.mk_ w6 (cs := zSt) rfl rfl) (by rw [L6]; exact siz28) (by rw [L6]; rfl) (rSt.one k6) ?_; intro w7 x7 hc7; (have bb7 := hc7.below (below_more b6 (.cells zSt.toArray 28)) b6.size); have k7 := hc7.K (d := rSt) rfl (K_below k6 (below_one w6 _)); have xs7 := xs5.later bb7; have ks7 := K_below ks5 bb7; have xc7 := xc5.later bb7; have kc7 := K_below kc5 bb7; have xp7 := xp5.later bb7; have kp7 := K_below kp5 bb7; have hB7 := below_to hB5 bb7)
              | (go_at_call 11; refine HQ.out.mono ?_; rintro e w6 ⟨c6, he, k6, b6⟩; subst he; have L6 := rSt.len k6; clear d0)
              | (refine wp_box_load rfl 28 _ rfl rfl xs5 Tryz.underlying28 rfl (by rw [Ls]; exact siz28) ?_)
              | (refine wp_box_load rfl 40 _ rfl rfl xm Tryz.underlying40 rfl (by rw [LK]; exact siz40') ?_)
              | go_in)
            have LsE := rSt.len ks7
            have HOne := Lib.hid (LInv.one HIE.out)
            go_wp2_with (first
              | (refine wp_box_load rfl 28 _ rfl rfl xs7 Tryz.underlying28 rfl (by rw [LsE]; exact siz28) ?_)
              | (go_at_call 19; refine (entries19 _ _ 0 _ ks7).mono ?_; rw [HOne.out]; rintro e wz ⟨rfl, bz⟩)
              | go_in)
            go_roundw
            case rel => exact ⟨j + 1, _, HLT.out, by go_num, HIE.out, ⟨_, xs7.later bz, K_below ks7 bz⟩, ⟨_, xc7.later bz, K_below kc7 bz⟩, ⟨_, xp7.later bz, K_below kp7 bz⟩, below_to hB7 bz⟩
            case measure => have := HLT.out; simp [intOf]; omega
        · obtain ⟨mq, msp, rfl, kq, ksp, _⟩ := id kn5
          obtain ⟨Aq, nq, rfl⟩ := slice_form kq
          obtain ⟨As, ns, rfl⟩ := slice_form ksp
          have m0 := xm.cell 0 _ rfl
          have m1 := xm.cell 1 _ rfl
          have ml := xm.lt
          obtain ⟨q, hq⟩ : ∃ q, q = removeMethodS s 1 m.quals m.specs := ⟨_, rfl⟩
          have HQ := Lib.hid (removeMethod17 s cs 1 (some 9) (some 36) m.quals m.specs _ _ w5 ks5 kq ksp (HI.out.ok HJ.out))
          rw [← hq] at HQ
          by_cases hz : q.2 = 0
          · have HIE : Hid (LInv (j + 1) q.1) := Lib.hid (by rw [hq] at hz ⊢; exact linv_rem HI.out hz)
            clear hq
            go_upto_region 27 with (first
              | (refine wp_box_store rfl 28 _ _ rfl (us := c6) rfl rfl xs7 (by rw [L6]; exact siz28) (by rw [Ls, L6]) (rSt.one k7) ?_; intro w8 xs8 hc8; have ks8 := hc8.K (d := rSt) rfl k7; have xc8 := hc8.box_ty xc7 (by decide); have kc8 := hc8.K (d := rCS) rfl kc7; have xp8 := hc8.box_ty xp7 (by decide); have kp8 := hc8.K (d := rPlan) rfl kp7; have hB8 := hc8.below hB7 HN.out.1)
              | (refine wp_box_load rfl 28 _ rfl rfl x7 Tryz.underlying28 rfl (by rw [L6]; exact siz28) ?_)
              | (refine wp_box_store rfl 28 _ _ rfl (us := c6) rfl rfl (Box.mk_ w6 (cs := zSt) rfl rfl) (by rw [L6]; exact siz28) (by rw [L6]; rfl) (rSt.one k6) ?_; intro w7 x7 hc7; (have bb7 := hc7.below (below_more b6 (.cells zSt.toArray 28)) b6.size); have k7 := hc7.K (d := rSt) rfl (K_below k6 (below_one w6 _)); have xs7 := xs5.later bb7; have ks7 := K_below ks5 bb7; have xc7 := xc5.later bb7; have kc7 := K_below kc5 bb7; have xp7 := xp5.later bb7; have kp7 := K_below kp5 bb7; have hB7 := below_to hB5 bb7)
              | (go_at_call 17; refine HQ.out.mono ?_; rintro e w6 ⟨c6, he, k6, b6⟩; subst he; have L6 := rSt.len k6; clear d0 m0 m1 ml)
              | (refine wp_box_load rfl 28 _ rfl rfl xs5 Tryz.underlying28 rfl (by rw [Ls]; exact siz28) ?_)
              | go_in)
            have LsE := rSt.len ks8
            have HOne := Lib.hid (LInv.one HIE.out)
            go_wp2_with (first
              | (refine wp_box_load rfl 28 _ rfl rfl xs8 Tryz.underlying28 rfl (by rw [LsE]; exact siz28) ?_)
              | (go_at_call 19; refine (entries19 _ _ 0 _ ks8).mono ?_; rw [HOne.out]; rintro e wz ⟨rfl, bz⟩)
              | go_in)
            go_roundw
            case rel => exact ⟨j + 1, _, HLT.out, by go_num, HIE.out, ⟨_, xs8.later bz, K_below ks8 bz⟩, ⟨_, xc8.later bz, K_below kc8 bz⟩, ⟨_, xp8.later bz, K_below kp8 bz⟩, below_to hB8 bz⟩
            case measure => have := HLT.out; simp [intOf]; omega
          · have HIE : Hid (LInv (j + 1) s) := Lib.hid HI.out.more
            have hzb : (q.2 == 0) = false := by simpa using hz
            clear hq
            go_upto_region 27 with (first
              | (refine wp_box_store rfl 28 _ _ rfl (us := c6) rfl rfl (Box.mk_ w6 (cs := zSt) rfl rfl) (by rw [L6]; exact siz28) (by rw [L6]; rfl) (rSt.one k6) ?_; intro w7 x7 hc7; (have bb7 := hc7.below (below_more b6 (.cells zSt.toArray 28)) b6.size); have k7 := hc7.K (d := rSt) rfl (K_below k6 (below_one w6 _)); have xs7 := xs5.later bb7; have ks7 := K_below ks5 bb7; have xc7 := xc5.later bb7; have kc7 := K_below kc5 bb7; have xp7 := xp5.later bb7; have kp7 := K_below kp5 bb7; have hB7 := below_to hB5 bb7)
              | (go_at_call 17; refine HQ.out.mono ?_; rintro e w6 ⟨c6, he, k6, b6⟩; subst he; have L6 := rSt.len k6; clear d0 m0 m1 ml)
              | (refine wp_box_load rfl 28 _ rfl rfl xs5 Tryz.underlying28 rfl (by rw [Ls]; exact siz28) ?_)
              | go_in)
            have LsE := rSt.len ks7
            have HOne := Lib.hid (LInv.one HIE.out)
            go_wp2_with (first
              | (refine wp_box_load rfl 28 _ rfl rfl xs7 Tryz.underlying28 rfl (by rw [LsE]; exact siz28) ?_)
              | (go_at_call 19; refine (entries19 _ _ 0 _ ks7).mono ?_; rw [HOne.out]; rintro e wz ⟨rfl, bz⟩)
              | go_in)
            go_roundw
            case rel => exact ⟨j + 1, _, HLT.out, by go_num, HIE.out, ⟨_, xs7.later bz, K_below ks7 bz⟩, ⟨_, xc7.later bz, K_below kc7 bz⟩, ⟨_, xp7.later bz, K_below kp7 bz⟩, below_to hB7 bz⟩
            case measure => have := HLT.out; simp [intOf]; omega
        · obtain ⟨q, hq⟩ : ∃ q, q = flushS s 1 := ⟨_, rfl⟩
          have HQ := Lib.hid (flush18 s cs 1 w5 ks5 (HI.out.ok HJ.out).gens (HI.out.ok HJ.out).caches)
          have HIE : Hid (LInv (j + 1) q) := Lib.hid (by rw [hq]; exact linv_flush HI.out)
          rw [← hq] at HQ
          clear hq
          go_upto_region 27 with (first
            | (refine wp_box_store rfl 28 _ _ rfl (us := c6) rfl rfl xs6 (by rw [L6]; exact siz28) (by rw [Ls, L6]) (rSt.one k6) ?_; intro w8 xs8 hc8; have ks8 := hc8.K (d := rSt) rfl k6; have xc8 := hc8.box_ty xc6 (by decide); have kc8 := hc8.K (d := rCS) rfl kc6; have xp8 := hc8.box_ty xp6 (by decide); have kp8 := hc8.K (d := rPlan) rfl kp6'; have hB8 := hc8.below hB6 HN.out.1)
            | (go_at_call 18; refine HQ.out.mono ?_; rintro e w6 ⟨c6, he, k6, b6⟩; subst he; have L6 := rSt.len k6; have xs6 := xs5.later b6; have xc6 := xc5.later b6; have kc6 := K_below kc5 b6; have xp6 := xp5.later b6; have kp6' := K_below kp5 b6; have hB6 := below_to hB5 b6; clear d0)
            | (refine wp_box_load rfl 28 _ rfl rfl xs5 Tryz.underlying28 rfl (by rw [Ls]; exact siz28) ?_)
            | go_in)
          have LsE := rSt.len ks8
          have HOne := Lib.hid (LInv.one HIE.out)
          go_wp2_with (first
            | (refine wp_box_load rfl 28 _ rfl rfl xs8 Tryz.underlying28 rfl (by rw [LsE]; exact siz28) ?_)
            | (go_at_call 19; refine (entries19 _ _ 0 _ ks8).mono ?_; rw [HOne.out]; rintro e wz ⟨rfl, bz⟩)
            | go_in)
          go_roundw
          case rel => exact ⟨j + 1, _, HLT.out, by go_num, HIE.out, ⟨_, xs8.later bz, K_below ks8 bz⟩, ⟨_, xc8.later bz, K_below kc8 bz⟩, ⟨_, xp8.later bz, K_below kp8 bz⟩, below_to hB8 bz⟩
          case measure => have := HLT.out; simp [intOf]; omega
        · obtain ⟨ms, hok, hnx⟩ := HI.out.find1 HJ.out HA.out
          have HQ := Lib.hid (And.intro (find13 s cs newCS cc 1 (gH ms) (some 52) (argsS x.args) v1 w5 ks5 kc5 oa5 hok) hnx)
          clear hok hnx
          go_upto_region 27 with (first
            | (refine wp_box_store rfl 28 _ _ rfl (us := c6) rfl rfl xs6 (by rw [L6]; exact siz28) (by rw [Ls, L6]) (rSt.one k6) ?_; intro w8 xs8 hc8; have ks8 := hc8.K (d := rSt) rfl k6; have xc8 := hc8.box_ty xc6 (by decide); have kc8 := hc8.K (d := rCS) rfl kc6; have xp8 := hc8.box_ty xp6 (by decide); have kp8 := hc8.K (d := rPlan) rfl kp6'; have hB8 := hc8.below hB6 HN.out.1)
            | (go_at_call 13; refine HQ.out.1.mono ?_; rintro e w6 ⟨kd, c6, p6, he, ho, k6, kp6, b6⟩; (obtain ⟨q, hq⟩ : ∃ q, q = findS s newCS 1 (gH ms) (argsS x.args) kd := ⟨_, rfl⟩); (have HIE := Lib.hid (HQ.out.2 kd)); rw [← hq] at he k6 kp6 HIE; subst he; clear hq ho kp6; have L6 := rSt.len k6; have xs6 := xs5.later b6; have xc6 := xc5.later b6; have kc6 := K_below kc5 b6; have xp6 := xp5.later b6; have kp6' := K_below kp5 b6; have hB6 := below_to hB5 b6; clear d0)
            | (refine wp_box_load rfl 28 _ rfl rfl xs5 Tryz.underlying28 rfl (by rw [Ls]; exact siz28) ?_)
            | (refine wp_box_load rfl 44 _ rfl rfl xc5 Tryz.underlying44 rfl (by rw [Lc]; exact siz44) ?_)
            | go_in)
          have LsE := rSt.len ks8
          have HOne := Lib.hid (LInv.one HIE.out)
          go_wp2_with (first
            | (refine wp_box_load rfl 28 _ rfl rfl xs8 Tryz.underlying28 rfl (by rw [LsE]; exact siz28) ?_)
            | (go_at_call 19; refine (entries19 _ _ 0 _ ks8).mono ?_; rw [HOne.out]; rintro e wz ⟨rfl, bz⟩)
            | go_in)
          go_roundw
          case rel => exact ⟨j + 1, _, HLT.out, by go_num, HIE.out, ⟨_, xs8.later bz, K_below ks8 bz⟩, ⟨_, xc8.later bz, K_below kc8 bz⟩, ⟨_, xp8.later bz, K_below kp8 bz⟩, below_to hB8 bz⟩
          case measure => have := HLT.out; simp [intOf]; omega
      · have hje : j ≤ 40 := by have := HNo.out.1; omega
        have HF := Lib.hid (hI.last hje)
        obtain ⟨sg, sc, rfl, _⟩ := id ks
        have f1 := xs.cell 1 _ rfl
        have fl := xs.lt
        have Lc := rCS.len kc
        have hh0 : 0 ≤ s.hits ∧ s.hits ≤ j + 1 := ⟨hI.nums.1, hI.nums.2.1⟩
        clear hI
        go_upto_region 32 with (first
          | (refine wp_box_store rfl 48 _ _ rfl (us := p6) rfl rfl xp8 (by rw [Lp6]; exact siz48) (by rw [Lp6]; rfl) (rPlan.one kp8) ?_; intro w9 xp9 hc9; have xs9 := hc9.box_ty xs8 (by decide); have kp9 := hc9.K (d := rPlan) rfl kp8; have ks9 := hc9.K (d := rSt) rfl ks8; have bb9 := hc9.below bb8 (by have := b6.size; have := (below_one wr (.cells #[.int .i64 3, .string ⟨#[]⟩] 52)).size; omega))
          | (refine wp_box_store rfl 28 _ _ rfl (us := c6) rfl rfl ((Box.mk_ w6 (cs := zSt) rfl rfl).alloc (.cells zPlan.toArray 48)) (by rw [L6]; exact siz28) (by rw [L6]; rfl) (rSt.one k6) ?_; intro w8 xs8 hc8; have xp8 := hc8.box_ty (Box.mk_ (w6.alloc (.cells zSt.toArray 28)) (b := w6.heap.size + 1) (cs := zPlan) (t := 48) (by simp) rfl) (by decide); have bb8 := hc8.below (below_more (below_more bb6 _) _) bb6.size; have kp8 := hc8.K (d := rPlan) rfl (K_below kp6 (below_more (below_one w6 _) _)); have ks8 := hc8.K (d := rSt) rfl (K_below k6 (below_more (below_one w6 _) _)))
          | (go_at_call 13; refine (find13 s _ newCS cc 0 gG (some 52) [argN 3] (.slice (some ⟨wr.heap.size, 0, none⟩) 1 1) _ (K_below ks (below_one _ _)) (K_below kc (below_one _ _)) (argN_K 3 (okSmall (by decide) (by decide)) wr) HF.out.1).mono ?_; rintro e w6 ⟨kd, c6, p6, he, ho, k6, kp6, b6⟩; (obtain ⟨q, hq⟩ : ∃ q, q = findS s newCS 0 gG [argN 3] kd := ⟨_, rfl⟩); (have HQ := HF.out.2 kd); rw [← hq] at he k6 kp6 HQ; (obtain ⟨h1, h2⟩ := HQ); rw [h2] at he kp6; dsimp only at he kp6; subst he; clear hq ho h2; have L6 := rSt.len k6; have Lp6 := rPlan.len kp6; have bb6 := below_to (below_one wr _) b6)
          | (refine wp_box_load rfl 28 _ rfl rfl xs Tryz.underlying28 rfl siz28 ?_)
          | (refine wp_box_load rfl 44 _ rfl rfl xc Tryz.underlying44 rfl (by rw [Lc]; exact siz44) ?_)
          | go_in)
        have xq9 := xp.later bb9
        have kq9 := K_below kp bb9
        obtain ⟨qg, qc, rfl, _⟩ := id ks9
        obtain ⟨p0, p1, p2, p3, rfl, _⟩ := id kp9
        obtain ⟨r0, r1, r2, r3, rfl, _⟩ := id kq9
        have g1 := xs9.cell 1 _ rfl
        have gl := xs9.lt
        rw [h1] at g1
        obtain ⟨e0, e1, e2, e3, e4, ef, el⟩ := xp9.five
        obtain ⟨i0, i1, i2, i3, i4, if_, il⟩ := xq9.five
        have hw : IntKind.i64.wrap (s.hits + 1) = s.hits + 1 := IntWalk.i64_in _ (by omega)
        go_region_held3 (fun w' => w'.cell? ⟨w6.heap.size, 1, none⟩ = some (.int .i64 (s.hits + 1)) ∧ w'.cell? ⟨w6.heap.size + 1, 0, none⟩ = some p0 ∧ w'.cell? ⟨w6.heap.size + 1, 1, none⟩ = some p1 ∧ w'.cell? ⟨w6.heap.size + 1, 2, none⟩ = some p2 ∧ w'.cell? ⟨w6.heap.size + 1, 3, none⟩ = some p3 ∧ w'.cell? ⟨w6.heap.size + 1, 4, none⟩ = some (.string planG.op) ∧ w'.cell? ⟨wd.heap.size, 0, none⟩ = some r0 ∧ w'.cell? ⟨wd.heap.size, 1, none⟩ = some r1 ∧ w'.cell? ⟨wd.heap.size, 2, none⟩ = some r2 ∧ w'.cell? ⟨wd.heap.size, 3, none⟩ = some r3 ∧ w'.cell? ⟨wd.heap.size, 4, none⟩ = some (.string planG.op))
          (go_keep)
          (first
            | (go_at_call 20; refine (showG_call [p0, p1, p2, p3, .string planG.op] wA (K_below kp9 bbA)).mono ?_; rintro e wB ⟨rfl, bB⟩; have bbB := below_to bbA bB; have gB := (xs9.later bbB).cell 1 _ rfl; rw [h1] at gB; obtain ⟨eB0, eB1, eB2, eB3, eB4, eBf, eBl⟩ := (xp9.later bbB).five; obtain ⟨iB0, iB1, iB2, iB3, iB4, iBf, iBl⟩ := (xq9.later bbB).five)
            | (go_at_call 20; refine (showG_call [r0, r1, r2, r3, .string planG.op] w9.drew (K_below kq9 (below_drew w9))).mono ?_; rintro e wA ⟨rfl, bA⟩; have bbA := below_to (below_drew w9) bA; have gA := (xs9.later bbA).cell 1 _ rfl; rw [h1] at gA; obtain ⟨eA0, eA1, eA2, eA3, eA4, eAf, eAl⟩ := (xp9.later bbA).five; obtain ⟨iA0, iA1, iA2, iA3, iA4, iAf, iAl⟩ := (xq9.later bbA).five))
        go_wp2_with fail
        exact bodyPost_ret (v := .bool true) (by simp [results, Tryz.results3, go_sem]) rfl ⟨rfl, below_to (below_to hB bb9) bbB⟩
end Go.Proofs.YtoncaejgflfhhaaGreatDoor
