/- class's precedence: the walk. -/
import Derived.Test.YtoncaejgflfhhaaGreatDoorM14
set_option linter.unusedVariables false
set_option linter.unusedSimpArgs false
namespace Go.Proofs.YtoncaejgflfhhaaGreatDoor
open Go.RowKit Go.Shelf
attribute [local go_sem] Oper.semAt_some

/-- Q, where nothing panics. -/
def calm (Q : Exit → Act → World → Prop) : Exit → Act → World → Prop
  | .panic _, _, _ => False
  | .outgrown, _, _ => False
  | .normal, a, w => Q .normal a w
  | .ret, a, w => Q .ret a w
  | .exit i, a, w => Q (.exit i) a w
  | .goto l, a, w => Q (.goto l) a w
theorem wp_calm {P : Program} {c : Code} {Q : Exit → Act → World → Prop} {a : Act} {w : World} (h : c.wp P (calm Q) a w) : c.wp P Q a w :=
  wp_mono h fun e a w hq => by cases e <;> first | exact hq | exact hq.elim
/-- precedence's frame: what its first ten temporaries hold. -/
def Fr85 (v0 v1 v2 v4 v5 v6 v7 v8 v9 : Value) (a : Act) : Prop := ∃ (g : Nat → Value) (D : List Deferred), a = { tmps := #[v0, v1, v2, undef, v4, v5, v6, v7, v8, v9, g 10, g 11, g 12, g 13, g 14, g 15, g 16, g 17, g 18, g 19, g 20, g 21, g 22, g 23, g 24, g 25, g 26, g 27, g 28, g 29, g 30, g 31, g 32, g 33, g 34, g 35, g 36, g 37, g 38, g 39, g 40, g 41, g 42, g 43, g 44, g 45, g 46, g 47, g 48, g 49, g 50, g 51, g 52, g 53, g 54, g 55, g 56, g 57, g 58, g 59, g 60, g 61, g 62, g 63, g 64, g 65, g 66, g 67, g 68, g 69, g 70, g 71, g 72, g 73, g 74, g 75, g 76, g 77, g 78, g 79, g 80, g 81, g 82, g 83, g 84, g 85, g 86, g 87, g 88, g 89], defers := D }
/-- What holds at the head of precedence's outer loop. -/
def Inv85 (s : CS) (all : List Int) (A B : Option Addr) (k m : Nat) (c : Int) (w : World) (bl ba bo : Nat) (res : List Int × Bool) (a : Act) (wr : World) : Prop := ∃ (out left : List Int) (f : Nat), Fr85 (.agg #[.slice A s.classes.length k, .slice B s.history.length m]) (.int .i64 c) (.pointer (some ⟨w.heap.size, 0, none⟩)) (.slice none 0 0) (.bool false) (.pointer (some ⟨bl, 0, none⟩)) (.pointer (some ⟨ba, 0, none⟩)) (.pointer (some ⟨ba + 1, 0, none⟩)) (.pointer (some ⟨bo, 0, none⟩)) a ∧ PS s all (.slice A s.classes.length k) (.slice B s.history.length m) w bl ba (ba + 1) bo wr out left ∧ Marks w.heap.size wr.heap.size a.defers wr ∧ precGo s all f out left = res ∧ left.length ≤ f ∧ (∀ x ∈ left, x ∈ all) ∧ (∀ x ∈ out, x ∈ all) ∧ out.length + left.length ≤ 100000
theorem Inv85.of {s : CS} {all : List Int} {A B : Option Addr} {k m : Nat} {c : Int} {w : World} {bl ba bo : Nat} {res : List Int × Bool} {a : Act} {wr : World} (out left : List Int) (f : Nat) (h : Fr85 (.agg #[.slice A s.classes.length k, .slice B s.history.length m]) (.int .i64 c) (.pointer (some ⟨w.heap.size, 0, none⟩)) (.slice none 0 0) (.bool false) (.pointer (some ⟨bl, 0, none⟩)) (.pointer (some ⟨ba, 0, none⟩)) (.pointer (some ⟨ba + 1, 0, none⟩)) (.pointer (some ⟨bo, 0, none⟩)) a ∧ PS s all (.slice A s.classes.length k) (.slice B s.history.length m) w bl ba (ba + 1) bo wr out left ∧ Marks w.heap.size wr.heap.size a.defers wr ∧ precGo s all f out left = res ∧ left.length ≤ f ∧ (∀ x ∈ left, x ∈ all) ∧ (∀ x ∈ out, x ∈ all) ∧ out.length + left.length ≤ 100000) : Inv85 s all A B k m c w bl ba bo res a wr := ⟨out, left, f, h⟩
theorem Fr85.of {v0 v1 v2 v4 v5 v6 v7 v8 v9 : Value} {a : Act} (h : a = { tmps := #[v0, v1, v2, undef, v4, v5, v6, v7, v8, v9, a.tmps.getD 10 undef, a.tmps.getD 11 undef, a.tmps.getD 12 undef, a.tmps.getD 13 undef, a.tmps.getD 14 undef, a.tmps.getD 15 undef, a.tmps.getD 16 undef, a.tmps.getD 17 undef, a.tmps.getD 18 undef, a.tmps.getD 19 undef, a.tmps.getD 20 undef, a.tmps.getD 21 undef, a.tmps.getD 22 undef, a.tmps.getD 23 undef, a.tmps.getD 24 undef, a.tmps.getD 25 undef, a.tmps.getD 26 undef, a.tmps.getD 27 undef, a.tmps.getD 28 undef, a.tmps.getD 29 undef, a.tmps.getD 30 undef, a.tmps.getD 31 undef, a.tmps.getD 32 undef, a.tmps.getD 33 undef, a.tmps.getD 34 undef, a.tmps.getD 35 undef, a.tmps.getD 36 undef, a.tmps.getD 37 undef, a.tmps.getD 38 undef, a.tmps.getD 39 undef, a.tmps.getD 40 undef, a.tmps.getD 41 undef, a.tmps.getD 42 undef, a.tmps.getD 43 undef, a.tmps.getD 44 undef, a.tmps.getD 45 undef, a.tmps.getD 46 undef, a.tmps.getD 47 undef, a.tmps.getD 48 undef, a.tmps.getD 49 undef, a.tmps.getD 50 undef, a.tmps.getD 51 undef, a.tmps.getD 52 undef, a.tmps.getD 53 undef, a.tmps.getD 54 undef, a.tmps.getD 55 undef, a.tmps.getD 56 undef, a.tmps.getD 57 undef, a.tmps.getD 58 undef, a.tmps.getD 59 undef, a.tmps.getD 60 undef, a.tmps.getD 61 undef, a.tmps.getD 62 undef, a.tmps.getD 63 undef, a.tmps.getD 64 undef, a.tmps.getD 65 undef, a.tmps.getD 66 undef, a.tmps.getD 67 undef, a.tmps.getD 68 undef, a.tmps.getD 69 undef, a.tmps.getD 70 undef, a.tmps.getD 71 undef, a.tmps.getD 72 undef, a.tmps.getD 73 undef, a.tmps.getD 74 undef, a.tmps.getD 75 undef, a.tmps.getD 76 undef, a.tmps.getD 77 undef, a.tmps.getD 78 undef, a.tmps.getD 79 undef, a.tmps.getD 80 undef, a.tmps.getD 81 undef, a.tmps.getD 82 undef, a.tmps.getD 83 undef, a.tmps.getD 84 undef, a.tmps.getD 85 undef, a.tmps.getD 86 undef, a.tmps.getD 87 undef, a.tmps.getD 88 undef, a.tmps.getD 89 undef], defers := a.defers }) : Fr85 v0 v1 v2 v4 v5 v6 v7 v8 v9 a := ⟨fun i => a.tmps.getD i undef, a.defers, h⟩

set_option maxHeartbeats 40000000 in
set_option maxRecDepth 100000 in
theorem prec85 (s : CS) (cs : List Value) (c : Int) (w : World) (h : rCS.K w s cs) (hlen : s.classes.length ≤ 100000) (hc : Rp.okInt c) :
    Calls Tryz.prog 85 #[rCS.val cs, .int .i64 c] w fun e w' => ∃ v, e = .returned (.tuple #[v, .bool (precS s c).2]) ∧ Own 3 Rp.int w.heap.size w' v (precS s c).1 ∧ Below w.heap.size w w' := by
  have HR := Lib.hid (fun w' (hb : Below w.heap.size w w') => reached126 s cs c w' (K_below h hb) hlen hc)
  obtain ⟨u, l, rfl, hu, hl⟩ := id h
  obtain ⟨A, k, rfl⟩ := slice_form hu
  obtain ⟨B, m, rfl⟩ := slice_form hl
  rw [rCS_val] at HR ⊢
  have HK := Lib.hid h
  clear hu hl h
  obtain ⟨all, hall⟩ : ∃ all, all = reachedS s c := ⟨_, rfl⟩
  unfold precS
  rw [← hall] at HR ⊢
  obtain ⟨res, hres⟩ : ∃ r, r = precGo s all (s.classes.length + 1) [] all := ⟨_, rfl⟩
  rw [← hres]
  have HRES := Lib.hid hres
  have HA := Lib.hid hall
  have hmx : all.length * 8 ≤ 140737488355328 := by
    have := (reachedS_each s c).len
    rw [hall]
    omega
  have HC := Lib.hid (fun w' v (hb : (Rp.slice (some 3) Rp.int).K w' all [v]) => clone86 Rp.int rfl rfl (some 3) all v w' hb hmx)
  clear hall hmx hc hres
  have b0 : Box (w.alloc (.cells #[.slice A s.classes.length k, .slice B s.history.length m] 44)) w.heap.size 44 [.slice A s.classes.length k, .slice B s.history.length m] := Box.mk_ _ rfl rfl
  refine callsIn_wide.1 (callsIn_of_wp_marks (n := 6) (F := Fence.wide) Tryz.func85 rfl trivial (wpIn_wide.2 (wp_calm ?_)) rfl)
  simp only [Tryz.ntmps85, List.size_toArray, List.length_cons, List.length_nil, Nat.reduceAdd, Nat.reduceSub, Array.replicate_succ, Array.replicate_zero, List.push_toArray, List.append_toArray, List.nil_append, List.cons_append]
  go_wp2
  go_step3
  go_wp2_with (first
    | (go_at_call 126; refine (HR.out _ (below_one _ _)).mono ?_; rintro e w1 ⟨v1, rfl, hO1, hB1⟩; have x1 := b0.later hB1; have hT1 := below_to (below_one _ _) hB1; obtain ⟨C, n, rfl, _⟩ := hO1.row; have X1 := x1.alloc (.cells #[.slice C all.length n] 46); have xl1 : Box (w1.alloc (.cells #[.slice C all.length n] 46)) w1.heap.size 46 [.slice C all.length n] := Box.mk_ _ rfl rfl; have hT1' := below_more hT1 (.cells #[.slice C all.length n] 46); have hO1' := hO1.alloc (.cells #[.slice C all.length n] 46))
    | (go_at_call 86; refine (HC.out _ _ hO1'.read).mono ?_; rintro e w2 ⟨v2, rfl, hO2, hB2⟩; have x2 := X1.later hB2; have xl2 := xl1.later hB2; have hT2 := below_to hT1' hB2; have hO1'' := hO1'.below hB2; obtain ⟨D, q, rfl, _⟩ := hO2.row; have X3 := (x2.alloc (.cells #[.slice D all.length q] 46)).alloc (.cells #[.nilFunc] 249); have XL3 := (xl2.alloc (.cells #[.slice D all.length q] 46)).alloc (.cells #[.nilFunc] 249); have xa3 : Box ((w2.alloc (.cells #[.slice D all.length q] 46)).alloc (.cells #[.nilFunc] 249)) w2.heap.size 46 [.slice D all.length q] := (Box.mk_ _ rfl rfl).alloc _; have xf3 : Box ((w2.alloc (.cells #[.slice D all.length q] 46)).alloc (.cells #[.nilFunc] 249)) (w2.heap.size + 1) 249 [.nilFunc] := Box.mk_ _ (by simp) rfl; have hT3 := below_more (below_more hT2 (.cells #[.slice D all.length q] 46)) (.cells #[.nilFunc] 249); have O13 := (hO1''.alloc (.cells #[.slice D all.length q] 46)).alloc (.cells #[.nilFunc] 249); have O23 := (hO2.alloc (.cells #[.slice D all.length q] 46)).alloc (.cells #[.nilFunc] 249))
    | (refine wp_box_set rfl 249 _ _ rfl (j := 0) (u := .func (.func 127) #[] #[.pointer (some ⟨w2.heap.size, 0, none⟩), .pointer (some ⟨w.heap.size, 0, none⟩)]) rfl rfl xf3 rfl rfl rfl siz249 ?_; intro w4 xf4 hc4)
    | go_in)
  have hne1 : ∀ g, (Value.slice C all.length n).ownBlock = some g → (Value.slice D all.length q).ownBlock ≠ some g := fun g h1 h2 => by
    have e1 := (hO1'.ge g h1).2
    have e2 := (hO2.ge g h2).1
    omega
  have hl12 : w1.heap.size < w2.heap.size := by
    have := hB2.size
    simp at this
    omega
  have hl24 : w2.heap.size + 1 < w4.heap.size := by
    have := hc4.size
    simp at this
    omega
  have hl01 : w.heap.size < w1.heap.size := x1.lt
  have hPS : PS s all (.slice A s.classes.length k) (.slice B s.history.length m) w w1.heap.size w2.heap.size (w2.heap.size + 1) w4.heap.size (w4.alloc (.cells #[.slice none 0 0] 46)) [] all := by
    refine ⟨below_more (hc4.below hT3 (by omega)) _, (hc4.box X3 (by omega)).alloc _, ⟨_, _, _, (hc4.box XL3 (by omega)).alloc _, ((hc4.own O13 (by decide) rfl).lower (by simp)).alloc _, (hc4.box xa3 (by omega)).alloc _, ((hc4.own O23 (by decide) rfl).lower (by simp; omega)).alloc _, Box.mk_ _ rfl rfl, Own.nil _ _ _ _, hne1, (fun g _ h => by simp [Value.ownBlock] at h), (fun g _ h => by simp [Value.ownBlock] at h)⟩, xf4.alloc _⟩
  clear x1 X1 xl1 hT1' hO1' hO1 hB1 hT1 x2 xl2 hT2 hO1'' hO2 hB2 X3 XL3 xa3 xf3 hT3 O13 O23 xf4 hc4 hne1 b0 HR HC
  generalize w4.alloc (.cells #[.slice none 0 0] 46) = W at *
  generalize w4.heap.size = bo at *
  generalize w2.heap.size = ba at *
  generalize w1.heap.size = bl at *
  have hkn : Known s all := by rw [HA.out]; exact (reachedS_each s c).2
  have hal : all.length ≤ s.classes.length := by rw [HA.out]; exact (reachedS_each s c).len
  have HKN := Lib.hid hkn
  clear hkn
  go_step3
  go_wp2
  refine wp_loop (Inv85 s all A B k m c w bl ba bo res) (fun _ wr => lenAt wr bl 0) ?_ ?_
  · exact Inv85.of [] all (s.classes.length + 1) ⟨Fr85.of rfl, hPS, trivial, HRES.out.symm, by omega, fun _ h => h, fun _ h => (by cases h), by simp; omega⟩
  · rintro a wq ⟨out, left, f, ⟨g, D', rfl⟩, hP, hM, hgo, hlf, hla, hoa, hsz⟩
    clear hPS
    have hM : Marks w.heap.size wq.heap.size D' wq := hM
    obtain ⟨vl, va, vo, hV⟩ := hP.pv
    have xl := hV.xl
    have ol := hV.ol
    have xa := hV.xa
    have oa := hV.oa
    have xo := hV.xo
    have oo := hV.oo
    obtain ⟨Al, cl, rfl, _⟩ := ol.row
    obtain ⟨Aa, ca, rfl, _⟩ := oa.row
    obtain ⟨Ao, co, rfl, _⟩ := oo.row
    have xf := hP.xf
    have xs := hP.xs
    obtain ⟨vu, vh, hvu, hsu, _⟩ := id HK.out
    cases hvu
    have HK1 := Lib.hid hsu
    clear hsu
    obtain ⟨p0, pf, pl⟩ := xl.single
    obtain ⟨q0, qf, ql⟩ := xo.single
    have HM := Lib.hid (And.intro hM (And.intro hgo (And.intro hlf (And.intro hla (And.intro hoa hsz)))))
    clear hM hgo hlf hla hoa
    by_cases hpos : 0 < left.length
    · obtain ⟨gl, cl', hgl⟩ := ol.shape (by intro h; rw [h] at hpos; exact absurd hpos (Nat.lt_irrefl 0))
      cases hgl
      go_wp2
      go_loopw [28] (fun i wr => ∃ (j : Nat) (vf : Value), j ≤ left.length ∧ i = .int .i64 j ∧ Below wq.heap.size wq wr ∧ Box wr wq.heap.size 46 [vf] ∧ Own 3 Rp.int wq.heap.size wr vf ((left.take j).filter (fun b => !left.any fun a => aheadB s all a b))) (fun i _ => left.length - (intOf i).toNat)
      case atStart => exact ⟨0, .slice none 0 0, Nat.zero_le _, rfl, below_one _ _, Box.mk_ _ rfl rfl, Own.nil _ _ _ _⟩
      case round =>
        obtain ⟨j, vf, hj, rfl, hBx, xfr, ofr⟩ := hrel
        by_cases hlt : j < left.length
        · have hlO := ol.below hBx
          obtain ⟨u, hu, _, hgx, hku⟩ := hlO.get1 rfl rfl j hlt
          obtain ⟨hue, hok⟩ := hku
          cases hue
          obtain ⟨b, hb⟩ : ∃ b, b = left[j] := ⟨_, rfl⟩
          rw [← hb] at hu hok
          have HBB := Lib.hid (And.intro hb hok)
          have hPx := hP.below hBx
          have HPx := Lib.hid hPx
          have xlx := xl.later hBx
          have xax := xa.later hBx
          have hall := oa.below hBx
          have HCall := Lib.hid (fun w' (hb' : Below wr.heap.size wr w') nb (hbc : w'.cell? ⟨nb, 0, none⟩ = some (.int .i64 b)) => cfn129 Rp.int rfl rfl (some 3) left (.slice (some ⟨gl, 0, none⟩) left.length cl) 130 #[.pointer (some ⟨ba + 1, 0, none⟩), .pointer (some ⟨nb, 0, none⟩)] (fun a => aheadB s all a b) w' (K_below hlO.read hb') enters130 (pred130 s all left b (ba + 1) nb ba w.heap.size (some 3) _ _ w' (K_below hall.read hb') (K_below HK1.out (below_to hPx.hB hb')) (cell_later hb' (xax.cell 0 _ rfl)) (cell_later hb' (hPx.xs.cell 0 _ rfl)) HKN.out (cell_later hb' (hPx.xf.cell 0 _ rfl)) hbc))
          have z0 : Box (wr.alloc (.cells #[.int .i64 b] 3)) wr.heap.size 3 [.int .i64 b] := Box.mk_ _ rfl rfl
          have he := enters130
          unfold Enters at he
          obtain ⟨r0, rf, rl⟩ := xlx.single
          have xfa := xfr.alloc (.cells #[.int .i64 b] 3)
          have hfl : ((left.take j).filter (fun b => !left.any fun a => aheadB s all a b)).length ≤ j := Nat.le_trans (List.length_filter_le _ _) (by rw [List.length_take]; omega)
          have hsnoc := filter_take_succ (fun b => !left.any fun a => aheadB s all a b) left j hlt
          rw [← hb] at hsnoc
          obtain ⟨fr, hfr⟩ : ∃ fr, fr = (left.take j).filter (fun b => !left.any fun a => aheadB s all a b) := ⟨_, rfl⟩
          rw [← hfr] at hsnoc ofr hfl
          obtain ⟨Af, cf, rfl, _⟩ := ofr.row
          have HS := Lib.hid (And.intro hsnoc (And.intro hfr (And.intro (show (fr.length + 1) * 8 ≤ 140737488355328 by omega) (show fr.length + 1 ≤ maxLen by unfold maxLen; omega))))
          have hB1 := below_one wr (.cells #[.int .i64 b] 3)
          clear hb hok hPx hall hsnoc hfr hlO xax
          cases hany : left.any (fun a => aheadB s all a b) with
          | true =>
            have HANY := Lib.hid hany
            rw [hany] at HCall
            clear hany
            go_wp2_with (first
              | (go_at_call 129; refine (HCall.out _ hB1 _ (z0.cell 0 _ rfl)).mono ?_; rintro e w2 ⟨rfl, hB2⟩)
              | go_in)
            have hnx := HS.out.1
            rw [HANY.out] at hnx
            exact ⟨⟨j + 1, .slice Af fr.length cf, by omega, by go_num, below_to hBx (below_to hB1 hB2), xfa.later hB2, by rw [hnx]; simpa using (ofr.alloc (.cells #[.int .i64 b] 3)).below hB2⟩, by simp [intOf]; omega⟩
          | false =>
            have HANY := Lib.hid hany
            rw [hany] at HCall
            clear hany
            go_wp2_with (first
              | (go_at_call 129; refine (HCall.out _ hB1 _ (z0.cell 0 _ rfl)).mono ?_; rintro e w2 ⟨rfl, hB2⟩; have xf2 := xfa.later hB2; obtain ⟨s0, sf, sl⟩ := xf2.single; have z2 := z0.later hB2; obtain ⟨s1, sf1, sl1⟩ := z2.single; have hof2 := (ofr.alloc (.cells #[.int .i64 b] 3)).below hB2; have hT2 := below_to hBx (below_to hB1 hB2))
              | (at_builtin; refine wp_app1 (v := .slice Af fr.length cf) (cs := [.int .i64 b]) (t' := 3) (y := b) rfl _ _ 46 rfl Tryz.underlying46 inf3 rfl (by decide) rfl hof2 rfl rfl ⟨rfl, HBB.out.2⟩ HS.out.2.2.1 HS.out.2.2.2 hT2.size ?_; intro gA cA w3 hA; have xf3 := hA.box hof2 xf2 (by decide); have hT3 := hA.step hof2 hT2 (Nat.le_refl _); clear s0 sf sl)
              | (refine wp_box_set rfl 46 _ _ rfl (j := 0) (u := (.slice (some ⟨gA, 0, none⟩) (fr.length + 1) cA)) (by rfl) (by rfl) xf3 rfl rfl rfl sz46 ?_; intro w4 xf4 hc4; have hof4 := hc4.own hA.own (by decide) rfl; have hT4 := hc4.below hT3 (Nat.le_refl _))
              | go_in)
            have hnx := HS.out.1
            rw [HANY.out] at hnx
            exact ⟨⟨j + 1, .slice (some ⟨gA, 0, none⟩) (fr.length + 1) cA, by omega, by go_num, hT4, xf4, by rw [hnx]; exact hof4⟩, by simp [intOf]; omega⟩
        · have hjj : j = left.length := by omega
          subst hjj
          rw [List.take_length] at ofr
          have ofr : Own 3 Rp.int wq.heap.size wr vf (freeS s all left) := ofr
          obtain ⟨free, hfree⟩ : ∃ free, free = freeS s all left := ⟨_, rfl⟩
          rw [← hfree] at ofr
          have HFREE := Lib.hid hfree
          clear hfree
          obtain ⟨Af, cf, rfl, _⟩ := ofr.row
          have hPx := hP.below hBx
          have xlx := xl.later hBx
          have xox := xo.later hBx
          have olx := ol.below hBx
          have oox := oo.below hBx
          have hgo := HM.out.2.1
          obtain ⟨f', rfl⟩ : ∃ f', f = f' + 1 := ⟨f - 1, by have := HM.out.2.2.1; omega⟩
          rw [precGo, if_neg (by omega), ← HFREE.out] at hgo
          have HGO := Lib.hid hgo
          obtain ⟨r0, rf, rl⟩ := xlx.single
          obtain ⟨s0, sf, sl⟩ := xfr.single
          obtain ⟨t0, tf, tl⟩ := xox.single
          clear hgo
          have hfm : ∀ x ∈ free, x ∈ left := fun x hx => by rw [HFREE.out] at hx; exact freeS_sub hx
          have HFM := Lib.hid hfm
          have hfl : free.length ≤ left.length := by rw [HFREE.out]; exact List.length_filter_le _ _
          have HD := Lib.hid (And.intro (show (out.length + 1) * 8 ≤ 140737488355328 by omega) (show out.length + 1 ≤ maxLen by unfold maxLen; omega))
          clear hfm
          by_cases hone : free.length = 1 ∨ (0 < free.length ∧ out.length = 0)
          · have hf0 : 0 < free.length := by omega
            obtain ⟨gf, cf', hgf⟩ := ofr.shape (by intro h; rw [h] at hf0; exact absurd hf0 (Nat.lt_irrefl 0))
            cases hgf
            obtain ⟨u, hu, _, hgfl, hku⟩ := ofr.get1 rfl rfl 0 hf0
            obtain ⟨hue, hok⟩ := hku
            cases hue
            obtain ⟨x, hx⟩ : ∃ x, x = free[0] := ⟨_, rfl⟩
            rw [← hx] at hu hok
            have hnext : nextS s out free = some x := by
              unfold nextS
              rw [if_pos hone, List.getElem?_eq_getElem hf0, ← hx]
            have HN := Lib.hid (And.intro hnext (And.intro hok hx))
            clear hnext hok hx
            have hood := oox.drew
            have xoxd := xox.drew
            have hTd := (below_to hP.hB hBx).drew
            have hVd := (hV.below hBx).below (below_drew wr)
            have hxl := xfr.lt
            have hgf1 := (ofr.ge gf rfl).1
            have hglt := (hV.ol.ge gl rfl).2
            have hbolt := hV.xo.lt
            rcases (show ((free.length : Int) == 1) = true ∨ (((free.length : Int) == 1) = false ∧ ((out.length : Int) == 0) = true) by
              rcases hone with h | h
              · left; simp [h]
              · by_cases h1 : free.length = 1
                · left; simp [h1]
                · right; exact ⟨by rw [beq_eq_false_iff_ne]; omega, by simp [h.2]⟩) with e1 | ⟨e1, e2⟩
            all_goals
              clear hone
              go_wp2
              go_region_law (first
                | (refine step_app1 (y := x) (d := Rp.int) (e := 3) (base := w.heap.size) (sz := 1) (bs := 8) (cs := [.int .i64 x]) (t' := 3) (by rfl) _ _ 46 (by rfl) Tryz.underlying46 inf3 rfl (by decide) (by rfl) hood rfl (by rfl) ⟨rfl, HN.out.2.1⟩ HD.out.1 HD.out.2 hTd.size ?_; intro gA cA w2 hA; have xo2 := hA.box hood xoxd (by decide); have k0 := xo2.cell 0 _ rfl; have kf := xo2.free 0))
            all_goals
              have hV3 := hVd.push hA (by omega) (by omega) (by omega)
              have hk3 : ∀ k, wq.heap.size ≤ k → k < wr.heap.size → (w2.setCell ⟨bo, 0, none⟩ (.slice (some ⟨gA, 0, none⟩) (out.length + 1) cA)).heap[k]? = wr.heap[k]? := fun k h1 h2 => by
                rw [Below.heap_setCell _ _ _ _ (by show k ≠ bo; omega), hA.block (k := k) (by simp; omega) (fun he => by have := (hV.oo.ge k he).2; omega)]
                exact Below.heap_alloc _ _ k (by simpa using h2)
              have hO3 : KeptO wq (w2.setCell ⟨bo, 0, none⟩ (.slice (some ⟨gA, 0, none⟩) (out.length + 1) cA)) := (((Same.of_below hBx).trans (Same.of_below (below_more (below_drew wr) _))).trans (hA.same _ (by decide))).trans ((xo2.chg 0 _).same _ (by decide))
              have hs3 : wr.heap.size ≤ (w2.setCell ⟨bo, 0, none⟩ (.slice (some ⟨gA, 0, none⟩) (out.length + 1) cA)).heap.size := by
                have := hA.grown.size
                simp [World.setCell] at this ⊢
                omega
              generalize w2.setCell ⟨bo, 0, none⟩ (.slice (some ⟨gA, 0, none⟩) (out.length + 1) cA) = w3 at *
              have HDEL := Lib.hid (deleteFunc131_some left gl left.length cl w.heap.size 132 #[.pointer (some ⟨wq.heap.size, 0, none⟩)] (fun c => c == x) w3 rfl hV3.ol enters132 (by omega) (fun y _ w' hg' => by
                have hb : ∀ k, wq.heap.size ≤ k → k < wr.heap.size → w'.heap[k]? = wr.heap[k]? := fun k h1 h2 => (hg'.block k (by omega) (fun he => by cases he; omega)).trans (hk3 k h1 h2)
                obtain ⟨fn, hfn⟩ : ∃ fn, free.length = fn + 1 := ⟨free.length - 1, by omega⟩
                refine call132 y x wq.heap.size ⟨gf, 0, none⟩ fn cf w' ?_ ?_
                · rw [← hfn]
                  exact (World.cell?_of_block (w := wr) (w' := w') (a := ⟨wq.heap.size, 0, none⟩) (hb _ (Nat.le_refl _) hxl)).trans (xfr.cell 0 _ rfl)
                · exact (World.cell?_of_block (w := wr) (w' := w') (a := ⟨gf, 0, none⟩) (hb _ hgf1 hgfl)).trans hu))
              obtain ⟨y0, yf, yl⟩ := hV3.xl.single
              have he := enters132
              unfold Enters at he
              clear hA xo2 k0 kf
              go_wp2_with (first
                | (go_at_call 131; refine HDEL.out.mono ?_; rintro e w4 ⟨rfl, hO4, hg4⟩; have x4 : Box w4 bl 46 [.slice (some ⟨gl, 0, none⟩) left.length cl] := hV3.xl.grown hg4 (fun he => (hV3.ol.ne_box hV3.xl (by decide)) (by cases he; rfl)); clear y0 yf yl; obtain ⟨y0, yf, yl⟩ := x4.single)
                | go_in)
              have hxl' : x ∈ left := HFM.out x (by rw [HN.out.2.2]; exact List.getElem_mem _)
              have hsh := filter_ne_length hxl'
              have hV5 := hV3.cut hg4 hO4 (by omega) (by omega) (by omega)
              have hO5 : KeptO wq _ := (hO3.trans (Same.grownBy hV3.ol hg4 (by decide))).trans ((x4.chg 0 (.slice (some ⟨gl, 0, none⟩) (left.filter fun c => !(c == x)).length cl)).same _ (by decide))
              have hsz5 : wq.heap.size ≤ (w4.setCell ⟨bl, 0, none⟩ (.slice (some ⟨gl, 0, none⟩) (left.filter fun c => !(c == x)).length cl)).heap.size := by
                have h1 := hBx.size
                have h2 := hg4.size
                simp only [World.setCell, Array.size_modify]
                omega
              have hgo' := HGO.out
              rw [HN.out.1] at hgo'
              refine ⟨Inv85.of (out ++ [x]) (left.filter (fun c => !(c == x))) f' ⟨Fr85.of rfl, hV5.ps, (HM.out.1.keptO hO5).wider hsz5, hgo', ?_, fun y hy => HM.out.2.2.2.1 y (List.mem_filter.1 hy).1, fun y hy => ?_, ?_⟩, ?_⟩
              · have := HM.out.2.2.1
                omega
              · rcases List.mem_append.1 hy with h | h
                · exact HM.out.2.2.2.2.1 y h
                · rw [List.mem_singleton.1 h]
                  exact HM.out.2.2.2.1 x hxl'
              · rw [List.length_append, List.length_singleton]
                omega
              · rw [lenAt_of (hV5.xl.cell 0 _ rfl), lenAt_of (hV.xl.cell 0 _ rfl)]
                exact hsh
          · have hnx : nextS s out free = pickS s out free := by
              unfold nextS
              rw [if_neg hone]
            have HN := Lib.hid hnx
            have e1 : ((free.length : Int) == 1) = false := by rw [beq_eq_false_iff_ne]; omega
            have hbk := back_stops (α := At out) (fun p => p.1) (bkAt out) 5 (by decide) wr.heap.size (some 3) out (.slice Ao out.length co) (wr.alloc (.cells #[.slice Ao out.length co] 46)) (by omega) (fun j => rfl) ((Box.new wr [.slice Ao out.length co] 46).cell 0 _ rfl) (K_below oox.read (below_one _ _))
            have HBK := Lib.hid hbk
            have hVL := (hV.below hBx).below (below_one wr (.cells #[.slice Ao out.length co] 46))
            have xfL := xfr.alloc (.cells #[.slice Ao out.length co] 46)
            have ofL := ofr.alloc (.cells #[.slice Ao out.length co] 46)
            have hzL : wr.heap.size < (wr.alloc (.cells #[.slice Ao out.length co] 46)).heap.size := by simp
            have hOL : KeptO wq (wr.alloc (.cells #[.slice Ao out.length co] 46)) := (Same.of_below hBx).trans (Same.alloc _ _)
            have hwq := hBx.size
            have hglt := (hV.ol.ge gl rfl).2
            have hbolt := hV.xo.lt
            have HX := Lib.hid (And.intro hwq (And.intro hglt hbolt))
            clear hnx hbk
            rcases (show 0 < free.length ∧ ((out.length : Int) == 0) = false ∨ ¬ 0 < free.length by
              by_cases h : 0 < free.length
              · left; exact ⟨h, by rw [beq_eq_false_iff_ne]; omega⟩
              · right; exact h) with ⟨e2, e3⟩ | e2
            all_goals
              clear hone
              go_wp2_with (first
                | (go_at_call 133; refine (back133 Ao out.length co wr).mono ?_; rintro e w2 ⟨rfl, rfl⟩)
                | go_in)
              generalize wr.alloc (.cells #[.slice Ao out.length co] 46) = WL at *
              refine wp_named (fun T DD hT => ?_)
              refine wpIn_wide.1 (wpIn_rangeFunc_ownG (F := Fence.wide) (n := 6) rfl (by decide) (gf := 158) (lb := #[.pointer (some ⟨wr.heap.size, 0, none⟩)]) (by cases hT; rfl) trivial (enters_of Tryz.func158 (by kernel_rfl) rfl) HBK.out belowK_t (belowK_b (Nat.le_refl _)) (Below.refl _ _) (fun _ => rfl)
                (fun pre W => Below WL.heap.size WL W ∧ pickAt s free out pre = none)
                (fun cd pre W => cd = .exit 1 ∧ ∃ x, pickAt s free out pre = some x ∧ PS s all (.slice A s.classes.length k) (.slice B s.history.length m) w bl ba (ba + 1) bo W (out ++ [x]) (left.filter fun c => !(c == x)) ∧ KeptO WL W ∧ WL.heap.size ≤ W.heap.size)
                ?hI ?hIx ⟨Below.refl _ _, rfl⟩
                (fun x => { tmps := ((T.setIfInBounds 65 (.int .i64 x.1.1)).setIfInBounds 66 (.int .i64 x.1.2)).setIfInBounds 14 (.int .i64 x.1.2), defers := [] }) ?assign ?body ?done ?stop)
              case hI =>
                rintro pre W W' row ⟨h1, h2⟩ hg hr
                exact ⟨below_row h1 h1.size hg (fun r e => (hr r e).1), h2⟩
              case hIx =>
                rintro cd pre W W' row ⟨h, x, h1, h2, h3, h4⟩ hg hr
                obtain ⟨vl', va', vo', hV'⟩ := h2.pv
                have hw : w.heap.size ≤ WL.heap.size := hVL.hB.size
                refine ⟨h, x, h1, (hV'.kept (below_row hV'.hB hV'.hB.size hg (fun r e => Nat.le_trans hw (hr r e).1)) (kept1_of_row hg (fun r e => (hr r e).2))).ps, fun b o ho hb => ?_, Nat.le_trans h4 hg.size⟩
                have h5 := h3 b o ho hb
                refine (hg.block b (heap_lt h5) (fun e => ?_)).trans h5
                have := (hr b e.symm).1
                have := heap_lt hb
                omega
              case assign =>
                cases hT
                intro l x W K hK
                gi_wp2
                exact hK
              case body =>
                cases hT
                rintro l pre x W ⟨hBW, hno⟩ hlen
                simp only [List.setIfInBounds_toArray, List.set_cons_succ, List.set_cons_zero]
                have hout : out ≠ [] := List.ne_nil_of_length_pos (by omega)
                have hcm := HM.out.2.2.2.2.1 _ (x.2 hout)
                obtain ⟨hc0, hc1⟩ := HKN.out _ hcm
                have hsn := pickAt_snoc s free out pre x hno
                obtain ⟨cc, hcc⟩ : ∃ cc, cc = x.1.2 := ⟨_, rfl⟩
                rw [← hcc] at hc0 hc1 hsn ⊢
                generalize x.1.1 = ci
                obtain ⟨kc, rfl⟩ : ∃ kc : Nat, cc = kc := ⟨cc.toNat, by omega⟩
                have hkl : kc < s.classes.length := by omega
                obtain ⟨b2, off2, cs2, hA2, hbl2, hk2, hcell2⟩ := Rp.Row_get (by obtain ⟨A', c', h, _, _, _, hr⟩ := HK1.out; cases h; exact hr) kc hkl
                subst hA2
                obtain ⟨v1, v2, rfl, hx1, hx2, _⟩ := hk2
                have d0 : w.cell? ⟨b2, off2 + kc * 5 + 1, none⟩ = some v1 := hcell2 1 _ rfl
                have hsup : supersOf s (kc : Int) = s.classes[kc].supers := by unfold supersOf; simp [hkl]
                obtain ⟨sup, hsu⟩ : ∃ sup, sup = s.classes[kc].supers := ⟨_, rfl⟩
                rw [← hsu] at hx1 hsup
                rw [hsup] at hsn
                have HSN := Lib.hid hsn
                have HSUP := Lib.hid hx1
                obtain ⟨Ds, kd, rfl⟩ := slice_form hx1
                have hVW := hVL.below hBW
                have xfW := xfL.later hBW
                have ofW := ofL.below hBW
                obtain ⟨s0, sf, sl⟩ := xfW.single
                have hmx : Tryz.prog.follows .mixedOrders = true := by kernel_rfl
                have HNO := Lib.hid (And.intro hno (And.intro hcc (And.intro hsup hcm)))
                clear hno hcc hsup hcm hsn hcell2 hx1 hx2 hsu
                gi_wp2
                gi_loopw [69] (fun i wx => ∃ j : Nat, j ≤ free.length ∧ i = .int .i64 j ∧ Below W.heap.size W wx ∧ ∀ m (hm : m < free.length), m < j → sup.contains free[m] = false) (fun i _ => free.length - (intOf i).toNat)
                case atStart => exact ⟨0, Nat.zero_le _, rfl, Below.refl _ _, fun m _ h => absurd h (Nat.not_lt_zero _)⟩
                case round =>
                  obtain ⟨j, hj, rfl, hBr, hprev⟩ := hrel
                  have HPREV := Lib.hid hprev
                  have hTr := below_to hBW hBr
                  clear hprev
                  by_cases hlt : j < free.length
                  · try (exfalso; exact e2 (Nat.lt_of_le_of_lt (Nat.zero_le _) hlt))
                    all_goals
                      have hVr := hVW.below hBr
                      have xfr' := xfW.later hBr
                      have ofr' := ofW.below hBr
                      obtain ⟨gf, cf', hgf⟩ := ofr'.shape (List.ne_nil_of_length_pos (by omega))
                      cases hgf
                      obtain ⟨u, hu, _, hgfl, hku⟩ := ofr'.get1 rfl rfl j hlt
                      obtain ⟨hue, hok⟩ := hku
                      cases hue
                      obtain ⟨y, hy⟩ : ∃ y, y = free[j] := ⟨_, rfl⟩
                      rw [← hy] at hu hok
                      have HY := Lib.hid (And.intro hy hok)
                      have d1 := cell_later hVr.hB d0
                      have d1l := World.block_lt_of_cell? wr _ d1
                      obtain ⟨p0', p1', pf', pl'⟩ := hVr.xs.two
                      have z0 : Box (wr.alloc (.cells #[.int .i64 y] 3)) wr.heap.size 3 [.int .i64 y] := Box.mk_ _ rfl rfl
                      have HC := Lib.hid (fun w' (hb : Below wr.heap.size wr w') => callsIn_wide (n := 3).2 (contains134 (some 3) sup (.slice Ds sup.length kd) y w' (K_below HSUP.out (below_to hVr.hB hb))))
                      have hB1 := below_one wr (.cells #[.int .i64 y] 3)
                      have z1 := z0.cell 0 _ rfl
                      have z2 := z0.lt
                      clear hy hok
                      cases hct : sup.contains y with
                      | false =>
                        rw [hct] at HC
                        have HCT := Lib.hid hct
                        clear hct
                        gi_wp2
                        gi_region_with_o (refine ⟨trivial, ?_⟩; gi_at_call 134; refine (CallsIn.inRound l (HC.out _ hB1.drew)).mono ?_; rintro e w2 ⟨rfl, hB2⟩)
                        all_goals
                          gi_wp2
                          exact ⟨⟨j + 1, by omega, by go_num, below_to hBr (below_to hB1.drew hB2), fun m hm hmj => by
                            rcases Nat.lt_succ_iff_lt_or_eq.1 hmj with h | h
                            · exact HPREV.out m hm h
                            · subst h; rw [← HY.out.1]; exact HCT.out⟩, by simp [intOf]; omega⟩
                      | true =>
                        rw [hct] at HC
                        have hpk := HSN.out
                        rw [find_first hlt (by rw [← HY.out.1]; exact hct) HPREV.out, ← HY.out.1] at hpk
                        have HPK := Lib.hid hpk
                        clear hct hpk
                        have hW1 := hVL.hB.size
                        have hW2 := hBW.size
                        have hW3 := hBr.size
                        have hbl := hV.xl.lt
                        have he := enters135
                        unfold Enters at he
                        have hne1 : ¬ bl = bo := by omega
                        have hne2 : ¬ bo = bl := by omega
                        gi_wp2
                        gi_region_with_o (refine ⟨trivial, ?_⟩; gi_at_call 134; refine (CallsIn.inRound l (HC.out _ hB1.drew)).mono ?_; rintro e w2 ⟨rfl, hB2⟩)
                        all_goals
                          have hT2 := below_to hB1.drew hB2
                          have hV2 := hVr.below hT2
                          have zz := z0.drew.later hB2
                          obtain ⟨k0, kf, kl⟩ := hV2.xo.single
                          obtain ⟨y0, yf, yl⟩ := zz.single
                          clear p0' p1' pf' pl' d1 d1l z1 z2
                          gi_wp2_with (first
                            | (gi_at_builtin; refine wpIn_app1 (v := .slice Ao out.length co) (cs := [.int .i64 y]) (t' := 3) (y := y) rfl _ _ 46 rfl Tryz.underlying46 inf3 rfl (by decide) rfl hV2.oo rfl rfl ⟨rfl, HY.out.2⟩ HD.out.1 HD.out.2 hV2.hB.size ?_; intro gA cA w3 hA; have xo3 := hA.box hV2.oo hV2.xo (by decide); have hV3 := hV2.push hA hne1 (by omega) (by omega); have z3 : Box w3 wr.heap.size 3 [.int .i64 y] := (zz.alloc _).grown hA.grown (fun he => by have := (hV.oo.ge _ he).2; omega); have z4 := z3.other (p := ⟨bo, 0, none⟩) (by show wr.heap.size ≠ bo; omega) (.slice (some ⟨gA, 0, none⟩) (out.length + 1) cA); have HDEL := Lib.hid (hV3.del135 (by omega) (z4.cell 0 _ rfl) (by omega)); clear k0 kf kl y0 yf yl; obtain ⟨k0, kf, kl⟩ := xo3.single; obtain ⟨y0, yf, yl⟩ := hV3.xl.single; have hc3 := xo3.chg 0 (.slice (some ⟨gA, 0, none⟩) (out.length + 1) cA))
                            | (refine ⟨trivial, ?_⟩; gi_at_call 131; refine (CallsIn.inRound l ((callsIn_wide (n := 3)).2 HDEL.out)).mono ?_; rintro e w4 ⟨rfl, hO4, hg4⟩; have x4 : Box w4 bl 46 [.slice (some ⟨gl, 0, none⟩) left.length cl] := hV3.xl.grown hg4 (fun he => (hV3.ol.ne_box hV3.xl (by decide)) (by cases he; rfl)); clear y0 yf yl; obtain ⟨y0, yf, yl⟩ := x4.single)
                            | gi_in)
                          have hKO : KeptO W _ := ((((((Same.of_below hBr).trans (Same.of_below hT2)).trans (Same.alloc _ _)).trans (hA.same _ (by decide))).trans (hc3.same _ (by decide))).trans (Same.grownBy hV3.ol hg4 (by decide))).trans ((x4.chg 0 (.slice (some ⟨gl, 0, none⟩) (left.filter fun c => !(c == y)).length cl)).same _ (by decide))
                          have hszz : W.heap.size ≤ (w4.setCell ⟨bl, 0, none⟩ (.slice (some ⟨gl, 0, none⟩) (left.filter fun c => !(c == y)).length cl)).heap.size := by
                            have h1 := hBr.size
                            have h2 := hT2.size
                            have h3 := hA.grown.size
                            have h4 := hg4.size
                            simp only [World.setCell, Array.size_modify, World.size_alloc] at h3 h4 ⊢
                            omega
                          exact ⟨keepsFrom_of hszz hKO, rfl, y, HPK.out, (hV3.cut hg4 hO4 hne1 (by omega) (by omega)).ps, (Same.of_below hBW).trans hKO, Nat.le_trans hW2 hszz⟩
                  · have hjj : j = free.length := by omega
                    have hpk := HSN.out
                    rw [find_none (fun m hm => HPREV.out m hm (by omega))] at hpk
                    have HPK := Lib.hid hpk
                    clear hpk
                    gi_wp2
                    exact ⟨keepsFrom_of hBr.size (Same.of_below hBr), hBr.mono hBW.size, below_to hBW hBr, HPK.out⟩
              case done =>
                cases hT
                rintro DB ys W hDB rfl ⟨hBW, hno⟩ hK
                rw [pickAt_all] at hno
                have hres := HGO.out
                rw [HN.out, hno] at hres
                have hVW := hVL.below hBW
                have hMW : Marks w.heap.size W.heap.size ({ target := .collected DB, args := #[] } :: D') W :=
                  ⟨DB, rfl, Nat.le_trans hVL.hB.size hDB, heap_lt hK, hK, (HM.out.1.wider (Nat.le_trans (Nat.le_of_lt (Nat.lt_of_le_of_lt HX.out.1 hzL)) (Nat.le_refl _))).ne hDB, ((HM.out.1.keptO hOL).keptO (Same.of_below hBW)).wider (by have := hBW.size; have := HX.out.1; omega)⟩
                have HH := Lib.hid (And.intro hres (And.intro hVW hMW))
                clear hres hVW hMW hno hBW hK
                go_wp2
                refine leave_marks (R := fun e w' => ∃ v, e = .returned (.tuple #[v, .bool res.2]) ∧ Own 3 Rp.int w.heap.size w' v res.1 ∧ Below w.heap.size w w') _ W HH.out.2.2 HH.out.2.1.hB HH.out.2.1.hB.size (fun w' h1 h2 => ⟨_, results_tmp2 rfl _ _ _, .slice none 0 0, ?_, ?_, h1⟩)
                · rw [← HH.out.1]; rfl
                · rw [← HH.out.1]; exact Own.nil _ _ _ _
              case stop =>
                cases hT
                rintro DB cd pre W hDB ⟨kk, hkk, rfl⟩ ⟨rfl, x, hpk, hPS, hKO, hsz⟩ hK
                have hpick := pickAt_part s free out hkk hpk
                have hgo' := HGO.out
                rw [HN.out, hpick] at hgo'
                have hxl' : x ∈ left := HFM.out x (pickS_mem hpick)
                have hsh := filter_ne_length hxl'
                have hMW : Marks w.heap.size W.heap.size ({ target := .collected DB, args := #[] } :: D') W :=
                  ⟨DB, rfl, Nat.le_trans hVL.hB.size hDB, heap_lt hK, hK, (HM.out.1.wider (Nat.le_of_lt (Nat.lt_of_le_of_lt HX.out.1 hzL))).ne hDB, ((HM.out.1.keptO hOL).keptO hKO).wider (by have := HX.out.1; omega)⟩
                have HH := Lib.hid (And.intro hgo' (And.intro hPS hMW))
                have hw5 : lenAt W bl 0 = (left.filter fun c => !(c == x)).length := by
                  obtain ⟨vl', va', vo', hV'⟩ := hPS.pv
                  obtain ⟨A', c', hv, _⟩ := hV'.ol.row
                  subst hv
                  exact lenAt_of (hV'.xl.cell 0 _ rfl)
                have hw6 := lenAt_of (hV.xl.cell 0 _ rfl)
                have HL := Lib.hid (And.intro hw5 hw6)
                clear hgo' hMW hpk hK hw5 hw6 hPS
                refine wpIn_wide.2 ?_
                go_wp2
                refine ⟨Inv85.of (out ++ [x]) (left.filter (fun c => !(c == x))) f' ⟨Fr85.of rfl, HH.out.2.1, HH.out.2.2, HH.out.1, ?_, fun y hy => HM.out.2.2.2.1 y (List.mem_filter.1 hy).1, fun y hy => ?_, ?_⟩, ?_⟩
                · have := HM.out.2.2.1
                  omega
                · rcases List.mem_append.1 hy with h | h
                  · exact HM.out.2.2.2.2.1 y h
                  · rw [List.mem_singleton.1 h]
                    exact HM.out.2.2.2.1 x hxl'
                · rw [List.length_append, List.length_singleton]
                  omega
                · rw [HL.out.1, HL.out.2]
                  exact hsh
    · have hl0 : left = [] := List.eq_nil_of_length_eq_zero (by omega)
      subst hl0
      have hres : res = (out, true) := by
        rw [← HM.out.2.1]
        cases f <;> rfl
      have HR := Lib.hid hres
      clear hres
      go_wp2
      refine leave_marks (R := fun e w' => ∃ v, e = .returned (.tuple #[v, .bool res.2]) ∧ Own 3 Rp.int w.heap.size w' v res.1 ∧ Below w.heap.size w w') D' wq HM.out.1 hP.hB hP.hB.size (fun w' h1 h2 => ⟨_, results_tmp2 rfl _ _ _, .slice Ao out.length co, ?_, ?_, h1⟩)
      · rw [HR.out]; rfl
      · rw [HR.out]; exact oo.kept1 h2 (by decide) (fun _ _ => rfl)
end Go.Proofs.YtoncaejgflfhhaaGreatDoor
