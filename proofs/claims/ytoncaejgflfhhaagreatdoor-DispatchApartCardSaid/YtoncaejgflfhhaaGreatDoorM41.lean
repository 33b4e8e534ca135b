/- awake. -/
import Derived.Test.YtoncaejgflfhhaaGreatDoorM40
set_option linter.unusedVariables false
set_option linter.unusedSimpArgs false
namespace Go.Proofs.YtoncaejgflfhhaaGreatDoor
open Go.RowKit

/-- A row of one element, just built. -/
theorem one_row {α : Type} {d : Rp α} {w : World} {x : α} {cs : List Value} {t : Nat} (hk : d.K w x cs) (n : Nat) (hn : n = w.heap.size) : (Rp.slice (some t) d).K (w.alloc (.cells cs.toArray t)) [x] [.slice (some ⟨n, 0, none⟩) 1 1] := by
  subst hn
  have hx : Box (w.alloc (.cells cs.toArray t)) w.heap.size t cs := Box.mk_ _ rfl rfl
  exact ⟨_, 1, rfl, Nat.le_refl _, by unfold maxLen; decide, (fun h => nomatch h), .inr ⟨_, 0, _, _, rfl, hx, fun t ht => by cases ht; rfl, ⟨cs, [], (List.append_nil _).symm, K_below hk (below_one _ _), rfl⟩, fun j u hu => by rw [Nat.zero_add]; exact hx.cell j u hu⟩⟩
theorem mF_K (w : World) : rMeth.K (w.alloc (.cells #[.bool false, .int .i64 0, .string ⟨#[]⟩] 36)) mF [.slice none 0 0, .slice (some ⟨w.heap.size, 0, none⟩) 1 1, .int .i64 7] :=
  ⟨_, _, rfl, nil_K _ _ _, one_row (d := rSpec) (cs := [.bool false, .int .i64 0, .string ⟨#[]⟩]) ⟨rfl, okZero, Nat.zero_le _⟩ _ rfl, ⟨by decide, by decide⟩⟩
theorem argN_K (n : Int) (hn : Rp.okInt n) (w : World) : (Rp.slice (some 52) rArg).K (w.alloc (.cells #[.int .i64 n, .string ⟨#[]⟩] 52)) [argN n] [.slice (some ⟨w.heap.size, 0, none⟩) 1 1] :=
  one_row (d := rArg) (cs := [.int .i64 n, .string ⟨#[]⟩]) ⟨rfl, hn, Nat.zero_le _⟩ _ rfl
theorem aS0_ok : okSt aS0 := by
  refine ⟨?_, by decide +kernel, ?_⟩
  · rw [aw0.2.2.1]; decide
  rw [aw0.2.2.1]
  intro g hg
  rw [List.mem_singleton.1 hg]
  exact ⟨(fun x hx => nomatch hx), by decide⟩
theorem mF_big : bigM mF := ⟨by decide, by decide⟩
theorem okSmall {n : Int} (h0 : 0 ≤ n) (h1 : n ≤ 1000000) : Rp.okInt n := ⟨by omega, by omega⟩
theorem awN_ok (k : Nat) : Rp.okInt (awN.getD k 0) := by
  have : ∀ x ∈ awN, Rp.okInt x := by intro x hx; exact okSmall (by revert x; decide) (by revert x; decide)
  rw [List.getD_eq_getElem?_getD]
  cases h : awN[k]? with
  | none => exact okZero
  | some x => exact this x (List.mem_of_getElem? h)
/-- A value of kind d lies alone in block b. -/
def In {α : Type} (b t : Nat) (d : Rp α) (x : α) (w : World) : Prop := ∃ cs, Box w b t cs ∧ d.K w x cs
theorem In.later {α : Type} {b t : Nat} {d : Rp α} {x : α} {w w' : World} : In b t d x w → Below w.heap.size w w' → In b t d x w'
  | ⟨cs, h, k⟩, hb => ⟨cs, h.later hb, K_below k hb⟩
theorem In.chg {α : Type} {b t b' t' : Nat} {d : Rp α} {x : α} {w w' : World} : In b t d x w → Chg b' t' w w' → b ≠ b' → d.E t' = false → In b t d x w'
  | ⟨cs, h, k⟩, hc, hn, hE => ⟨cs, hc.box h hn, hc.K hE k⟩
theorem showF_call (cs : List Value) (w : World) (h : rPlan.K w planF cs) : Calls Tryz.prog 20 #[rPlan.val cs] w (RV (.string ⟨#[112, 114, 105, 109, 97, 114, 121, 32, 55]⟩) w) := by
  rw [← showF]
  exact show20 planF cs w h planF_ok (itoaOk_small (by decide) w) (by decide +kernel) (by decide +kernel)
/-- At the head of awake's loop. -/
def Aw1 (b1 b5 b34 : Nat) (w : World) (v6 vi : Value) (wr : World) : Prop :=
  ∃ k : Nat, k ≤ 5 ∧ v6 = .bool true ∧ vi = .int .i64 k ∧ In b1 28 rSt (awS k) wr ∧ In b5 44 rCS newCS wr ∧ Box wr b34 3 [.int .i64 16, .int .i64 16, .int .i64 9, .int .i64 2, .int .i64 16] ∧ Below w.heap.size w wr

theorem aw_next {b1 b5 b34 k : Nat} {w wr : World} {s1 : St} (hk : k < 5) (hs : s1 = awS (k + 1)) (h1 : In b1 28 rSt s1 wr) (h2 : In b5 44 rCS newCS wr) (h3 : Box wr b34 3 [.int .i64 16, .int .i64 16, .int .i64 9, .int .i64 2, .int .i64 16]) (h4 : Below w.heap.size w wr) :
    Aw1 b1 b5 b34 w (.bool true) (.int .i64 (k + 1)) wr := by
  subst hs
  exact ⟨k + 1, hk, rfl, by go_num, h1, h2, h3, h4⟩

set_option maxHeartbeats 1000000 in
set_option maxRecDepth 100000 in
theorem awake7 (w : World) : Calls Tryz.prog 7 #[] w (RV (.bool true) w) := by
  go_enter Tryz.func7, Tryz.ntmps7
  go_wp2_with (first
    | (go_at_call 10; refine (new10 2 _).mono ?_; rintro e w1 ⟨c0, rfl, k0, b0⟩)
    | (go_at_call 9; refine (ensure9 (newS 2) c0 nF sStd 1 w1 k0 (by decide) (by decide) (okSmall (by decide) (by decide)) (by decide) (by decide)).mono ?_; rw [aw0.1]; rintro e w2 ⟨c1, rfl, k1, b1⟩; have t2 := below_to b0 b1; have L1 := rSt.len k1)
    | (refine wp_box_store rfl 28 _ _ rfl (us := c1) rfl rfl (Box.mk_ w2 (cs := zSt) rfl rfl) (by rw [L1]; exact siz28) (by rw [L1]; rfl) (rSt.one k1) ?_; intro w3 x1 hc3; have k3 := hc3.K (d := rSt) rfl (K_below k1 (below_one w2 _)); have t3 := hc3.below (below_more t2 _) t2.size)
    | (refine wp_box_load rfl 28 _ rfl rfl x1 Tryz.underlying28 rfl (by rw [L1]; exact siz28) ?_)
    | (go_at_call 11; refine (addMethod11 aS0 c1 0 mF [.slice none 0 0, .slice (some ⟨w3.heap.size, 0, none⟩) 1 1, .int .i64 7] _ (K_below k3 (below_one _ _)) (mF_K w3) aS0_ok mF_big).mono ?_; rw [aw0.2.1]; rintro e w4 ⟨c2, rfl, k4, b4⟩; have bb4 := below_to (below_one w3 _) b4; have x4 := x1.later bb4; have t4 := below_to t3 bb4; have L2 := rSt.len k4)
    | (refine wp_box_store rfl 28 _ _ rfl (us := c2) rfl rfl x4 (by rw [L2]; exact siz28) (by rw [L1, L2]) (rSt.one k4) ?_; intro w5 x5 hc5; have k5 := hc5.K (d := rSt) rfl k4; have t5 := hc5.below t4 t2.size)
    | (go_at_call 12; refine (new12 _).mono ?_; rintro e w6 ⟨c3, rfl, k6, b6⟩; have x6 := x5.later b6; have ks6 := K_below k5 b6; have t6 := below_to t5 b6; have L3 := rCS.len k6)
    | (refine wp_box_store rfl 44 _ _ rfl (us := c3) rfl rfl (Box.mk_ w6 (cs := [.slice none 0 0, .slice none 0 0]) rfl rfl) (by rw [L3]; exact siz44) (by rw [L3]; rfl) (rCS.one k6) ?_; intro w7 x7 hc7; have k7 := hc7.K (d := rCS) rfl (K_below k6 (below_one w6 _)); have y7 := hc7.box_ty (x6.alloc _) (by decide); have ks7 := hc7.K (d := rSt) rfl (K_below ks6 (below_one w6 _)); have t7 := hc7.below (below_more t6 _) t6.size)
    | go_in)
  have x8 := x7.alloc (.cells #[.int .i64 16, .int .i64 16, .int .i64 9, .int .i64 2, .int .i64 16] 3)
  have k8 := K_below k7 (below_one w7 (.cells #[.int .i64 16, .int .i64 16, .int .i64 9, .int .i64 2, .int .i64 16] 3))
  have y8 := y7.alloc (.cells #[.int .i64 16, .int .i64 16, .int .i64 9, .int .i64 2, .int .i64 16] 3)
  have ks8 := K_below ks7 (below_one w7 (.cells #[.int .i64 16, .int .i64 16, .int .i64 9, .int .i64 2, .int .i64 16] 3))
  have z8 : Box (w7.alloc (.cells #[.int .i64 16, .int .i64 16, .int .i64 9, .int .i64 2, .int .i64 16] 3)) w7.heap.size 3 [.int .i64 16, .int .i64 16, .int .i64 9, .int .i64 2, .int .i64 16] := Box.mk_ _ rfl rfl
  have t8 := below_more t7 (.cells #[.int .i64 16, .int .i64 16, .int .i64 9, .int .i64 2, .int .i64 16] 3)
  have n1 : w2.heap.size < w6.heap.size := x6.lt
  have n2 : w6.heap.size < w7.heap.size := x7.lt
  have HN := Lib.hid (And.intro t2.size (And.intro n1 n2))
  have HST : Hid (Aw1 w2.heap.size w6.heap.size w7.heap.size w (.bool true) (.int .i64 0) (w7.alloc (.cells #[.int .i64 16, .int .i64 16, .int .i64 9, .int .i64 2, .int .i64 16] 3))) := Lib.hid ⟨0, by decide, rfl, rfl, ⟨c2, y8, ks8⟩, ⟨c3, x8, k8⟩, z8, t8⟩
  clear x8 k8 y8 ks8 z8 t8 n1 n2 k1 k3 k4 k5 k6 k7 ks6 ks7 x1 x4 x5 x6 x7 y7 hc3 hc5 hc7 b0 b1 b4 b6 bb4 t2 t3 t4 t5 t6 t7 k0 L1 L2 L3
  go_loopw [6, 36] (Aw1 w2.heap.size w6.heap.size w7.heap.size w) (fun _ vi _ => 5 - (intOf vi).toNat)
  case atStart => exact HST.out
  case round =>
    obtain ⟨k, hk, rfl, rfl, ⟨cs, xs, ks⟩, ⟨cc, xc, kc⟩, xr, hB⟩ := hrel
    by_cases hlt : k < 5
    · have n0 : wr.cell? ⟨w7.heap.size, k, none⟩ = some (.int .i64 (awN.getD k 0)) := xr.cell k _ (by
        have : ∀ j ∈ List.range 5, ([.int .i64 16, .int .i64 16, .int .i64 9, .int .i64 2, .int .i64 16] : List Value)[j]? = some (.int .i64 (awN.getD j 0)) := by
          intro j hj
          have : j < 5 := List.mem_range.1 hj
          rcases j with _ | _ | _ | _ | _ | j <;> first | rfl | omega
        exact this k (List.mem_range.2 hlt))
      have nl := xr.lt
      obtain ⟨n, hn⟩ : ∃ n, n = awN.getD k 0 := ⟨_, rfl⟩
      have Hn := Lib.hid hn
      have HLT := Lib.hid hlt
      rw [← hn] at n0
      clear hn
      have L1 := rSt.len ks
      have L2 := rCS.len kc
      go_wp2_with (first
        | (refine wp_box_load rfl 28 _ rfl rfl xs Tryz.underlying28 rfl (by rw [L1]; exact siz28) ?_)
        | (refine wp_box_load rfl 44 _ rfl rfl xc Tryz.underlying44 rfl (by rw [L2]; exact siz44) ?_)
        | (go_at_call 13; refine (find13 (awS k) cs newCS cc 0 gF (some 52) [argN n] (.slice (some ⟨wr.heap.size, 0, none⟩) 1 1) _ (K_below ks (below_one _ _)) (K_below kc (below_one _ _)) (argN_K n (by rw [Hn.out]; exact awN_ok k) wr) (awOk (by omega) n)).mono ?_; rintro e w9 ⟨kd, a, p, he, ho, hka, hkp, b9⟩; (have hf := awStepOk HLT.out ho); rw [← Hn.out] at hf; rw [hf] at he hka hkp; dsimp only at he hka hkp; subst he; clear hf ho; have bb9 := below_to (below_one wr _) b9; have La := rSt.len hka; have Lp := rPlan.len hkp)
        | (refine wp_box_store rfl 28 _ _ rfl (us := a) rfl rfl ((Box.mk_ w9 (cs := zSt) rfl rfl).alloc (.cells zPlan.toArray 48)) (by rw [La]; exact siz28) (by rw [La]; rfl) (rSt.one hka) ?_; intro w10 x10 hc10; have bb10 := hc10.below (below_more (below_more bb9 _) _) bb9.size; have ka10 := hc10.K (d := rSt) rfl (K_below hka (below_more (below_one w9 _) _)); have kp10 := hc10.K (d := rPlan) rfl (K_below hkp (below_more (below_one w9 _) _)); have xp10 := hc10.box_ty (Box.mk_ (w9.alloc (.cells zSt.toArray 28)) (b := w9.heap.size + 1) (cs := zPlan) (t := 48) (by simp) rfl) (by decide))
        | (refine wp_box_store rfl 48 _ _ rfl (us := p) rfl rfl xp10 (by rw [Lp]; exact siz48) (by rw [Lp]; rfl) (rPlan.one hkp) ?_; intro w11 xp11 hc11; have xa11 := hc11.box_ty x10 (by decide); have bb11 := hc11.below bb10 (by have := bb9.size; omega); have ka11 := hc11.K (d := rSt) rfl ka10; have kp11 := hc11.K (d := rPlan) rfl kp10)
        | go_in)
      have hs9 : wr.heap.size ≤ w9.heap.size := bb9.size
      have hs11 : wr.heap.size < w11.heap.size := by have := xa11.lt; have := bb9.size; omega
      have hB11 := below_to hB bb11
      have xs11 := xs.later bb11
      have xc11 := xc.later bb11
      have kc11 := K_below kc bb11
      have xr11 := xr.later bb11
      have HS := Lib.hid (fun W (b : Below w11.heap.size w11 W) => showF_call p W (K_below kp11 b))
      clear ka10 kp10 x10 xp10 hc10 hc11 hka hkp bb9 bb10 b9 bb11
      go_upto_region 9 with fail
      obtain ⟨s1, hs1⟩ : ∃ s1, s1 = awS (k + 1) := ⟨_, rfl⟩
      rw [← hs1] at ka11
      have HS1 := Lib.hid hs1
      clear hs1
      obtain ⟨sg, sc, rfl, g1, g2, g3⟩ := id ka11
      obtain ⟨p0, p1, p2, p3, rfl, _⟩ := id kp11
      obtain ⟨A1, n1, rfl⟩ := slice_form g1
      obtain ⟨A2, n2, rfl⟩ := slice_form g2
      clear g1 g2 g3
      obtain ⟨f0, f1, f2, f3, f4, f5, ff, fl⟩ := xa11.six
      obtain ⟨e0, e1, e2, e3, e4, ef, el⟩ := xp11.five
      obtain ⟨cu, cv, rfl, _, _⟩ := id ks
      have HNe : Hid (w9.heap.size ≠ w2.heap.size) := Lib.hid (by have := xs.lt; have := hs9; omega)
      have HNe2 : Hid (¬ w9.heap.size + 1 = w2.heap.size) := Lib.hid (by have := xs.lt; have := hs9; omega)
      clear f0 f1 f2 f3 f4 f5 e0 e1 e2 e3 e4
      obtain ⟨f0, f1, f2, f3, f4, f5, ff, fl⟩ := xa11.six
      obtain ⟨e0, e1, e2, e3, e4, ef, el⟩ := xp11.five
      have ne1 : ¬ w9.heap.size = w2.heap.size := HNe.out
      have ne2 : ¬ w2.heap.size = w9.heap.size := fun h => HNe.out h.symm
      have ne3 : ¬ w9.heap.size + 1 = w2.heap.size := HNe2.out
      have ne4 : ¬ w2.heap.size = w9.heap.size + 1 := fun h => HNe2.out h.symm
      go_region_held3 (fun w' => w'.cell? ⟨w9.heap.size, 0, none⟩ = some (.slice A1 s1.gens.length n1) ∧ w'.cell? ⟨w9.heap.size, 1, none⟩ = some (.int .i64 s1.hits) ∧ w'.cell? ⟨w9.heap.size, 2, none⟩ = some (.int .i64 s1.misses) ∧ w'.cell? ⟨w9.heap.size, 3, none⟩ = some (.slice A2 s1.caches.length n2) ∧ w'.cell? ⟨w9.heap.size, 4, none⟩ = some (.int .i64 s1.most) ∧ w'.cell? ⟨w9.heap.size, 5, none⟩ = some (.int .i64 s1.clock) ∧ w'.cell? ⟨w9.heap.size + 1, 0, none⟩ = some (p0) ∧ w'.cell? ⟨w9.heap.size + 1, 1, none⟩ = some (p1) ∧ w'.cell? ⟨w9.heap.size + 1, 2, none⟩ = some (p2) ∧ w'.cell? ⟨w9.heap.size + 1, 3, none⟩ = some (p3) ∧ w'.cell? ⟨w9.heap.size + 1, 4, none⟩ = some (.string planF.op))
          (go_keep)
          (first
            | (go_at_call 20; refine (showF_call _ w11.drew (K_below kp11 (below_drew w11))).mono ?_; rintro e w12 ⟨rfl, b12⟩; have bb12 := below_to (below_drew w11) b12; have xs12 := xs11.later bb12; have xa12 := xa11.later bb12; have xp12 := xp11.later bb12; obtain ⟨i0, i1, i2, i3, i4, i5, if_, il⟩ := xa12.six; obtain ⟨j0, j1, j2, j3, j4, jf, jl⟩ := xp12.five; obtain ⟨z0, z1, z2, z3, z4, z5, zf, zl⟩ := xs12.six))
      go_wp2_with fail
      obtain ⟨bx, hcx⟩ := xs12.putAll [.slice A1 s1.gens.length n1, .int .i64 s1.hits, .int .i64 s1.misses, .slice A2 s1.caches.length n2, .int .i64 s1.most, .int .i64 s1.clock] rfl
      have kx := hcx.K (d := rSt) rfl (K_below ka11 bb12)
      refine ⟨aw_next HLT.out HS1.out ⟨_, bx, kx⟩ ⟨cc, hcx.box_ty (xc11.later bb12) (by decide), hcx.K (d := rCS) rfl (K_below kc11 bb12)⟩ (hcx.box_ty (xr11.later bb12) (by decide)) (hcx.below (below_to hB11 bb12) HN.out.1), ?_⟩
      have := HLT.out
      simp [intOf]
      omega
    · have hk5 : k = 5 := by omega
      subst hk5
      obtain ⟨s5, hs5⟩ : ∃ s5, s5 = awS 5 := ⟨_, rfl⟩
      have hE := awEnd
      rw [← hs5] at ks hE
      clear hs5
      obtain ⟨sg, sc, rfl, g1, g2, g3⟩ := id ks
      obtain ⟨A1, n1, rfl⟩ := slice_form g1
      obtain ⟨A2, n2, rfl⟩ := slice_form g2
      rw [hE.1, hE.2.1] at ks xs
      obtain ⟨f0, f1, f2, f3, f4, f5, ff, fl⟩ := xs.six
      have HKs := Lib.hid (And.intro ks hE.2.2)
      clear g1 g2 g3 hE ks
      go_wp2_with (first
        | (go_at_call 19; refine (entries19 s5 _ 0 _ HKs.out.1).mono ?_; rw [HKs.out.2]; rintro e w9 ⟨rfl, b9⟩)
        | go_in)
      exact bodyPost_ret (v := .bool true) (by simp [results, Tryz.results7, go_sem]) rfl ⟨rfl, below_to hB b9⟩
end Go.Proofs.YtoncaejgflfhhaaGreatDoor
