/- slices' symMerge by a function: a row in order and one number. | slices' symMerge by a function: what it rests on. No program here but the comparison. -/
import Derived.Test.YtoncaejgflfhhaaGreatDoorM19
set_option linter.unusedVariables false
set_option linter.unusedSimpArgs false
namespace Go.Proofs.YtoncaejgflfhhaaGreatDoor
open Go.RowKit

set_option maxHeartbeats 4000000 in
set_option maxRecDepth 100000 in
theorem symLast170 (A X : List Int) (y : Int) (C : List Int) (a m N g cap base : Nat) (f : FuncId) (fv : Array Value) (rk : Int → List Int) (E : Int → Prop) (w : World) (ha : A.length = a) (hb : a + X.length = m) (h2 : 2 ≤ X.length) (hN : N = (A ++ (X ++ y :: C)).length) (hm : N ≤ 1000000)
    (hY : X.Pairwise (ltc rk)) (hlt : ∀ x ∈ X, x < y) (hx : E y) (hE : ∀ x ∈ X, E x) (he : Enters f) (hf : CmpOk f fv rk E w g) (hO : Own 3 Rp.int base w (.slice (some ⟨g, 0, none⟩) N cap) (A ++ (X ++ y :: C))) :
    Calls Tryz.prog 170 #[.slice (some ⟨g, 0, none⟩) N cap, .int .i64 a, .int .i64 m, .int .i64 (m + 1), .func (.func f) #[] fv] w (Merged rk A X [y] C base N g cap w) := by
  have hN2 : N = m + 1 + C.length := by rw [hN]; simp; omega
  have hbN : m + 1 ≤ N := by omega
  have hab : a + 2 ≤ m := by omega
  have hL := Lib.hid (And.intro ha (And.intro hb (And.intro hN2 (And.intro h2 (And.intro hY (And.intro hlt (And.intro hE hN)))))))
  have HF := Lib.hid hf
  have HO := Lib.hid hO
  unfold Enters at he
  have e0 : ((m : Int) - a == 1) = false := by rw [beq_eq_false_iff_ne]; omega
  have e1 : (m : Int) + 1 - m = 1 := by omega
  clear ha hb h2 hN hN2 hY hlt hE hf hO
  go_enter Tryz.func170, Tryz.ntmps170
  go_wp2
  clear e0 e1
  go_loopw [14, 15, 16] (fun vi vj vh wr => ∃ i j : Nat, vi = .int .i64 i ∧ vj = .int .i64 j ∧ a ≤ i ∧ i ≤ j ∧ j ≤ m ∧ Own 3 Rp.int base wr (.slice (some ⟨g, 0, none⟩) N cap) (A ++ (X ++ y :: C)) ∧ w.grownBy wr (some g) ∧ Hid ((∀ k (hk : k < X.length), k < i - a → ltc rk X[k] y) ∧ (∀ k (hk : k < X.length), j - a ≤ k → ltc rk y X[k]))) (fun vi vj _ _ => (intOf vj).toNat - (intOf vi).toNat)
  case atStart => exact ⟨a, m, rfl, rfl, Nat.le_refl _, by omega, Nat.le_refl _, HO.out, World.grownBy.refl w (some g), Lib.hid ⟨fun k _ h => by omega, fun k hk h => by have := hL.out; omega⟩⟩
  case round =>
    obtain ⟨i, j, rfl, rfl, hi, hij, hj, hO, hg, HH⟩ := hrel
    by_cases hlt : i < j
    · obtain ⟨h, hh⟩ : ∃ h : Nat, h = (i + j) / 2 := ⟨_, rfl⟩
      have hh1 : ((i : Int) + j) / 2 = (h : Int) := by omega
      have hih : i ≤ h := by omega
      have hhj : h < j := by omega
      obtain ⟨k, hk⟩ : ∃ k, k = h - a := ⟨_, rfl⟩
      have hkl : k < X.length := by have := hL.out; omega
      have hak : h = a + k := by omega
      obtain ⟨x, hxd⟩ : ∃ x, x = X[k] := ⟨_, rfl⟩
      obtain ⟨c1, cf, cl, _, _⟩ := hO.at1 hL.out.2.2.2.2.2.2.2 (i := h) (x := x) (by rw [hak, get_in _ _ _ _ _ hL.out.1 hkl, hxd])
      obtain ⟨c2, _, _, _, _⟩ := hO.at1 hL.out.2.2.2.2.2.2.2 (i := m) (x := y) (by rw [show A ++ (X ++ y :: C) = (A ++ X) ++ y :: C from by simp]; exact get_mid _ _ _ _ (by have := hL.out; simp; omega))
      have hxm : x ∈ X := by rw [hxd]; exact List.getElem_mem _
      have HC := Lib.hid (HF.out y x hx (hL.out.2.2.2.2.2.2.1 x hxm))
      have hxy := hL.out.2.2.2.2.2.1 x hxm
      have HK := Lib.hid (And.intro hh (And.intro hk (And.intro hak (And.intro hxd hxy))))
      have s1 : (h : Int) < N := by omega
      have s2 : (m : Int) < N := by omega
      have s3 : (i : Int) + j ≤ 2000000 := by omega
      clear hh hk hxd hxy hxm hak
      by_cases hc : cmpL (rk y) (rk x) < 0
      · have hcd : decide (cmpL (rk y) (rk x) < 0) = true := decide_eq_true hc
        have HCC := Lib.hid ((ltc_later HK.out.2.2.2.2).2 hc)
        clear hc
        go_wp2
        go_quiet ((exact Calls.quiet_of_same (HC.out _ (grown_dN hg _))))
        go_wp2
        refine ⟨⟨i, h, rfl, rfl, hi, hih, by omega, hO.dN _, grown_dN hg _, Lib.hid ⟨HH.out.1, fun k' hk' hge => ?_⟩⟩, by simp [intOf]; omega⟩
        have := HK.out
        rcases Nat.lt_or_ge k k' with h | h
        · exact ltc_trans (by rw [← this.2.2.2.1] at *; exact HCC.out) (pw_get hL.out.2.2.2.2.1 hkl hk' h)
        · have : k' = k := by omega
          subst this
          rw [← HK.out.2.2.2.1]
          exact HCC.out
      · have hcd : decide (cmpL (rk y) (rk x) < 0) = false := decide_eq_false hc
        have HCC := Lib.hid (ltc_not (fun h => hc ((ltc_later HK.out.2.2.2.2).1 h)) (by have := HK.out.2.2.2.2; omega))
        clear hc
        go_wp2
        go_quiet ((exact Calls.quiet_of_same (HC.out _ (grown_dN hg _))))
        go_wp2
        refine ⟨⟨h + 1, j, by go_num, rfl, by omega, by omega, hj, hO.dN _, grown_dN hg _, Lib.hid ⟨fun k' hk' hlt' => ?_, HH.out.2⟩⟩, by simp [intOf]; omega⟩
        have := HK.out
        rcases Nat.lt_or_ge k' k with h | h
        · exact ltc_trans (pw_get hL.out.2.2.2.2.1 hk' hkl h) (by rw [← this.2.2.2.1]; exact HCC.out)
        · have : k' = k := by omega
          subst this
          rw [← HK.out.2.2.2.1]
          exact HCC.out
    · obtain ⟨p, hp⟩ : ∃ p, p = i - a := ⟨_, rfl⟩
      have hip : i = a + p := by omega
      have hpl : p ≤ X.length := by have := hL.out; omega
      have hij' : j = i := by omega
      subst hij'
      rw [← hp] at HH
      have HOO := Lib.hid hO
      have HGG := Lib.hid hg
      have HI := Lib.hid hip
      clear hO hg hp hip
      go_wp2
      go_loopw [17] (fun vk wr => ∃ r : Nat, vk = .int .i64 r ∧ j ≤ r ∧ r ≤ m ∧ Own 3 Rp.int base wr (.slice (some ⟨g, 0, none⟩) N cap) (A ++ (X.take (r - a) ++ y :: (X.drop (r - a) ++ C))) ∧ w.grownBy wr (some g)) (fun vk _ => (intOf vk).toNat)
      case atStart =>
        refine ⟨m, rfl, hj, Nat.le_refl _, ?_, HGG.out⟩
        have h1 : X.take (m - a) = X := List.take_of_length_le (by have := hL.out; omega)
        have h2 : X.drop (m - a) = [] := List.drop_of_length_le (by have := hL.out; omega)
        rw [h1, h2, List.nil_append]
        exact HOO.out
      case round =>
        obtain ⟨r, rfl, har, hrp, hO, hg⟩ := hrel
        clear HOO HGG
        by_cases hqp : j < r
        · obtain ⟨t, ht0⟩ : ∃ t, t + 1 = r := ⟨r - 1, by omega⟩
          subst ht0
          obtain ⟨q, hq⟩ : ∃ q, q = t - a := ⟨_, rfl⟩
          have hq1 : t + 1 - a = q + 1 := by omega
          have haq : a + q = t := by omega
          rw [hq1] at hO
          have hql : q < X.length := by have := hL.out; omega
          have hd : X.drop q = X[q] :: X.drop (q + 1) := List.drop_eq_getElem_cons hql
          obtain ⟨z, hz⟩ : ∃ z, z = X[q] := ⟨_, rfl⟩
          rw [← hz] at hd
          have ht : X.take (q + 1) = X.take q ++ [z] := by rw [List.take_succ_eq_append_getElem hql, hz]
          rw [ht] at hO
          have l1 : (A ++ X.take q).length = t := by rw [List.length_append, hL.out.1, List.length_take]; omega
          have l2 : (A ++ (X.take q ++ [z])).length = t + 1 := by simp only [List.length_append, List.length_cons, List.length_nil, hL.out.1, List.length_take]; omega
          have hn : N = (A ++ ((X.take q ++ [z]) ++ y :: (X.drop (q + 1) ++ C))).length := by
            rw [hL.out.2.2.2.2.2.2.2, ← ht]
            simp
            omega
          have f1 : A ++ ((X.take q ++ [z]) ++ y :: (X.drop (q + 1) ++ C)) = (A ++ (X.take q ++ [z])) ++ y :: (X.drop (q + 1) ++ C) := by simp
          have f2 : A ++ ((X.take q ++ [z]) ++ y :: (X.drop (q + 1) ++ C)) = (A ++ X.take q) ++ z :: (y :: (X.drop (q + 1) ++ C)) := by simp
          have f3 : ((A ++ ((X.take q ++ [z]) ++ y :: (X.drop (q + 1) ++ C))).set (t + 1) z).set t y = A ++ (X.take q ++ y :: (X.drop q ++ C)) := by
            rw [f1, set_mid _ _ _ _ _ l2]
            rw [show (A ++ (X.take q ++ [z])) ++ z :: (X.drop (q + 1) ++ C) = (A ++ X.take q) ++ z :: (z :: (X.drop (q + 1) ++ C)) from by simp, set_mid _ _ _ _ _ l1, hd]
            simp
          obtain ⟨c1, cf, cl, o1, b1⟩ := hO.at1 hn (i := t + 1) (x := y) (by rw [f1]; exact get_mid _ _ _ _ l2)
          obtain ⟨c2, _, _, o2, _⟩ := hO.at1 hn (i := t) (x := z) (by rw [f2]; exact get_mid _ _ _ _ l1)
          have HP := Lib.hid (And.intro hq (And.intro hn (And.intro f3 (And.intro o1 o2))))
          have s1 : IntKind.i64.wrap (t : Int) = (t : Int) := IntWalk.i64_in _ (by omega)
          have s2 : ((t : Int) + 1).toNat = t + 1 := by omega
          have s3 : (t : Int) + 1 < N := by omega
          have s4 : (t : Int) < N := by omega
          have s5 : (0 : Int) ≤ (t : Int) + 1 := by omega
          have s6 : ¬ t + 1 = t := by omega
          have s7 : ¬ t = t + 1 := by omega
          clear hq hq1 haq hd hz ht l1 l2 hn f1 f2 f3 o1 o2
          go_wp2
          go_region
          obtain ⟨s1', r1⟩ := hO.set1 HP.out.2.1 (i := t + 1) (by omega) HP.out.2.2.2.2
          obtain ⟨s2', r2⟩ := s1'.set1 (by rw [List.length_set]; exact HP.out.2.1) (i := t) (by omega) HP.out.2.2.2.1
          rw [HP.out.2.2.1] at s2'
          have HS := Lib.hid (And.intro s2' ((hg.trans r1).trans r2))
          clear s1' r1 s2' r2
          go_wp2
          refine ⟨⟨t, rfl, by omega, by omega, ?_, grown_below HS.out.2 (below_drew _)⟩, by simp [intOf]⟩
          rw [← HP.out.1]
          exact HS.out.1.drew
        · have hra : r - a = p := by have := HI.out; omega
          rw [hra] at hO
          have HH2 := Lib.hid hO
          clear hra hO
          go_wp2
          refine bodyPost_ret (results_none rfl _ _ _) rfl ?_
          refine ⟨rfl, X.take p ++ y :: X.drop p, put_sorted hL.out.2.2.2.2.1 HH.out.1 (fun k hk hge => HH.out.2 k hk (by have := HI.out; omega)), ?_, ?_, hg⟩
          · refine (List.perm_middle).trans ?_
            rw [List.take_append_drop]
            exact (List.perm_append_singleton y X).symm
          · simpa using HH2.out
end Go.Proofs.YtoncaejgflfhhaaGreatDoor
namespace Go.Proofs.YtoncaejgflfhhaaGreatDoor
open Go.RowKit

theorem CmpOk.later {f : FuncId} {fv : Array Value} {rk : Int → List Int} {E : Int → Prop} {w w' : World} {g : Nat} (h : CmpOk f fv rk E w g) (hg : w.grownBy w' (some g)) : CmpOk f fv rk E w' g :=
  fun x y hx hy w'' h' => h x y hx hy w'' (hg.trans h')
/-- The two halves behind the turn. -/
theorem halves {rk : Int → List Int} {X Y : List Int} {i j : Nat} (hX : X.Pairwise (ltc rk)) (hY : Y.Pairwise (ltc rk)) (hi : i ≤ X.length) (hj : j ≤ Y.length)
    (h1 : 0 < i → j < Y.length → ∀ (a : i - 1 < X.length) (b : j < Y.length), ltc rk X[i - 1] Y[j]) (h2 : i < X.length → 0 < j → ∀ (a : i < X.length) (b : j - 1 < Y.length), ltc rk Y[j - 1] X[i]) :
    ∀ x ∈ X.take i ++ Y.take j, ∀ y ∈ X.drop i ++ Y.drop j, ltc rk x y := by
  intro x hx y hy
  have px : ∀ k (hk : k < X.length) l (hl : l < X.length), k < l → ltc rk X[k] X[l] := fun k hk l hl h => pw_get hX hk hl h
  have py : ∀ k (hk : k < Y.length) l (hl : l < Y.length), k < l → ltc rk Y[k] Y[l] := fun k hk l hl h => pw_get hY hk hl h
  have tk : ∀ {l : List Int} {n : Nat} {z : Int}, z ∈ l.take n → ∃ k, ∃ (hk : k < l.length), k < n ∧ z = l[k] := by
    intro l n z hz
    obtain ⟨k, hk, rfl⟩ := List.mem_iff_getElem.1 hz
    rw [List.length_take] at hk
    exact ⟨k, by omega, by omega, List.getElem_take ..⟩
  have dr : ∀ {l : List Int} {n : Nat} {z : Int}, z ∈ l.drop n → ∃ k, ∃ (hk : k < l.length), n ≤ k ∧ z = l[k] := by
    intro l n z hz
    obtain ⟨k, hk, rfl⟩ := List.mem_iff_getElem.1 hz
    rw [List.length_drop] at hk
    exact ⟨n + k, by omega, by omega, List.getElem_drop ..⟩
  rcases List.mem_append.1 hx with hx | hx
  · obtain ⟨k, hk, hki, rfl⟩ := tk hx
    rcases List.mem_append.1 hy with hy | hy
    · obtain ⟨l, hl, hli, rfl⟩ := dr hy
      exact px k hk l hl (by omega)
    · obtain ⟨l, hl, hli, rfl⟩ := dr hy
      have h := h1 (by omega) (by omega) (by omega) (by omega)
      have h3 : ltc rk X[k] Y[j] := by
        rcases Nat.lt_or_ge k (i - 1) with h' | h'
        · exact ltc_trans (px k hk (i - 1) (by omega) h') h
        · have : k = i - 1 := by omega
          subst this
          exact h
      rcases Nat.lt_or_ge j l with h' | h'
      · exact ltc_trans h3 (py j (by omega) l hl h')
      · have : l = j := by omega
        subst this
        exact h3
  · obtain ⟨k, hk, hki, rfl⟩ := tk hx
    rcases List.mem_append.1 hy with hy | hy
    · obtain ⟨l, hl, hli, rfl⟩ := dr hy
      have h := h2 (by omega) (by omega) (by omega) (by omega)
      have h3 : ltc rk Y[k] X[i] := by
        rcases Nat.lt_or_ge k (j - 1) with h' | h'
        · exact ltc_trans (py k hk (j - 1) (by omega) h') h
        · have : k = j - 1 := by omega
          subst this
          exact h
      rcases Nat.lt_or_ge i l with h' | h'
      · exact ltc_trans h3 (px i (by omega) l hl h')
      · have : l = i := by omega
        subst this
        exact h3
    · obtain ⟨l, hl, hli, rfl⟩ := dr hy
      exact py k hk l hl (by omega)
/-- Both halves in order, and each behind the other: the whole. -/
theorem halves_join {rk : Int → List Int} {X Y Z1 Z2 : List Int} {i j : Nat} (hc : ∀ x ∈ X.take i ++ Y.take j, ∀ y ∈ X.drop i ++ Y.drop j, ltc rk x y) (h1 : Z1.Pairwise (ltc rk)) (h2 : Z2.Pairwise (ltc rk)) (p1 : Z1.Perm (X.take i ++ Y.take j)) (p2 : Z2.Perm (X.drop i ++ Y.drop j)) :
    (Z1 ++ Z2).Pairwise (ltc rk) ∧ (Z1 ++ Z2).Perm (X ++ Y) := by
  refine ⟨List.pairwise_append.2 ⟨h1, h2, fun x hx y hy => hc x (p1.mem_iff.1 hx) y (p2.mem_iff.1 hy)⟩, ?_⟩
  refine (p1.append p2).trans ?_
  have e : X ++ Y = (X.take i ++ X.drop i) ++ (Y.take j ++ Y.drop j) := by rw [List.take_append_drop, List.take_append_drop]
  rw [e]
  simp only [List.append_assoc]
  refine List.Perm.append_left _ ?_
  rw [← List.append_assoc, ← List.append_assoc (X.drop i)]
  exact List.Perm.append_right _ List.perm_append_comm
/-- Where one half is empty they are in order already. -/
theorem half_sorted {rk : Int → List Int} {X Y : List Int} (hX : X.Pairwise (ltc rk)) (hY : Y.Pairwise (ltc rk)) (h : X = [] ∨ Y = []) : (X ++ Y).Pairwise (ltc rk) := by
  rcases h with rfl | rfl
  · simpa using hY
  · simpa using hX
end Go.Proofs.YtoncaejgflfhhaaGreatDoor
