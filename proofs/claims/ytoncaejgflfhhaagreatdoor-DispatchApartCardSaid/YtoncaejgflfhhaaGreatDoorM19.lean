/- slices' symMerge by a function: one number and a row in order. -/
import Derived.Test.YtoncaejgflfhhaaGreatDoorM18
set_option linter.unusedVariables false
set_option linter.unusedSimpArgs false
namespace Go.Proofs.YtoncaejgflfhhaaGreatDoor
open Go.RowKit

theorem get_in {α : Type} (P Y S : List α) (n k : Nat) (h : P.length = n) (hk : k < Y.length) : (P ++ (Y ++ S))[n + k]? = some Y[k] := by
  subst h
  rw [List.getElem?_append_right (by omega), Nat.add_sub_cancel_left, List.getElem?_append_left hk, List.getElem?_eq_getElem hk]
theorem pw_get {rk : Int → List Int} {Y : List Int} (h : Y.Pairwise (ltc rk)) {i j : Nat} (hi : i < Y.length) (hj : j < Y.length) (hij : i < j) : ltc rk Y[i] Y[j] := List.pairwise_iff_getElem.1 h i j hi hj hij
/-- x among Y, behind all that are less. -/
theorem put_sorted {rk : Int → List Int} {Y : List Int} {x : Int} {p : Nat} (h : Y.Pairwise (ltc rk)) (h1 : ∀ k (hk : k < Y.length), k < p → ltc rk Y[k] x) (h2 : ∀ k (hk : k < Y.length), p ≤ k → ltc rk x Y[k]) : (Y.take p ++ x :: Y.drop p).Pairwise (ltc rk) := by
  have hs := h
  rw [← List.take_append_drop p Y, List.pairwise_append] at hs
  rw [List.pairwise_append]
  refine ⟨hs.1, List.pairwise_cons.2 ⟨fun y hy => ?_, hs.2.1⟩, fun y hy z hz => ?_⟩
  · obtain ⟨k, hk, rfl⟩ := List.mem_iff_getElem.1 hy
    rw [List.getElem_drop]
    exact h2 _ (by rw [List.length_drop] at hk; omega) (by omega)
  · rcases List.mem_cons.1 hz with rfl | hz
    · obtain ⟨k, hk, rfl⟩ := List.mem_iff_getElem.1 hy
      rw [List.getElem_take]
      rw [List.length_take] at hk
      exact h1 _ (by omega) (by omega)
    · exact hs.2.2 y hy z hz

/-- What a merge leaves. -/
def Merged (rk : Int → List Int) (A X Y C : List Int) (base N g cap : Nat) (w : World) (e : Ending) (w' : World) : Prop :=
  e = .returned (.tuple #[]) ∧ ∃ Z, Z.Pairwise (ltc rk) ∧ Z.Perm (X ++ Y) ∧ Own 3 Rp.int base w' (.slice (some ⟨g, 0, none⟩) N cap) (A ++ (Z ++ C)) ∧ w.grownBy w' (some g)

set_option maxHeartbeats 4000000 in
set_option maxRecDepth 100000 in
theorem symOne170 (A : List Int) (x : Int) (Y C : List Int) (a b N g cap base : Nat) (f : FuncId) (fv : Array Value) (rk : Int → List Int) (E : Int → Prop) (w : World) (ha : A.length = a) (hb : a + 1 + Y.length = b) (hN : N = (A ++ (x :: (Y ++ C))).length) (hm : N ≤ 1000000)
    (hY : Y.Pairwise (ltc rk)) (hlt : ∀ y ∈ Y, x < y) (hx : E x) (hE : ∀ y ∈ Y, E y) (he : Enters f) (hf : CmpOk f fv rk E w g) (hO : Own 3 Rp.int base w (.slice (some ⟨g, 0, none⟩) N cap) (A ++ (x :: (Y ++ C)))) :
    Calls Tryz.prog 170 #[.slice (some ⟨g, 0, none⟩) N cap, .int .i64 a, .int .i64 (a + 1), .int .i64 b, .func (.func f) #[] fv] w (Merged rk A [x] Y C base N g cap w) := by
  have hN2 : N = b + C.length := by rw [hN]; simp; omega
  have hbN : b ≤ N := by omega
  have hab : a + 1 ≤ b := by omega
  have hL := Lib.hid (And.intro ha (And.intro hb (And.intro hN2 (And.intro hY (And.intro hlt (And.intro hE hN))))))
  have HF := Lib.hid hf
  have HO := Lib.hid hO
  unfold Enters at he
  have e0 : (a : Int) + 1 - a = 1 := by omega
  clear ha hb hN hN2 hY hlt hE hf hO
  go_enter Tryz.func170, Tryz.ntmps170
  go_wp2
  clear e0
  go_loopw [10, 11, 12] (fun vi vj vh wr => ∃ i j : Nat, vi = .int .i64 i ∧ vj = .int .i64 j ∧ a + 1 ≤ i ∧ i ≤ j ∧ j ≤ b ∧ Own 3 Rp.int base wr (.slice (some ⟨g, 0, none⟩) N cap) (A ++ (x :: (Y ++ C))) ∧ w.grownBy wr (some g) ∧ Hid ((∀ k (hk : k < Y.length), k < i - (a + 1) → ltc rk Y[k] x) ∧ (∀ k (hk : k < Y.length), j - (a + 1) ≤ k → ltc rk x Y[k]))) (fun vi vj _ _ => (intOf vj).toNat - (intOf vi).toNat)
  case atStart => exact ⟨a + 1, b, by go_num, rfl, Nat.le_refl _, hab, Nat.le_refl _, HO.out, World.grownBy.refl w (some g), Lib.hid ⟨fun k _ h => by omega, fun k hk h => by have := hL.out; omega⟩⟩
  case round =>
    obtain ⟨i, j, rfl, rfl, hi, hij, hj, hO, hg, HH⟩ := hrel
    by_cases hlt : i < j
    · obtain ⟨h, hh⟩ : ∃ h : Nat, h = (i + j) / 2 := ⟨_, rfl⟩
      have hh1 : ((i : Int) + j) / 2 = (h : Int) := by omega
      have hih : i ≤ h := by omega
      have hhj : h < j := by omega
      obtain ⟨k, hk⟩ : ∃ k, k = h - (a + 1) := ⟨_, rfl⟩
      have hkl : k < Y.length := by have := hL.out; omega
      have hak : h = a + 1 + k := by omega
      obtain ⟨y, hy⟩ : ∃ y, y = Y[k] := ⟨_, rfl⟩
      obtain ⟨c1, cf, cl, _, _⟩ := hO.at1 hL.out.2.2.2.2.2.2 (i := h) (x := y) (by rw [hak, show A ++ (x :: (Y ++ C)) = (A ++ [x]) ++ (Y ++ C) from by simp, get_in _ _ _ _ _ (by simp; exact hL.out.1) hkl, hy])
      obtain ⟨c2, _, _, _, _⟩ := hO.at1 hL.out.2.2.2.2.2.2 (i := a) (x := x) (get_mid _ _ _ _ hL.out.1)
      have hym : y ∈ Y := by rw [hy]; exact List.getElem_mem _
      have HC := Lib.hid (HF.out y x (hL.out.2.2.2.2.2.1 y hym) hx)
      have hxy := hL.out.2.2.2.2.1 y hym
      have HK := Lib.hid (And.intro hh (And.intro hk (And.intro hak (And.intro hy hxy))))
      have s1 : (h : Int) < N := by omega
      have s2 : (a : Int) < N := by omega
      have s3 : (i : Int) + j ≤ 2000000 := by omega
      clear hh hk hy hxy hym hak
      by_cases hc : cmpL (rk y) (rk x) < 0
      · have hcd : decide (cmpL (rk y) (rk x) < 0) = true := decide_eq_true hc
        have HCC := Lib.hid ((ltc_later HK.out.2.2.2.2).2 hc)
        clear hc
        go_wp2
        go_quiet ((exact Calls.quiet_of_same (HC.out _ (grown_dN hg _))))
        go_wp2
        refine ⟨⟨h + 1, j, by go_num, rfl, by omega, by omega, hj, hO.dN _, grown_dN hg _, Lib.hid ⟨fun k' hk' hlt' => ?_, HH.out.2⟩⟩, by simp [intOf]; omega⟩
        have := HK.out
        rcases Nat.lt_or_ge k' k with h | h
        · exact ltc_trans (pw_get hL.out.2.2.2.1 hk' hkl h) (by rw [← this.2.2.2.1]; exact HCC.out)
        · have : k' = k := by omega
          subst this
          rw [← HK.out.2.2.2.1]
          exact HCC.out
      · have hcd : decide (cmpL (rk y) (rk x) < 0) = false := decide_eq_false hc
        have HCC := Lib.hid (ltc_not (fun h => hc ((ltc_later HK.out.2.2.2.2).1 h)) (by have := HK.out.2.2.2.2; omega))
        clear hc
        go_wp2
        go_quiet ((exact Calls.quiet_of_same (HC.out _ (grown_dN hg _))))
        go_wp2
        refine ⟨⟨i, h, rfl, rfl, hi, hih, by omega, hO.dN _, grown_dN hg _, Lib.hid ⟨HH.out.1, fun k' hk' hge => ?_⟩⟩, by simp [intOf]; omega⟩
        have := HK.out
        rcases Nat.lt_or_ge k k' with h | h
        · exact ltc_trans (by rw [← this.2.2.2.1] at *; exact HCC.out) (pw_get hL.out.2.2.2.1 hkl hk' h)
        · have : k' = k := by omega
          subst this
          rw [← HK.out.2.2.2.1]
          exact HCC.out
    · obtain ⟨p, hp⟩ : ∃ p, p = i - (a + 1) := ⟨_, rfl⟩
      have hip : i = a + 1 + p := by omega
      have hpl : p ≤ Y.length := by have := hL.out; omega
      have hij' : j = i := by omega
      subst hij'
      rw [← hp] at HH
      subst hip
      have HOO := Lib.hid hO
      have HGG := Lib.hid hg
      clear hO hg hp
      go_wp2
      go_loopw [13] (fun vk wr => ∃ r : Nat, vk = .int .i64 r ∧ a ≤ r ∧ r ≤ a + p ∧ Own 3 Rp.int base wr (.slice (some ⟨g, 0, none⟩) N cap) (A ++ (Y.take (r - a) ++ x :: (Y.drop (r - a) ++ C))) ∧ w.grownBy wr (some g)) (fun vk _ => a + p - (intOf vk).toNat)
      case atStart => exact ⟨a, rfl, Nat.le_refl _, by omega, by simpa using HOO.out, HGG.out⟩
      case round =>
        obtain ⟨r, rfl, har, hrp, hO, hg⟩ := hrel
        clear HOO HGG
        by_cases hqp : r < a + p
        · obtain ⟨q, hq⟩ : ∃ q, q = r - a := ⟨_, rfl⟩
          rw [← hq] at hO
          have hql : q < Y.length := by omega
          have hd : Y.drop q = Y[q] :: Y.drop (q + 1) := List.drop_eq_getElem_cons hql
          obtain ⟨y, hy⟩ : ∃ y, y = Y[q] := ⟨_, rfl⟩
          rw [← hy] at hd
          rw [hd] at hO
          have ht : Y.take (q + 1) = Y.take q ++ [y] := by rw [List.take_succ_eq_append_getElem hql, hy]
          have l1 : (A ++ Y.take q).length = r := by rw [List.length_append, hL.out.1, List.length_take]; omega
          have l2 : (A ++ (Y.take q ++ [x])).length = r + 1 := by simp only [List.length_append, List.length_cons, List.length_nil, hL.out.1, List.length_take]; omega
          have hn : N = (A ++ (Y.take q ++ x :: (y :: Y.drop (q + 1) ++ C))).length := by
            rw [hL.out.2.2.2.2.2.2, ← hd]
            simp
            omega
          have f1 : A ++ (Y.take q ++ x :: (y :: Y.drop (q + 1) ++ C)) = (A ++ Y.take q) ++ x :: (y :: Y.drop (q + 1) ++ C) := by simp
          have f2 : A ++ (Y.take q ++ x :: (y :: Y.drop (q + 1) ++ C)) = (A ++ (Y.take q ++ [x])) ++ y :: (Y.drop (q + 1) ++ C) := by simp
          have f3 : ((A ++ (Y.take q ++ x :: (y :: Y.drop (q + 1) ++ C))).set r y).set (r + 1) x = A ++ (Y.take (q + 1) ++ x :: (Y.drop (q + 1) ++ C)) := by
            rw [f1, set_mid _ _ _ _ _ l1]
            rw [show (A ++ Y.take q) ++ y :: (y :: Y.drop (q + 1) ++ C) = (A ++ (Y.take q ++ [y])) ++ y :: (Y.drop (q + 1) ++ C) from by simp, set_mid _ _ _ _ _ (by simpa using l2), ht]
            simp
          obtain ⟨c1, cf, cl, o1, _⟩ := hO.at1 hn (i := r) (x := x) (by rw [f1]; exact get_mid _ _ _ _ l1)
          obtain ⟨c2, _, _, o2, b2⟩ := hO.at1 hn (i := r + 1) (x := y) (by rw [f2]; exact get_mid _ _ _ _ l2)
          have HP := Lib.hid (And.intro hq (And.intro hn (And.intro f3 (And.intro o1 o2))))
          have s1 : IntKind.i64.wrap ((r : Int) + 1) = (r : Int) + 1 := IntWalk.i64_in _ (by omega)
          have s2 : ((r : Int) + 1).toNat = r + 1 := by omega
          have s3 : (r : Int) + 1 < N := by omega
          have s4 : (r : Int) < N := by omega
          have s5 : (0 : Int) ≤ (r : Int) + 1 := by omega
          have s6 : ¬ r + 1 = r := by omega
          have s7 : ¬ r = r + 1 := by omega
          have s8 : (r : Int) < (a : Int) + 1 + p - 1 := by omega
          clear hq hd hy ht l1 l2 hn f1 f2 f3 o1 o2
          go_wp2
          go_region
          obtain ⟨s1', r1⟩ := hO.set1 HP.out.2.1 (i := r) (by omega) HP.out.2.2.2.2
          obtain ⟨s2', r2⟩ := s1'.set1 (by rw [List.length_set]; exact HP.out.2.1) (i := r + 1) (by omega) HP.out.2.2.2.1
          rw [HP.out.2.2.1] at s2'
          have HS := Lib.hid (And.intro s2' ((hg.trans r1).trans r2))
          clear s1' r1 s2' r2
          go_wp2
          refine ⟨⟨r + 1, by go_num, by omega, by omega, ?_, grown_below HS.out.2 (below_drew _)⟩, by simp [intOf]; omega⟩
          have e1 : r + 1 - a = q + 1 := by have := HP.out.1; omega
          rw [e1]
          exact HS.out.1.drew
        · have s8 : (a : Int) + 1 + p - 1 ≤ r := by omega
          have hra : r - a = p := by omega
          rw [hra] at hO
          have HH2 := Lib.hid hO
          have hrap : r = a + p := by omega
          clear hra hO
          go_wp2
          refine bodyPost_ret (results_none rfl _ _ _) rfl ?_
          refine ⟨rfl, Y.take p ++ x :: Y.drop p, put_sorted hL.out.2.2.2.1 HH.out.1 (fun k hk hge => HH.out.2 k hk (by omega)), ?_, ?_, hg⟩
          · refine (List.perm_middle).trans ?_
            rw [List.take_append_drop]
            exact .refl _
          · simpa using HH2.out
end Go.Proofs.YtoncaejgflfhhaaGreatDoor
