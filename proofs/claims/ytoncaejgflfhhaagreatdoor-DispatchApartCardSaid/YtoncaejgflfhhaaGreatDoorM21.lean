/- slices' symMerge by a function: two rows in order become one. -/
import Derived.Test.YtoncaejgflfhhaaGreatDoorM20
import Derived.Deep.DeepCutAuto
set_option linter.unusedVariables false
set_option linter.unusedSimpArgs false
namespace Go.Proofs.YtoncaejgflfhhaaGreatDoor
open Go.RowKit

theorem merge_left {rk : Int → List Int} {X Y : List Int} (sX : X.Pairwise (ltc rk)) (sY : Y.Pairwise (ltc rk)) {a m pp h c : Nat} (hk : h - a < X.length) (hl : pp - h - m < Y.length) (hx : ltc rk X[h - a] Y[pp - h - m]) (h0 : a ≤ c) (h2 : c ≤ h) (hp : h + m ≤ pp) (h3 : c - a < X.length) (h4 : pp - c - m < Y.length) : ltc rk X[c - a] Y[pp - c - m] := by
  rcases Nat.lt_or_ge c h with h' | h'
  · exact ltc_trans (pw_get sX h3 hk (by omega)) (ltc_trans hx (pw_get sY hl h4 (by omega)))
  · have : c = h := by omega
    subst this
    exact hx
theorem merge_right {rk : Int → List Int} {X Y : List Int} (sX : X.Pairwise (ltc rk)) (sY : Y.Pairwise (ltc rk)) {a m pp h c : Nat} (hk : h - a < X.length) (hl : pp - h - m < Y.length) (hx : ltc rk Y[pp - h - m] X[h - a]) (h0 : a ≤ h) (h2 : h ≤ c) (hp : c + m ≤ pp) (h3 : c - a < X.length) (h4 : pp - c - m < Y.length) : ltc rk Y[pp - c - m] X[c - a] := by
  rcases Nat.lt_or_ge h c with h' | h'
  · exact ltc_trans (pw_get sY h4 hl (by omega)) (ltc_trans hx (pw_get sX hk h3 (by omega)))
  · have : c = h := by omega
    subst this
    exact hx

/-- What symMerge does, of rows of up to fuel values together. -/
def SymAt (N g cap base : Nat) (f : FuncId) (fv : Array Value) (rk : Int → List Int) (E : Int → Prop) (fuel : Nat) : Prop :=
  ∀ (A X Y C : List Int) (a m b : Nat) (w : World), X.length + Y.length ≤ fuel → A.length = a → a + X.length = m → m + Y.length = b → 0 < X.length → 0 < Y.length → N = (A ++ (X ++ (Y ++ C))).length →
    X.Pairwise (ltc rk) → Y.Pairwise (ltc rk) → (∀ x ∈ X, ∀ y ∈ Y, x < y) → (∀ x ∈ X, E x) → (∀ y ∈ Y, E y) → CmpOk f fv rk E w g → Own 3 Rp.int base w (.slice (some ⟨g, 0, none⟩) N cap) (A ++ (X ++ (Y ++ C))) →
    Calls Tryz.prog 170 #[.slice (some ⟨g, 0, none⟩) N cap, .int .i64 a, .int .i64 m, .int .i64 b, .func (.func f) #[] fv] w (Merged rk A X Y C base N g cap w)

set_option maxHeartbeats 40000000 in
set_option maxRecDepth 100000 in
theorem symStep170 (N g cap base : Nat) (f : FuncId) (fv : Array Value) (rk : Int → List Int) (E : Int → Prop) (hm : N ≤ 1000000) (he : Enters f) (fuel : Nat) (ih : SymAt N g cap base f fv rk E fuel) : SymAt N g cap base f fv rk E (fuel + 1) := by
    intro A X Y C a m b w hfu ha hX hY hx0 hy0 hN sX sY hXY eX eY hf hO
    have IH := Lib.hid ih
    clear ih
    by_cases hx1 : X.length = 1
    · obtain ⟨x, rfl⟩ : ∃ x, X = [x] := by
        match X, hx1 with
        | [x], _ => exact ⟨x, rfl⟩
      have h := symOne170 A x Y C a b N g cap base f fv rk E w ha (by simp at hX; omega) (by simpa using hN) hm sY (fun y hy => hXY x (by simp) y hy) (eX x (by simp)) eY he hf (by simpa using hO)
      have : (m : Int) = (a : Int) + 1 := by simp at hX; omega
      rw [this]
      exact h
    · by_cases hy1 : Y.length = 1
      · obtain ⟨y, rfl⟩ : ∃ y, Y = [y] := by
          match Y, hy1 with
          | [y], _ => exact ⟨y, rfl⟩
        have h := symLast170 A X y C a m N g cap base f fv rk E w ha hX (by omega) (by simpa using hN) hm sX (fun x hx => hXY x hx y (by simp)) (eY y (by simp)) eX he hf (by simpa using hO)
        have : (b : Int) = (m : Int) + 1 := by simp at hY; omega
        rw [this]
        exact h
      · skip
        unfold Enters at he
        have hN2 : N = b + C.length := by rw [hN]; simp; omega
        have hbN : b ≤ N := by omega
        have hmb : m + 2 ≤ b := by omega
        have ham : a + 2 ≤ m := by omega
        obtain ⟨mid, hmid⟩ : ∃ mid, mid = (a + b) / 2 := ⟨_, rfl⟩
        obtain ⟨nn, hnn⟩ : ∃ nn, nn = mid + m := ⟨_, rfl⟩
        obtain ⟨pp, hpp⟩ : ∃ pp, pp + 1 = nn := ⟨nn - 1, by omega⟩
        obtain ⟨st, hst⟩ : ∃ st, st = if mid < m then nn - b else a := ⟨_, rfl⟩
        obtain ⟨r0, hr0⟩ : ∃ r0, r0 = if mid < m then mid else m := ⟨_, rfl⟩
        have hst1 : a ≤ st ∧ st ≤ r0 ∧ nn ≤ st + b ∧ r0 ≤ mid ∧ r0 ≤ m := by
          rw [hst, hr0]
          split <;> omega
        have hst2 : (st = a ∨ nn = st + b) ∧ (r0 = mid ∨ r0 = m) := by
          rw [hst, hr0]
          split
          · exact ⟨.inr (by omega), .inl rfl⟩
          · exact ⟨.inl rfl, .inr rfl⟩
        have e1 : ((a : Int) + b) / 2 = (mid : Int) := by omega
        have e2 : (mid : Int) + m = (nn : Int) := by omega
        have e3 : (nn : Int) - 1 = (pp : Int) := by omega
        have g1 : ((m : Int) - a == 1) = false := by rw [beq_eq_false_iff_ne]; omega
        have g2 : ((b : Int) - m == 1) = false := by rw [beq_eq_false_iff_ne]; omega
        have k1 : a < mid ∧ mid < b ∧ nn ≤ 2000000 ∧ b ≤ 1000000 := by omega
        have hL := Lib.hid (And.intro hfu (And.intro ha (And.intro hX (And.intro hY (And.intro hN (And.intro sX (And.intro sY (And.intro hXY (And.intro eX eY)))))))))
        have HM := Lib.hid (And.intro hmid (And.intro hnn (And.intro hpp (And.intro hst (And.intro hr0 (And.intro hst1 (And.intro hst2 k1)))))))
        have HF := Lib.hid hf
        have HO := Lib.hid hO
        have u1 : (a : Int) + b ≤ 2000000 := by omega
        have u2 : (mid : Int) ≤ 1000000 := by omega
        have u3 : (m : Int) ≤ 1000000 := by omega
        have u4 : (nn : Int) ≤ 2000000 := by omega
        have u5 : (b : Int) ≤ 1000000 := by omega
        have u6 : (1 : Int) ≤ nn := by omega
        clear hfu ha hX hY hN sX sY hXY eX eY hf hO hx1 hy1 hx0 hy0 hN2 hmid hnn hpp hst1 hst2 k1
        go_enter Tryz.func170, Tryz.ntmps170
        go_upto_if 140 with fail
        go_cut [20, 21] from 138 to 146 (fun va vb wx => va = .int .i64 st ∧ vb = .int .i64 r0 ∧ w = wx)
        case first =>
          by_cases hc : mid < m
          · have hc' : (mid : Int) < m := by omega
            have e4 : (nn : Int) - b = (st : Int) := by have := HM.out; rw [if_pos hc] at hst; omega
            have e5 : r0 = mid := by rw [hr0, if_pos hc]
            have E5 := Lib.hid e5
            clear hst hr0 e5
            go_wp2_with fail
            go_meet
            exact ⟨rfl, by rw [E5.out], rfl⟩
          · have hc' : ¬ (mid : Int) < m := by omega
            have e4 : st = a := by rw [hst, if_neg hc]
            have e5 : r0 = m := by rw [hr0, if_neg hc]
            have E5 := Lib.hid (And.intro e4 e5)
            clear hst hr0 e4 e5
            go_wp2_with fail
            go_meet
            exact ⟨by rw [E5.out.1], by rw [E5.out.2], rfl⟩
        case rest =>
          obtain ⟨rfl, rfl, rfl⟩ := hcut
          clear hst hr0
          go_wp2
          go_loopw [20, 21, 23] (fun va vb vc wr => ∃ p r : Nat, va = .int .i64 p ∧ vb = .int .i64 r ∧ st ≤ p ∧ p ≤ r ∧ r ≤ r0 ∧ Own 3 Rp.int base wr (.slice (some ⟨g, 0, none⟩) N cap) (A ++ (X ++ (Y ++ C))) ∧ w.grownBy wr (some g) ∧ Hid ((∀ c, st ≤ c → c < p → ∀ (h1 : c - a < X.length) (h2 : pp - c - m < Y.length), ltc rk X[c - a] Y[pp - c - m]) ∧ (∀ c, r ≤ c → c < r0 → ∀ (h1 : c - a < X.length) (h2 : pp - c - m < Y.length), ltc rk Y[pp - c - m] X[c - a]))) (fun va vb _ _ => (intOf vb).toNat - (intOf va).toNat)
          case atStart => exact ⟨st, r0, rfl, rfl, Nat.le_refl _, HM.out.2.2.2.2.2.1.2.1, Nat.le_refl _, HO.out, World.grownBy.refl w (some g), Lib.hid ⟨fun c h1 h2 => by omega, fun c h1 h2 => by omega⟩⟩
          case round =>
            obtain ⟨p, r, rfl, rfl, hp1, hpr, hr1, hO, hg, HH⟩ := hrel
            by_cases hlt : p < r
            · obtain ⟨h, hh⟩ : ∃ h : Nat, h = (p + r) / 2 := ⟨_, rfl⟩
              have hh1 : ((p : Int) + r) / 2 = (h : Int) := by omega
              have hph : p ≤ h := by omega
              have hhr : h < r := by omega
              have hM := HM.out
              have hLL := hL.out
              have hk : h - a < X.length := by omega
              have hl : pp - h - m < Y.length := by omega
              obtain ⟨ix, hix⟩ : ∃ ix, ix = pp - h := ⟨_, rfl⟩
              have hix1 : ix = m + (pp - h - m) := by omega
              have hah : h = a + (h - a) := by omega
              obtain ⟨x, hxd⟩ : ∃ x, x = X[h - a] := ⟨_, rfl⟩
              obtain ⟨y, hyd⟩ : ∃ y, y = Y[pp - h - m] := ⟨_, rfl⟩
              obtain ⟨c1, cf, cl, _, b1⟩ := hO.at1 hLL.2.2.2.2.1 (i := h) (x := x) (by
                have := get_in A X (Y ++ C) a (h - a) hLL.2.1 hk
                rw [← hah, ← hxd] at this
                exact this)
              obtain ⟨c2, _, _, _, b2⟩ := hO.at1 hLL.2.2.2.2.1 (i := ix) (x := y) (by
                have := get_in (A ++ X) Y C m (pp - h - m) (by simp; omega) hl
                rw [← hix1, ← hyd] at this
                simpa using this)
              have hxm : x ∈ X := by rw [hxd]; exact List.getElem_mem _
              have hym : y ∈ Y := by rw [hyd]; exact List.getElem_mem _
              have HC := Lib.hid (HF.out y x (hLL.2.2.2.2.2.2.2.2.2 y hym) (hLL.2.2.2.2.2.2.2.2.1 x hxm))
              have hxy := hLL.2.2.2.2.2.2.2.1 x hxm y hym
              have e4 : IntKind.i64.wrap ((pp : Int) - h) = (ix : Int) := by rw [IntWalk.i64_in _ (by omega)]; omega
              have HK := Lib.hid (And.intro hh (And.intro hxd (And.intro hyd (And.intro hxy (And.intro hk (And.intro hl (And.intro hix hM)))))))
              have HB : Hid (a ≤ h ∧ a ≤ st ∧ r0 + m ≤ pp + 1) := Lib.hid ⟨by omega, by omega, by omega⟩
              have s1 : (h : Int) < N := by omega
              have s2 : (ix : Int) < N := by omega
              have s3 : (p : Int) + r ≤ 2000000 := by omega
              clear hh hxd hyd hxy hxm hym hix1 hah hix hM hLL b1 b2
              by_cases hc : cmpL (rk y) (rk x) < 0
              · have hcd : decide (cmpL (rk y) (rk x) < 0) = true := decide_eq_true hc
                have HCC := Lib.hid ((ltc_later HK.out.2.2.2.1).2 hc)
                clear hc
                go_wp2
                go_quiet ((exact Calls.quiet_of_same (HC.out _ (grown_dN hg _))))
                go_wp2
                refine ⟨⟨p, h, rfl, rfl, hp1, hph, by omega, hO.dN _, grown_dN hg _, Lib.hid ⟨HH.out.1, fun c h1 h2 h3 h4 => ?_⟩⟩, by simp [intOf]; omega⟩
                have hq := HB.out
                exact merge_right hL.out.2.2.2.2.2.1 hL.out.2.2.2.2.2.2.1 hk hl (by rw [← HK.out.2.1, ← HK.out.2.2.1]; exact HCC.out) hq.1 h1 (by omega) h3 h4
              · have hcd : decide (cmpL (rk y) (rk x) < 0) = false := decide_eq_false hc
                have HCC := Lib.hid (ltc_not (fun h => hc ((ltc_later HK.out.2.2.2.1).1 h)) (by have := HK.out.2.2.2.1; omega))
                clear hc
                go_wp2
                go_quiet ((exact Calls.quiet_of_same (HC.out _ (grown_dN hg _))))
                go_wp2
                refine ⟨⟨h + 1, r, by go_num, rfl, by omega, by omega, hr1, hO.dN _, grown_dN hg _, Lib.hid ⟨fun c h1 h2 h3 h4 => ?_, HH.out.2⟩⟩, by simp [intOf]; omega⟩
                have hq := HB.out
                exact merge_left hL.out.2.2.2.2.2.1 hL.out.2.2.2.2.2.2.1 hk hl (by rw [← HK.out.2.1, ← HK.out.2.2.1]; exact HCC.out) (Nat.le_trans hq.2.1 h1) (by omega) (by omega) h3 h4
            · have hpr' : r = p := by omega
              subst hpr'
              have hM := HM.out
              have hLL := hL.out
              obtain ⟨en, hen⟩ : ∃ en, en = nn - r := ⟨_, rfl⟩
              have e4 : (nn : Int) - r = (en : Int) := by omega
              have hrm : r ≤ mid := by omega
              have hme : m ≤ en := by omega
              have heb : en ≤ b := by omega
              have hmr : mid - r = en - m := by omega
              obtain ⟨i, hi⟩ : ∃ i, i = r - a := ⟨_, rfl⟩
              obtain ⟨j, hj⟩ : ∃ j, j = en - m := ⟨_, rfl⟩
              have hiX : i ≤ X.length := by omega
              have hjY : j ≤ Y.length := by omega
              have hc := halves hLL.2.2.2.2.2.1 hLL.2.2.2.2.2.2.1 hiX hjY
                (by
                  intro hi0 hj0 h3 h4
                  have hst' : st < r := by
                    rcases Nat.lt_or_ge st r with h | h
                    · exact h
                    · have := hM.2.2.2.2.2.2.1.1
                      omega
                  have := HH.out.1 (r - 1) (by omega) (by omega)
                  have q1 : r - 1 - a = i - 1 := by omega
                  have q2 : pp - (r - 1) - m = j := by omega
                  simp only [q1, q2] at this
                  exact this h3 h4)
                (by
                  intro hi0 hj0 h3 h4
                  have hst' : r < r0 := by
                    rcases Nat.lt_or_ge r r0 with h | h
                    · exact h
                    · have := hM.2.2.2.2.2.2.1.2
                      omega
                  have := HH.out.2 r (Nat.le_refl _) hst'
                  have q1 : r - a = i := by omega
                  have q2 : pp - r - m = j - 1 := by omega
                  simp only [q1, q2] at this
                  exact this h3 h4)
              have lX1 : (X.take i).length = i := by rw [List.length_take]; omega
              have lX2 : (X.drop i).length = m - r := by rw [List.length_drop]; omega
              have lY1 : (Y.take j).length = j := by rw [List.length_take]; omega
              have lY2 : (Y.drop j).length = b - en := by rw [List.length_drop]; omega
              have hXY : A ++ (X ++ (Y ++ C)) = (A ++ X.take i) ++ (X.drop i ++ (Y.take j ++ (Y.drop j ++ C))) := by
                have q1 : A ++ X.take i ++ (X.drop i ++ (Y.take j ++ (Y.drop j ++ C))) = A ++ ((X.take i ++ X.drop i) ++ ((Y.take j ++ Y.drop j) ++ C)) := by simp only [List.append_assoc]
                rw [q1, List.take_append_drop, List.take_append_drop]
              have hO' := hO
              rw [hXY] at hO'
              have hNr : N = ((A ++ X.take i) ++ (X.drop i ++ (Y.take j ++ (Y.drop j ++ C)))).length := by rw [← hXY]; exact hLL.2.2.2.2.1
              have HROT : m - r ≠ 0 → j ≠ 0 → Hid (Calls Tryz.prog 184 #[.slice (some ⟨g, 0, none⟩) N cap, .int .i64 r, .int .i64 m, .int .i64 en, .func (.func f) #[] fv] wr fun e w' => e = .returned (.tuple #[]) ∧ Own 3 Rp.int base w' (.slice (some ⟨g, 0, none⟩) N cap) ((A ++ X.take i) ++ (Y.take j ++ (X.drop i ++ (Y.drop j ++ C)))) ∧ wr.grownBy w' (some g)) := fun h1 h2 =>
                Lib.hid (rotate184 (A ++ X.take i) (X.drop i) (Y.take j) (Y.drop j ++ C) r m en N g cap base _ wr (by rw [List.length_append, lX1]; omega) (by omega) (by omega) (by omega) (by omega) hNr hm hO')
              have HNO : (m - r = 0 ∨ j = 0) → Own 3 Rp.int base wr (.slice (some ⟨g, 0, none⟩) N cap) ((A ++ X.take i) ++ (Y.take j ++ (X.drop i ++ (Y.drop j ++ C)))) := fun h => by
                rcases h with h | h
                · have hd : X.drop i = [] := List.eq_nil_of_length_eq_zero (by omega)
                  rw [hd] at hO' ⊢
                  simpa using hO'
                · have hd : Y.take j = [] := List.eq_nil_of_length_eq_zero (by omega)
                  rw [hd] at hO' ⊢
                  simpa using hO'
              have sX1 := hLL.2.2.2.2.2.1.sublist (List.take_sublist i X)
              have sX2 := hLL.2.2.2.2.2.1.sublist (List.drop_sublist i X)
              have sY1 := hLL.2.2.2.2.2.2.1.sublist (List.take_sublist j Y)
              have sY2 := hLL.2.2.2.2.2.2.1.sublist (List.drop_sublist j Y)
              have HM1 : 0 < i → 0 < j → Hid (∀ w2, w.grownBy w2 (some g) → Own 3 Rp.int base w2 (.slice (some ⟨g, 0, none⟩) N cap) ((A ++ X.take i) ++ (Y.take j ++ (X.drop i ++ (Y.drop j ++ C)))) → Calls Tryz.prog 170 #[.slice (some ⟨g, 0, none⟩) N cap, .int .i64 a, .int .i64 r, .int .i64 mid, .func (.func f) #[] fv] w2 (Merged rk A (X.take i) (Y.take j) (X.drop i ++ (Y.drop j ++ C)) base N g cap w2)) := fun h1 h2 =>
                Lib.hid (fun w2 hg2 hO2 => IH.out A (X.take i) (Y.take j) (X.drop i ++ (Y.drop j ++ C)) a r mid w2 (by omega) hLL.2.1 (by omega) (by omega) (by omega) (by omega) (by rw [hNr]; simp; omega) sX1 sY1
                  (fun x hx y hy => hLL.2.2.2.2.2.2.2.1 x (List.mem_of_mem_take hx) y (List.mem_of_mem_take hy)) (fun x hx => hLL.2.2.2.2.2.2.2.2.1 x (List.mem_of_mem_take hx)) (fun y hy => hLL.2.2.2.2.2.2.2.2.2 y (List.mem_of_mem_take hy)) (HF.out.later hg2) (by simpa using hO2))
              have HM2 : m - r ≠ 0 → b - en ≠ 0 → Hid (∀ (Z1 : List Int) w2, Z1.Perm (X.take i ++ Y.take j) → w.grownBy w2 (some g) → Own 3 Rp.int base w2 (.slice (some ⟨g, 0, none⟩) N cap) (A ++ (Z1 ++ (X.drop i ++ (Y.drop j ++ C)))) → Calls Tryz.prog 170 #[.slice (some ⟨g, 0, none⟩) N cap, .int .i64 mid, .int .i64 en, .int .i64 b, .func (.func f) #[] fv] w2 (Merged rk (A ++ Z1) (X.drop i) (Y.drop j) C base N g cap w2)) := fun h1 h2 =>
                Lib.hid (fun Z1 w2 hZ hg2 hO2 => by
                  have lz : Z1.length = i + j := by rw [hZ.length_eq, List.length_append]; omega
                  exact IH.out (A ++ Z1) (X.drop i) (Y.drop j) C mid en b w2 (by omega) (by rw [List.length_append]; omega) (by omega) (by omega) (by omega) (by omega) (by rw [hNr]; simp [lz]; omega) sX2 sY2
                    (fun x hx y hy => hLL.2.2.2.2.2.2.2.1 x (List.mem_of_mem_drop hx) y (List.mem_of_mem_drop hy)) (fun x hx => hLL.2.2.2.2.2.2.2.2.1 x (List.mem_of_mem_drop hx)) (fun y hy => hLL.2.2.2.2.2.2.2.2.2 y (List.mem_of_mem_drop hy)) (HF.out.later hg2) (by simpa using hO2))
              have HE := Lib.hid (And.intro hc (And.intro sX1 (And.intro sX2 (And.intro sY1 (And.intro sY2 (And.intro lX1 (And.intro lX2 (And.intro lY1 lY2))))))))
              have HII := Lib.hid (And.intro hi (And.intro hj (And.intro hen (And.intro hmr (And.intro hM.2.2.2.2.2.1 hM.2.2.2.2.2.2.2)))))
              have HG := Lib.hid hg
              have HOO := Lib.hid hO'
              have n1 : a ≤ r := by omega
              have n2 : r ≤ m := by omega
              have HR1 := Lib.hid HROT
              have HR2 := Lib.hid HNO
              have HR3 := Lib.hid HM1
              have HR4 := Lib.hid HM2
              clear hc sX1 sX2 sY1 sY2 lX1 lX2 lY1 lY2 hM hLL hen hmr hi hj hiX hjY hXY hO' hO hNr HROT HNO HM1 HM2 hg HH
              obtain ⟨b1, hb1⟩ : ∃ b1, b1 = decide (r < m ∧ m < en) := ⟨_, rfl⟩
              have Hb1 := Lib.hid hb1
              clear hb1
              go_upto_region 39 with fail
              go_cut [185] from 178 to 185 (fun va wx => va = .bool b1 ∧ wr = wx)
              case first =>
                by_cases d1 : r < m
                · have d1' : (r : Int) < m := by omega
                  by_cases d2 : m < en
                  · have d2' : (m : Int) < en := by omega
                    go_wp2_with fail
                    go_meet
                    exact ⟨congrArg Value.bool (by rw [Hb1.out]; exact (decide_eq_true ⟨d1, d2⟩).symm), rfl⟩
                  · have d2' : ¬ (m : Int) < en := by omega
                    go_wp2_with fail
                    go_meet
                    exact ⟨congrArg Value.bool (by rw [Hb1.out]; exact (decide_eq_false (by omega)).symm), rfl⟩
                · have d1' : ¬ (r : Int) < m := by omega
                  go_wp2_with fail
                  go_meet
                  exact ⟨congrArg Value.bool (by rw [Hb1.out]; exact (decide_eq_false (by omega)).symm), rfl⟩
              case rest =>
                obtain ⟨rfl, rfl⟩ := hcut
                go_upto_if 185 with fail
                go_cut [] from 186 to 191 (fun wx => Own 3 Rp.int base wx (.slice (some ⟨g, 0, none⟩) N cap) ((A ++ X.take i) ++ (Y.take j ++ (X.drop i ++ (Y.drop j ++ C)))) ∧ w.grownBy wx (some g))
                case first =>
                  cases b1
                  · have hn : ¬ (r < m ∧ m < en) := of_decide_eq_false Hb1.out.symm
                    have HO2 := Lib.hid (HR2.out (by have := HII.out; omega))
                    clear hn
                    go_wp2_with fail
                    go_meet
                    exact ⟨HO2.out, HG.out⟩
                  · have hy : r < m ∧ m < en := of_decide_eq_true Hb1.out.symm
                    have HC1 := HR1.out (by omega) (by have := HII.out; omega)
                    clear hy
                    go_wp2_with (first | (go_at_call 184; refine HC1.out.mono ?_; rintro e w2 ⟨rfl, hO2, hgr⟩) | go_in)
                    go_meet
                    exact ⟨hO2, HG.out.trans hgr⟩
                case rest =>
                  obtain ⟨w2, rfl⟩ : ∃ w2, w2 = wc := ⟨_, rfl⟩
                  have HW2 := Lib.hid hcut
                  clear hcut
                  obtain ⟨b2, hb2⟩ : ∃ b2, b2 = decide (a < r ∧ r < mid) := ⟨_, rfl⟩
                  have Hb2 := Lib.hid hb2
                  clear hb2
                  go_upto_region 41 with fail
                  go_cut [199] from 192 to 199 (fun va wx => va = .bool b2 ∧ w2 = wx)
                  case first =>
                    by_cases d1 : a < r
                    · have d1' : (a : Int) < r := by omega
                      by_cases d2 : r < mid
                      · have d2' : (r : Int) < mid := by omega
                        go_wp2_with fail
                        go_meet
                        exact ⟨congrArg Value.bool (by rw [Hb2.out]; exact (decide_eq_true ⟨d1, d2⟩).symm), rfl⟩
                      · have d2' : ¬ (r : Int) < mid := by omega
                        go_wp2_with fail
                        go_meet
                        exact ⟨congrArg Value.bool (by rw [Hb2.out]; exact (decide_eq_false (by omega)).symm), rfl⟩
                    · have d1' : ¬ (a : Int) < r := by omega
                      go_wp2_with fail
                      go_meet
                      exact ⟨congrArg Value.bool (by rw [Hb2.out]; exact (decide_eq_false (by omega)).symm), rfl⟩
                  case rest =>
                    obtain ⟨rfl, rfl⟩ := hcut
                    go_upto_if 199 with fail
                    go_cut [] from 200 to 205 (fun wx => ∃ Z1, Z1.Pairwise (ltc rk) ∧ Z1.Perm (X.take i ++ Y.take j) ∧ Own 3 Rp.int base wx (.slice (some ⟨g, 0, none⟩) N cap) (A ++ (Z1 ++ (X.drop i ++ (Y.drop j ++ C)))) ∧ w.grownBy wx (some g))
                    case first =>
                      cases b2
                      · have hn : ¬ (a < r ∧ r < mid) := of_decide_eq_false Hb2.out.symm
                        have z1 := half_sorted HE.out.2.1 HE.out.2.2.2.1 (by
                          have h1 := HII.out
                          have h2 := HE.out
                          by_cases h : i = 0
                          · left; exact List.eq_nil_of_length_eq_zero (by omega)
                          · right; exact List.eq_nil_of_length_eq_zero (by omega))
                        have HZ := Lib.hid z1
                        clear hn z1
                        go_wp2_with fail
                        go_meet
                        exact ⟨X.take i ++ Y.take j, HZ.out, .refl _, by simpa using HW2.out.1, HW2.out.2⟩
                      · have hy : a < r ∧ r < mid := of_decide_eq_true Hb2.out.symm
                        have HC2 := HR3.out (by have := HII.out; omega) (by have := HII.out; omega)
                        clear hy
                        go_wp2_with (first | (go_at_call 170; refine (HC2.out _ HW2.out.2 HW2.out.1).mono ?_; rintro e w3 ⟨rfl, Z1, z1, p1, hO3, hgr3⟩) | go_in)
                        go_meet
                        exact ⟨Z1, z1, p1, by simpa using hO3, HW2.out.2.trans hgr3⟩
                    case rest =>
                      obtain ⟨w3, rfl⟩ : ∃ w3, w3 = wc := ⟨_, rfl⟩
                      obtain ⟨Z1, hZ⟩ := hcut
                      have HZ := Lib.hid hZ
                      clear hZ
                      obtain ⟨b3, hb3⟩ : ∃ b3, b3 = decide (mid < en ∧ en < b) := ⟨_, rfl⟩
                      have Hb3 := Lib.hid hb3
                      clear hb3
                      go_upto_region 43 with fail
                      go_cut [213] from 206 to 213 (fun va wx => va = .bool b3 ∧ w3 = wx)
                      case first =>
                        by_cases d1 : mid < en
                        · have d1' : (mid : Int) < en := by omega
                          by_cases d2 : en < b
                          · have d2' : (en : Int) < b := by omega
                            go_wp2_with fail
                            go_meet
                            exact ⟨congrArg Value.bool (by rw [Hb3.out]; exact (decide_eq_true ⟨d1, d2⟩).symm), rfl⟩
                          · have d2' : ¬ (en : Int) < b := by omega
                            go_wp2_with fail
                            go_meet
                            exact ⟨congrArg Value.bool (by rw [Hb3.out]; exact (decide_eq_false (by omega)).symm), rfl⟩
                        · have d1' : ¬ (mid : Int) < en := by omega
                          go_wp2_with fail
                          go_meet
                          exact ⟨congrArg Value.bool (by rw [Hb3.out]; exact (decide_eq_false (by omega)).symm), rfl⟩
                      case rest =>
                        obtain ⟨rfl, rfl⟩ := hcut
                        cases b3
                        · have hn : ¬ (mid < en ∧ en < b) := of_decide_eq_false Hb3.out.symm
                          have z2 := half_sorted HE.out.2.2.1 HE.out.2.2.2.2.1 (by
                            have h1 := HII.out
                            have h2 := HE.out
                            by_cases h : m - r = 0
                            · left; exact List.eq_nil_of_length_eq_zero (by omega)
                            · right; exact List.eq_nil_of_length_eq_zero (by omega))
                          have HZ2 := Lib.hid (halves_join HE.out.1 HZ.out.1 z2 HZ.out.2.1 (.refl _))
                          clear hn z2
                          go_wp2
                          go_end0
                          exact ⟨rfl, Z1 ++ (X.drop i ++ Y.drop j), HZ2.out.1, HZ2.out.2, by simpa using HZ.out.2.2.1, HZ.out.2.2.2⟩
                        · have hy : mid < en ∧ en < b := of_decide_eq_true Hb3.out.symm
                          have HC3 := HR4.out (by have := HII.out; omega) (by omega)
                          clear hy
                          go_wp2_with (first | (go_at_call 170; refine (HC3.out Z1 _ HZ.out.2.1 HZ.out.2.2.2 HZ.out.2.2.1).mono ?_; rintro e w4 ⟨rfl, Z2, z2, p2, hO4, hgr4⟩) | go_in)
                          go_end0
                          have hz := halves_join HE.out.1 HZ.out.1 z2 HZ.out.2.1 p2
                          exact ⟨rfl, Z1 ++ Z2, hz.1, hz.2, by simpa using hO4, HZ.out.2.2.2.trans hgr4⟩
theorem symMerge170 (N g cap base : Nat) (f : FuncId) (fv : Array Value) (rk : Int → List Int) (E : Int → Prop) (hm : N ≤ 1000000) (he : Enters f) (fuel : Nat) : SymAt N g cap base f fv rk E fuel := by
  induction fuel with
  | zero => intro A X Y C a m b w h _ _ _ hx _ _ _ _ _ _ _ _ _; omega
  | succ n ih => exact symStep170 N g cap base f fv rk E hm he n ih
end Go.Proofs.YtoncaejgflfhhaaGreatDoor
