/- slices' insertion sort by a function, on a row of numbers of one's own. -/
import Derived.Test.YtoncaejgflfhhaaGreatDoorM17
import Derived.Deep.QuietTactic
import Derived.BigQuiet
set_option linter.unusedVariables false
set_option linter.unusedSimpArgs false
namespace Go.Proofs.YtoncaejgflfhhaaGreatDoor
open Go.RowKit

/-- A function value that compares numbers by their ranks, and leaves the world as it is; whatever has become of row g. -/
def CmpOk (f : FuncId) (fv : Array Value) (rk : Int → List Int) (E : Int → Prop) (w : World) (g : Nat) : Prop :=
  ∀ x y, E x → E y → ∀ w', w.grownBy w' (some g) → Calls Tryz.prog f (#[.int .i64 x, .int .i64 y] ++ fv) w' fun e w'' => e = .returned (.int .i64 (cmpL (rk x) (rk y))) ∧ w'' = w'
theorem grown_dN {w w' : World} {row : Option Nat} (h : w.grownBy w' row) (n : Nat) : w.grownBy (w'.drewN n) row := ⟨h.os, h.tape, h.output, h.size, h.block⟩

theorem split_sorted {rk : Int → List Int} {L R : List Int} {x : Int} (h : (L ++ R).Pairwise (ltc rk)) (hR : ∀ r ∈ R, cmpL (rk x) (rk r) < 0) (hL : ∀ l ∈ L, ltc rk l x) : (L ++ x :: R).Pairwise (ltc rk) := by
  rw [List.pairwise_append] at h ⊢
  refine ⟨h.1, List.pairwise_cons.2 ⟨fun r hr => .inl (hR r hr), h.2.1⟩, fun l hl r hr => ?_⟩
  rcases List.mem_cons.1 hr with rfl | hr
  · exact hL l hl
  · exact h.2.2 l hl r hr
/-- The place is found: what stands there is the sort of one more. -/
theorem sort_step {rk : Int → List Int} {X L R : List Int} {x : Int} {k : Nat} (hX : X.Pairwise (· < ·)) (hk : k < X.length) (hx : X[k] = x) (hLR : L ++ R = sortR rk (X.take k)) (hR : ∀ r ∈ R, cmpL (rk x) (rk r) < 0) (hL : L = [] ∨ ∃ L' y, L = L' ++ [y] ∧ ¬ cmpL (rk x) (rk y) < 0) :
    L ++ x :: R = sortR rk (X.take (k + 1)) := by
  have hXk : (X.take k).Pairwise (· < ·) := hX.sublist (List.take_sublist _ _)
  have hs := sortR_spec (rk := rk) hXk
  have hlt : ∀ l ∈ L, l < x := fun l hl => by
    have h1 : l ∈ X.take k := hs.2.mem_iff.1 (by rw [← hLR]; exact List.mem_append_left _ hl)
    have h2 := hX
    rw [← List.take_append_drop k X, List.pairwise_append] at h2
    exact h2.2.2 l h1 x (by rw [List.drop_eq_getElem_cons hk, hx]; exact .head _)
  refine sortR_is (hX.sublist (List.take_sublist _ _)) (split_sorted (by rw [hLR]; exact hs.1) hR fun l hl => ?_) ?_
  · rcases hL with rfl | ⟨L', y, rfl, hy⟩
    · cases hl
    · have hyx : ltc rk y x := ltc_not (fun h => hy ((ltc_later (hlt y (by simp))).1 h)) (by have := hlt y (by simp); omega)
      rcases List.mem_append.1 hl with hl | hl
      · have hp : (L' ++ [y] ++ R).Pairwise (ltc rk) := by rw [hLR]; exact hs.1
        rw [List.pairwise_append, List.pairwise_append] at hp
        exact ltc_trans (hp.1.2.2 l hl y (by simp)) hyx
      · rw [List.mem_singleton.1 hl]
        exact hyx
  · rw [List.take_succ_eq_append_getElem hk, hx]
    refine (List.perm_middle).trans ?_
    rw [hLR]
    exact (hs.2.cons x).trans (List.perm_append_singleton x _).symm

set_option maxHeartbeats 4000000 in
set_option maxRecDepth 100000 in
theorem isort169 (A X C : List Int) (a b N g cap base : Nat) (f : FuncId) (fv : Array Value) (rk : Int → List Int) (E : Int → Prop) (w : World) (ha : A.length = a) (hb : a + X.length = b) (hN : N = (A ++ (X ++ C)).length) (hm : N ≤ 1000000)
    (hX : X.Pairwise (· < ·)) (hE : ∀ x ∈ X, E x) (he : Enters f) (hf : CmpOk f fv rk E w g) (hO : Own 3 Rp.int base w (.slice (some ⟨g, 0, none⟩) N cap) (A ++ (X ++ C))) :
    Calls Tryz.prog 169 #[.slice (some ⟨g, 0, none⟩) N cap, .int .i64 a, .int .i64 b, .func (.func f) #[] fv] w fun e w' => e = .returned (.tuple #[]) ∧ Own 3 Rp.int base w' (.slice (some ⟨g, 0, none⟩) N cap) (A ++ (sortR rk X ++ C)) ∧ w.grownBy w' (some g) := by
  have hN2 : N = b + C.length := by rw [hN]; simp; omega
  have hbN : b ≤ N := by omega
  have hL := Lib.hid (And.intro ha (And.intro hb (And.intro hN2 (And.intro hX hE))))
  have HF := Lib.hid hf
  have HO := Lib.hid hO
  unfold Enters at he
  have haN : a ≤ b := by omega
  clear ha hb hN hN2 hX hE hf hO
  go_enter Tryz.func169, Tryz.ntmps169
  go_wp2
  go_loopw [8, 9] (fun vi vj wr => ∃ i : Nat, vi = .int .i64 i ∧ a + 1 ≤ i ∧ Own 3 Rp.int base wr (.slice (some ⟨g, 0, none⟩) N cap) (A ++ (sortR rk (X.take (i - a)) ++ (X.drop (i - a) ++ C))) ∧ w.grownBy wr (some g)) (fun vi _ _ => b - (intOf vi).toNat)
  case atStart =>
    refine ⟨a + 1, by go_num, Nat.le_refl _, ?_, World.grownBy.refl w (some g)⟩
    have h1 : a + 1 - a = 1 := by omega
    rw [h1]
    have h2 : sortR rk (X.take 1) = X.take 1 := by
      cases X with
      | nil => rfl
      | cons x r => rfl
    rw [h2, ← List.append_assoc (X.take 1), List.take_append_drop]
    exact HO.out
  case round =>
    obtain ⟨i, rfl, hai, hO, hg⟩ := hrel
    by_cases hlt : i < b
    · have hkl : i - a < X.length := by have := hL.out; omega
      have hdr : X.drop (i - a) = X[i - a] :: X.drop (i - a + 1) := List.drop_eq_getElem_cons hkl
      obtain ⟨x, hx⟩ : ∃ x, x = X[i - a] := ⟨_, rfl⟩
      rw [← hx] at hdr
      rw [hdr] at hO
      obtain ⟨Z, hZ⟩ : ∃ Z, Z = sortR rk (X.take (i - a)) := ⟨_, rfl⟩
      rw [← hZ] at hO
      have hZl : Z.length = i - a := by
        rw [hZ, (sortR_spec (rk := rk) (hL.out.2.2.2.1.sublist (List.take_sublist _ _))).2.length_eq, List.length_take]
        omega
      have hZE : ∀ z ∈ Z, E z := fun z hz => by
        rw [hZ] at hz
        exact hL.out.2.2.2.2 z (List.mem_of_mem_take ((sortR_spec (rk := rk) (hL.out.2.2.2.1.sublist (List.take_sublist _ _))).2.mem_iff.1 hz))
      have hEx : E x := by rw [hx]; exact hL.out.2.2.2.2 _ (List.getElem_mem _)
      have hY := Lib.hid (And.intro hx (And.intro hZ (And.intro hZl (And.intro hZE hEx))))
      have hO1 := Lib.hid hO
      have hg1 := Lib.hid hg
      clear hdr hx hZ hZl hZE hEx hO hg
      go_wp2
      go_loopw [9] (fun vj wr => ∃ (L R : List Int) (j : Nat), vj = .int .i64 j ∧ j = a + L.length ∧ j ≤ i ∧ Own 3 Rp.int base wr (.slice (some ⟨g, 0, none⟩) N cap) (A ++ (L ++ x :: (R ++ (X.drop (i - a + 1) ++ C)))) ∧ Hid (L ++ R = Z ∧ ∀ r ∈ R, cmpL (rk x) (rk r) < 0) ∧ w.grownBy wr (some g)) (fun vj _ => (intOf vj).toNat)
      case atStart => exact ⟨Z, [], i, rfl, by have := hY.out; omega, Nat.le_refl _, hO1.out, Lib.hid ⟨by simp, fun _ h => by cases h⟩, hg1.out⟩
      case round =>
        obtain ⟨L, R, j, rfl, hj, hji, hO, HH, hg⟩ := hrel
        clear hO1 hg1
        rcases List.eq_nil_or_concat L with rfl | ⟨L', y, hLc⟩
        · have hja : j = a := by simpa using hj
          subst hja
          clear hj
          go_wp2
          go_quiet (fail)
          go_wp2
          have hst := sort_step (rk := rk) (L := []) (R := R) hL.out.2.2.2.1 hkl hY.out.1.symm (by rw [HH.out.1, hY.out.2.1]) HH.out.2 (.inl rfl)
          have hii : i + 1 - j = i - j + 1 := by omega
          refine ⟨⟨i + 1, by go_num, by omega, ?_, grown_dN hg _⟩, by simp [intOf]; omega⟩
          rw [hii, ← hst]
          simpa using hO.dN nq
        · rw [List.concat_eq_append] at hLc
          subst hLc
          have hEy : E y := hY.out.2.2.2.1 y (by rw [← HH.out.1]; simp)
          have HC := Lib.hid (HF.out x y hY.out.2.2.2.2 hEy)
          obtain ⟨p, hp⟩ : ∃ p, p = a + L'.length := ⟨_, rfl⟩
          have hjp : j = p + 1 := by rw [hj, hp]; simp; omega
          subst hjp
          have hlen : N = (A ++ ((L' ++ [y]) ++ x :: (R ++ (X.drop (i - a + 1) ++ C)))).length := by
            have h1 := hL.out
            have h2 := hY.out.2.2.1
            have h3 := congrArg List.length HH.out.1
            simp only [List.length_append, List.length_cons, List.length_nil, List.length_drop] at h3 ⊢
            omega
          have l1 : (A ++ (L' ++ [y])).length = p + 1 := by have := hL.out.1; simp; omega
          have l2 : (A ++ L').length = p := by have := hL.out.1; simp; omega
          have f1 : A ++ ((L' ++ [y]) ++ x :: (R ++ (X.drop (i - a + 1) ++ C))) = (A ++ (L' ++ [y])) ++ x :: (R ++ (X.drop (i - a + 1) ++ C)) := by simp
          have f2 : A ++ ((L' ++ [y]) ++ x :: (R ++ (X.drop (i - a + 1) ++ C))) = (A ++ L') ++ y :: (x :: (R ++ (X.drop (i - a + 1) ++ C))) := by simp
          have f3 : ((A ++ ((L' ++ [y]) ++ x :: (R ++ (X.drop (i - a + 1) ++ C)))).set (p + 1) y).set p x = A ++ (L' ++ x :: ((y :: R) ++ (X.drop (i - a + 1) ++ C))) := by
            rw [f1, set_mid _ _ _ _ _ l1]
            rw [show (A ++ (L' ++ [y])) ++ y :: (R ++ (X.drop (i - a + 1) ++ C)) = (A ++ L') ++ y :: (y :: (R ++ (X.drop (i - a + 1) ++ C))) from by simp, set_mid _ _ _ _ _ l2]
            simp
          obtain ⟨c1, cf, cl, o1, b1⟩ := hO.at1 hlen (i := p + 1) (x := x) (by rw [f1]; exact get_mid _ _ _ _ l1)
          obtain ⟨c2, _, _, o2, _⟩ := hO.at1 hlen (i := p) (x := y) (by rw [f2]; exact get_mid _ _ _ _ l2)
          have HP := Lib.hid (And.intro hj (And.intro hp (And.intro hlen (And.intro f3 (And.intro o1 o2)))))
          have hap : a < p + 1 := by omega
          have g1 : decide ((a : Int) < (p : Int) + 1) = true := by rw [decide_eq_true_eq]; omega
          have s1 : IntKind.i64.wrap (p : Int) = (p : Int) := IntWalk.i64_in _ (by omega)
          have s2 : ((p : Int) + 1).toNat = p + 1 := by omega
          have s3 : (p : Int) + 1 < N := by omega
          have s4 : (p : Int) < N := by omega
          have s5 : (0 : Int) ≤ (p : Int) + 1 := by omega
          have s6 : ¬ p + 1 = p := by omega
          have s7 : ¬ p = p + 1 := by omega
          clear hj hp hlen l1 l2 f1 f2 f3 o1 o2 hEy
          by_cases hc : cmpL (rk x) (rk y) < 0
          · have hcd : decide (cmpL (rk x) (rk y) < 0) = true := decide_eq_true hc
            have HCC := Lib.hid hc
            clear hc
            go_wp2
            go_quiet ((exact Calls.quiet_of_same (HC.out _ (grown_dN hg _))))
            go_wp2
            have hOq := hO.dN nq
            have hgq := grown_dN hg nq
            clear hO hg
            generalize wr.drewN nq = wz at *
            obtain ⟨c1, cf, cl, o1, _⟩ := hOq.at1 HP.out.2.2.1 (i := p + 1) (x := x) (by rw [show A ++ ((L' ++ [y]) ++ x :: (R ++ (X.drop (i - a + 1) ++ C))) = (A ++ (L' ++ [y])) ++ x :: (R ++ (X.drop (i - a + 1) ++ C)) from by simp]; exact get_mid _ _ _ _ (by have := HP.out.2.1; have := hL.out.1; simp; omega))
            obtain ⟨c2, _, _, o2, _⟩ := hOq.at1 HP.out.2.2.1 (i := p) (x := y) (by rw [show A ++ ((L' ++ [y]) ++ x :: (R ++ (X.drop (i - a + 1) ++ C))) = (A ++ L') ++ y :: (x :: (R ++ (X.drop (i - a + 1) ++ C))) from by simp]; exact get_mid _ _ _ _ (by have := HP.out.2.1; have := hL.out.1; simp; omega))
            clear o1 o2
            go_region
            obtain ⟨s1', r1⟩ := hOq.set1 HP.out.2.2.1 (i := p + 1) (by omega) HP.out.2.2.2.2.2
            obtain ⟨s2', r2⟩ := s1'.set1 (by rw [List.length_set]; exact HP.out.2.2.1) (i := p) (by omega) HP.out.2.2.2.2.1
            rw [HP.out.2.2.2.1] at s2'
            have HS := Lib.hid (And.intro s2' ((hgq.trans r1).trans r2))
            clear s1' r1 s2' r2
            go_wp2
            refine ⟨⟨L', y :: R, p, rfl, HP.out.2.1, by omega, ?_, Lib.hid ⟨by rw [← HH.out.1]; simp, fun r hr => ?_⟩, ?_⟩, by simp [intOf]⟩
            · exact HS.out.1.drew
            · rcases List.mem_cons.1 hr with rfl | hr
              · exact HCC.out
              · exact HH.out.2 r hr
            · exact grown_below HS.out.2 (below_drew _)
          · have hcd : decide (cmpL (rk x) (rk y) < 0) = false := decide_eq_false hc
            have HCC := Lib.hid hc
            clear hc
            go_wp2
            go_quiet ((exact Calls.quiet_of_same (HC.out _ (grown_dN hg _))))
            go_wp2
            have hst := sort_step (rk := rk) (L := L' ++ [y]) (R := R) hL.out.2.2.2.1 hkl hY.out.1.symm (by rw [HH.out.1, hY.out.2.1]) HH.out.2 (.inr ⟨L', y, rfl, by have := HCC.out; omega⟩)
            have hii : i + 1 - a = i - a + 1 := by omega
            refine ⟨⟨i + 1, by go_num, by omega, ?_, grown_dN hg _⟩, by simp [intOf]; omega⟩
            rw [hii, ← hst]
            have := hO.dN nq
            rw [show A ++ ((L' ++ [y]) ++ x :: (R ++ (X.drop (i - a + 1) ++ C))) = A ++ (L' ++ [y] ++ x :: R ++ (X.drop (i - a + 1) ++ C)) from by simp] at this
            exact this
    · have hk : X.take (i - a) = X := List.take_of_length_le (by have := hL.out; omega)
      have hd : X.drop (i - a) = [] := List.drop_of_length_le (by have := hL.out; omega)
      rw [hk, hd, List.nil_append] at hO
      have HH := Lib.hid hO
      clear hk hd hO
      go_wp2
      go_end0
      exact ⟨rfl, HH.out, hg⟩
end Go.Proofs.YtoncaejgflfhhaaGreatDoor
