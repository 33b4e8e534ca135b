/- method's plain law: which methods apply, their roles, the plan. No program here. | slices' swapRange and rotate, on a row of numbers of one's own. | slices' rotate, on a row of numbers of one's own. -/
import Derived.Test.YtoncaejgflfhhaaGreatDoorM10
import Derived.Test.YtoncaejgflfhhaaGreatDoorM16
import Derived.Test.YtoncaejgflfhhaaGreatDoorM12
set_option linter.unusedVariables false
set_option linter.unusedSimpArgs false
namespace Go.Proofs.YtoncaejgflfhhaaGreatDoor

/-- The ranks of a method's specializers; none, if one does not fit. -/
def fitGo : List Spec → List Arg → List (List Int) → Option (List Int)
  | [], _, _ => some []
  | sp :: ss, x :: xs, l :: ls => if (rankS sp x l).2 then (fitGo ss xs ls).map ((rankS sp x l).1 :: ·) else none
  | _ :: _, _, _ => none
/-- The numbers of the methods that apply, from i on. -/
def hitsGo (args : List Arg) (lists : List (List Int)) : List Meth → Int → List Int
  | [], _ => []
  | m :: r, i => if (fitGo m.specs args lists).isSome then i :: hitsGo args lists r (i + 1) else hitsGo args lists r (i + 1)
def rkS (ms : List Meth) (args : List Arg) (lists : List (List Int)) (i : Int) : List Int := ((ms[i.toNat]?).bind fun m => fitGo m.specs args lists).getD []
def listsS (s : CS) (args : List Arg) : List (List Int) := args.map fun a => (orderS s a.cls).1
def knownS (s : CS) (args : List Arg) : Bool := args.all fun a => decide ((orderS s a.cls).2 = 0)
def applS (s : CS) (g : Gen) (args : List Arg) : List Int × Int :=
  if (args.length : Int) < g.req then ([], 4)
  else if knownS s args then (sortR (rkS g.meths args (listsS s args)) (hitsGo args (listsS s args) g.meths 0), 0) else ([], 5)

theorem fit_step {ss : List Spec} {xs : List Arg} {ls : List (List Int)} (k : Nat) (sp : Spec) (x : Arg) (l : List Int) (h1 : ss[k]? = some sp) (h2 : xs[k]? = some x) (h3 : ls[k]? = some l) :
    fitGo (ss.drop k) (xs.drop k) (ls.drop k) = if (rankS sp x l).2 then (fitGo (ss.drop (k + 1)) (xs.drop (k + 1)) (ls.drop (k + 1))).map ((rankS sp x l).1 :: ·) else none := by
  have e1 := List.drop_eq_getElem?_toList_append (l := ss) (i := k)
  have e2 := List.drop_eq_getElem?_toList_append (l := xs) (i := k)
  have e3 := List.drop_eq_getElem?_toList_append (l := ls) (i := k)
  rw [h1] at e1
  rw [h2] at e2
  rw [h3] at e3
  rw [e1, e2, e3]
  rfl
theorem fit_more {ss : List Spec} {xs : List Arg} {ls : List (List Int)} (k : Nat) (sp : Spec) (h1 : ss[k]? = some sp) (h2 : xs.length ≤ k) : fitGo (ss.drop k) (xs.drop k) (ls.drop k) = none := by
  have e1 := List.drop_eq_getElem?_toList_append (l := ss) (i := k)
  rw [h1] at e1
  rw [e1, List.drop_of_length_le h2]
  rfl
theorem fit_end {ss : List Spec} {xs : List Arg} {ls : List (List Int)} (k : Nat) (h1 : ss.length ≤ k) : fitGo (ss.drop k) (xs.drop k) (ls.drop k) = some [] := by
  rw [List.drop_of_length_le h1]
  simp [fitGo]
theorem hits_snoc (args : List Arg) (lists : List (List Int)) : ∀ (ms : List Meth) (i : Int) (k : Nat) (m : Meth), ms[k]? = some m →
    hitsGo args lists (ms.take (k + 1)) i = hitsGo args lists (ms.take k) i ++ if (fitGo m.specs args lists).isSome then [i + k] else []
  | [], _, _, _, h => by simp at h
  | n :: r, i, 0, m, h => by
    simp at h
    subst h
    simp [hitsGo]
  | n :: r, i, k + 1, m, h => by
    have ih := hits_snoc args lists r (i + 1) k m (by simpa using h)
    rw [List.take_succ_cons, List.take_succ_cons, hitsGo, hitsGo, ih]
    rw [show i + 1 + (k : Int) = i + ((k + 1 : Nat) : Int) from by omega]
    split <;> simp
theorem hits_range (args : List Arg) (lists : List (List Int)) : ∀ (ms : List Meth) (i : Int), ∀ x ∈ hitsGo args lists ms i, i ≤ x ∧ x < i + ms.length
  | [], _, x, h => by simp [hitsGo] at h
  | m :: r, i, x, h => by
    rw [hitsGo] at h
    have ih := hits_range args lists r (i + 1)
    rw [List.length_cons]
    split at h
    · rcases List.mem_cons.1 h with rfl | h
      · omega
      · have := ih x h
        omega
    · have := ih x h
      omega
theorem hits_sorted (args : List Arg) (lists : List (List Int)) : ∀ (ms : List Meth) (i : Int), (hitsGo args lists ms i).Pairwise (· < ·)
  | [], _ => .nil
  | m :: r, i => by
    rw [hitsGo]
    split
    · refine List.pairwise_cons.2 ⟨fun x hx => ?_, hits_sorted args lists r (i + 1)⟩
      have := hits_range args lists r (i + 1) x hx
      omega
    · exact hits_sorted args lists r (i + 1)
theorem hits_length (args : List Arg) (lists : List (List Int)) : ∀ (ms : List Meth) (i : Int), (hitsGo args lists ms i).length ≤ ms.length
  | [], _ => Nat.le_refl _
  | m :: r, i => by
    have := hits_length args lists r (i + 1)
    rw [hitsGo]
    split <;> simp <;> omega

/-! ### Plans -/
def emptyPlan : Plan := ⟨[], [], [], [], ⟨#[]⟩⟩
/-- One function more, in its place. -/
def planAdd (p : Plan) (r : Int) (f : Int) : Plan :=
  if r = 1 then { p with ar := p.ar ++ [f] } else if r = 2 then { p with be := p.be ++ [f] } else if r = 3 then { p with pr := p.pr ++ [f] } else { p with af := p.af ++ [f] }
def planGo (g : Gen) : List Int → Plan → Option Plan
  | [], p => some p
  | i :: r, p => match g.meths[i.toNat]? with
    | none => none
    | some m => if roleS g.comb m.quals = 0 then none else planGo g r (planAdd p (roleS g.comb m.quals) m.fn)
def effS (s : CS) (g : Gen) (args : List Arg) : Plan × Int :=
  if (applS s g args).2 ≠ 0 then (emptyPlan, (applS s g args).2)
  else match planGo g (applS s g args).1 emptyPlan with
    | none => (emptyPlan, 290)
    | some p => if p.pr = [] then (emptyPlan, 291) else ({ p with af := p.af.reverse, op := if g.comb = sStd then ⟨#[]⟩ else g.comb }, 0)
end Go.Proofs.YtoncaejgflfhhaaGreatDoor
namespace Go.Proofs.YtoncaejgflfhhaaGreatDoor
open Go.RowKit

theorem get_mid {α : Type} (P S : List α) (x : α) (n : Nat) (h : P.length = n) : (P ++ x :: S)[n]? = some x := by subst h; simp
theorem set_mid {α : Type} (P S : List α) (x y : α) (n : Nat) (h : P.length = n) : (P ++ x :: S).set n y = P ++ y :: S := by subst h; simp
/-- An element of a row of one's own, by where it stands in the list. -/
theorem Own.at1 {base g cap n : Nat} {w : World} {xs : List Int} (h : Own 3 Rp.int base w (.slice (some ⟨g, 0, none⟩) n cap) xs) (hn : n = xs.length) {i : Nat} {x : Int} (hi : xs[i]? = some x) :
    w.cell? ⟨g, i, none⟩ = some (.int .i64 x) ∧ (∀ j, w.frozen? ⟨g, j, none⟩ = false) ∧ g < w.heap.size ∧ Rp.okInt x ∧ i < n := by
  have hl := (List.getElem?_eq_some_iff.1 hi)
  obtain ⟨u, h1, h2, h3, hk⟩ := h.get1 hn rfl i (by have := hl.1; omega)
  obtain ⟨hu, ho⟩ := hk
  cases hu
  rw [hl.2] at h1 ho
  exact ⟨h1, h2, h3, ho, by have := hl.1; omega⟩
theorem Own.set1 {base g cap n : Nat} {w : World} {xs : List Int} (h : Own 3 Rp.int base w (.slice (some ⟨g, 0, none⟩) n cap) xs) (hn : n = xs.length) {i : Nat} (hi : i < n) {x : Int} (hx : Rp.okInt x) :
    Own 3 Rp.int base (w.setCell ⟨g, i, none⟩ (.int .i64 x)) (.slice (some ⟨g, 0, none⟩) n cap) (xs.set i x) ∧ w.grownBy (w.setCell ⟨g, i, none⟩ (.int .i64 x)) (some g) := by
  obtain ⟨h1, h2, _⟩ := h.put1 hn rfl (i := i) hi (x := x) (u := .int .i64 x) ⟨rfl, hx⟩ rfl
  exact ⟨h1, h2⟩

set_option maxHeartbeats 2000000 in
set_option maxRecDepth 100000 in
theorem swap188 (A X B Y C : List Int) (a b n N g cap base : Nat) (fv : Value) (w : World) (ha : A.length = a) (hX : X.length = n) (hY : Y.length = n) (hb : a + n + B.length = b) (hN : N = (A ++ (X ++ (B ++ (Y ++ C)))).length) (hm : N ≤ 1000000)
    (hO : Own 3 Rp.int base w (.slice (some ⟨g, 0, none⟩) N cap) (A ++ (X ++ (B ++ (Y ++ C))))) :
    Calls Tryz.prog 188 #[.slice (some ⟨g, 0, none⟩) N cap, .int .i64 a, .int .i64 b, .int .i64 n, fv] w fun e w' => e = .returned (.tuple #[]) ∧ Own 3 Rp.int base w' (.slice (some ⟨g, 0, none⟩) N cap) (A ++ (Y ++ (B ++ (X ++ C)))) ∧ w.grownBy w' (some g) := by
  have hL := Lib.hid (And.intro ha (And.intro hX (And.intro hY (And.intro hb hN))))
  have hN2 : a + n + B.length + n + C.length = N := by rw [hN]; simp [ha, hX, hY]; omega
  have hbn : b + n ≤ N := by omega
  have hab : a + n ≤ b := by omega
  have HO := Lib.hid hO
  clear ha hX hY hb hN hO hN2
  go_enter Tryz.func188, Tryz.ntmps188
  go_wp2
  go_loopw [10] (fun vi wr => ∃ i : Nat, i ≤ n ∧ vi = .int .i64 i ∧ Own 3 Rp.int base wr (.slice (some ⟨g, 0, none⟩) N cap) (A ++ (Y.take i ++ (X.drop i ++ (B ++ (X.take i ++ (Y.drop i ++ C)))))) ∧ w.grownBy wr (some g)) (fun vi _ => n - (intOf vi).toNat)
  case atStart => exact ⟨0, Nat.zero_le _, rfl, by simpa using HO.out, World.grownBy.refl w (some g)⟩
  case round =>
    obtain ⟨i, hi, rfl, hO, hg⟩ := hrel
    by_cases hlt : i < n
    · obtain ⟨x, hx⟩ : ∃ x, X[i]? = some x := ⟨_, List.getElem?_eq_getElem (by rw [hL.out.2.1]; exact hlt)⟩
      obtain ⟨y, hy⟩ : ∃ y, Y[i]? = some y := ⟨_, List.getElem?_eq_getElem (by rw [hL.out.2.2.1]; exact hlt)⟩
      obtain ⟨hx1, hx2⟩ := List.getElem?_eq_some_iff.1 hx
      obtain ⟨hy1, hy2⟩ := List.getElem?_eq_some_iff.1 hy
      have e1 : X.drop i = x :: X.drop (i + 1) := by rw [List.drop_eq_getElem_cons hx1, hx2]
      have e2 : Y.drop i = y :: Y.drop (i + 1) := by rw [List.drop_eq_getElem_cons hy1, hy2]
      have e3 : X.take (i + 1) = X.take i ++ [x] := by rw [List.take_succ_eq_append_getElem hx1, hx2]
      have e4 : Y.take (i + 1) = Y.take i ++ [y] := by rw [List.take_succ_eq_append_getElem hy1, hy2]
      have l1 : (A ++ Y.take i).length = a + i := by rw [List.length_append, hL.out.1, List.length_take, hL.out.2.2.1]; omega
      have l2 : (A ++ (Y.take i ++ (x :: (X.drop (i + 1) ++ (B ++ X.take i))))).length = b + i := by
        simp only [List.length_append, List.length_cons, List.length_take, List.length_drop, hL.out.1, hL.out.2.1, hL.out.2.2.1]
        have := hL.out.2.2.2.1
        omega
      have f1 : A ++ (Y.take i ++ (X.drop i ++ (B ++ (X.take i ++ (Y.drop i ++ C))))) = (A ++ Y.take i) ++ x :: (X.drop (i + 1) ++ (B ++ (X.take i ++ (Y.drop i ++ C)))) := by rw [e1]; simp
      have f2 : A ++ (Y.take i ++ (X.drop i ++ (B ++ (X.take i ++ (Y.drop i ++ C))))) = (A ++ (Y.take i ++ (x :: (X.drop (i + 1) ++ (B ++ X.take i))))) ++ y :: (Y.drop (i + 1) ++ C) := by rw [e1, e2]; simp
      have f3 : ((A ++ (Y.take i ++ (X.drop i ++ (B ++ (X.take i ++ (Y.drop i ++ C)))))).set (a + i) y).set (b + i) x = A ++ (Y.take (i + 1) ++ (X.drop (i + 1) ++ (B ++ (X.take (i + 1) ++ (Y.drop (i + 1) ++ C))))) := by
        rw [f1, set_mid _ _ _ _ _ l1]
        rw [show (A ++ Y.take i) ++ y :: (X.drop (i + 1) ++ (B ++ (X.take i ++ (Y.drop i ++ C)))) = (A ++ (Y.take i ++ (y :: (X.drop (i + 1) ++ (B ++ X.take i))))) ++ y :: (Y.drop (i + 1) ++ C) from by rw [e2]; simp]
        rw [set_mid _ _ _ _ _ (by simpa using l2), e3, e4]
        simp
      have hn : N = (A ++ (Y.take i ++ (X.drop i ++ (B ++ (X.take i ++ (Y.drop i ++ C)))))).length := by
        rw [hL.out.2.2.2.2]
        simp [hL.out.1, hL.out.2.1, hL.out.2.2.1]
        omega
      obtain ⟨c1, cf, cl, o1, _⟩ := hO.at1 hn (i := a + i) (x := x) (by rw [f1]; exact get_mid _ _ _ _ l1)
      obtain ⟨c2, _, _, o2, _⟩ := hO.at1 hn (i := b + i) (x := y) (by rw [f2]; exact get_mid _ _ _ _ l2)
      have HF := Lib.hid (And.intro f3 (And.intro hn (And.intro o1 o2)))
      have hne : ¬ a + i = b + i := by omega
      have hne' : ¬ b + i = a + i := by omega
      have k1 : (a : Int) + i ≤ 1000000 := by omega
      have k2 : (b : Int) + i ≤ 1000000 := by omega
      have k3 : (a : Int) + i < N := by omega
      have k4 : (b : Int) + i < N := by omega
      have k5 : 0 ≤ (a : Int) + i := by omega
      have k6 : 0 ≤ (b : Int) + i := by omega
      have w1 : IntKind.i64.wrap ((a : Int) + i) = (a : Int) + i := IntWalk.i64_in _ (by omega)
      have w2 : IntKind.i64.wrap ((b : Int) + i) = (b : Int) + i := IntWalk.i64_in _ (by omega)
      have t1 : ((a : Int) + i).toNat = a + i := by omega
      have t2 : ((b : Int) + i).toNat = b + i := by omega
      clear hx hy hx1 hx2 hy1 hy2 e1 e2 e3 e4 l1 l2 f1 f2 f3 hn o1 o2
      go_wp2
      go_region
      obtain ⟨s1, r1⟩ := hO.set1 HF.out.2.1 (i := a + i) (by omega) HF.out.2.2.2
      obtain ⟨s2, r2⟩ := s1.set1 (by rw [List.length_set]; exact HF.out.2.1) (i := b + i) (by omega) HF.out.2.2.1
      rw [HF.out.1] at s2
      have r3 := (hg.trans r1).trans r2
      have HS := Lib.hid (And.intro s2 r3)
      clear s1 r1 s2 r2 r3
      go_wp2
      exact ⟨⟨i + 1, by omega, by go_num, HS.out.1.drew, grown_below HS.out.2 (below_drew _)⟩, by simp [intOf]; omega⟩
    · have hin : i = n := by omega
      have h1 : X.take i = X := List.take_of_length_le (by rw [hL.out.2.1]; omega)
      have h2 : Y.take i = Y := List.take_of_length_le (by rw [hL.out.2.2.1]; omega)
      have h3 : X.drop i = [] := List.drop_of_length_le (by rw [hL.out.2.1]; omega)
      have h4 : Y.drop i = [] := List.drop_of_length_le (by rw [hL.out.2.2.1]; omega)
      rw [h1, h2, h3, h4, List.nil_append, List.nil_append] at hO
      have HH := Lib.hid hO
      clear h1 h2 h3 h4 hO
      go_wp2
      go_end0
      exact ⟨rfl, HH.out, hg⟩
end Go.Proofs.YtoncaejgflfhhaaGreatDoor
namespace Go.Proofs.YtoncaejgflfhhaaGreatDoor
open Go.RowKit

set_option maxHeartbeats 2000000 in
set_option maxRecDepth 100000 in
theorem rotate184 (A X Y C : List Int) (a m b N g cap base : Nat) (fv : Value) (w : World) (ha : A.length = a) (hX : a + X.length = m) (hY : m + Y.length = b) (hx : 0 < X.length) (hy : 0 < Y.length) (hN : N = (A ++ (X ++ (Y ++ C))).length) (hm : N ≤ 1000000)
    (hO : Own 3 Rp.int base w (.slice (some ⟨g, 0, none⟩) N cap) (A ++ (X ++ (Y ++ C)))) :
    Calls Tryz.prog 184 #[.slice (some ⟨g, 0, none⟩) N cap, .int .i64 a, .int .i64 m, .int .i64 b, fv] w fun e w' => e = .returned (.tuple #[]) ∧ Own 3 Rp.int base w' (.slice (some ⟨g, 0, none⟩) N cap) (A ++ (Y ++ (X ++ C))) ∧ w.grownBy w' (some g) := by
  have hN2 : N = b + C.length := by rw [hN]; simp; omega
  have hL := Lib.hid (And.intro ha (And.intro hX (And.intro hY hN2)))
  obtain ⟨T, hT⟩ : ∃ T, T = A ++ (Y ++ (X ++ C)) := ⟨_, rfl⟩
  rw [← hT]
  have HT := Lib.hid hT
  have HO := Lib.hid hO
  obtain ⟨i0, hi0⟩ : ∃ i0, i0 = X.length := ⟨_, rfl⟩
  obtain ⟨j0, hj0⟩ : ∃ j0, j0 = Y.length := ⟨_, rfl⟩
  have e1 : (m : Int) - a = i0 := by omega
  have e2 : (b : Int) - m = j0 := by omega
  have hbN : b ≤ N := by omega
  have hmb : m ≤ b := by omega
  have HE := Lib.hid (And.intro hi0 (And.intro hj0 (And.intro hx hy)))
  clear ha hX hY hx hy hN hO hN2 hT hi0 hj0
  go_enter Tryz.func184, Tryz.ntmps184
  go_wp2
  clear e1 e2
  go_loopw [10, 11] (fun vi vj wr => ∃ (P X' Y' S : List Int) (i j : Nat), vi = .int .i64 i ∧ vj = .int .i64 j ∧ X'.length = i ∧ Y'.length = j ∧ 0 < i ∧ 0 < j ∧ P.length + i = m ∧ m + j ≤ N ∧ Hid (T = P ++ (Y' ++ (X' ++ S)) ∧ N = (P ++ (X' ++ (Y' ++ S))).length) ∧ Own 3 Rp.int base wr (.slice (some ⟨g, 0, none⟩) N cap) (P ++ (X' ++ (Y' ++ S))) ∧ w.grownBy wr (some g)) (fun vi vj _ => (intOf vi).toNat + (intOf vj).toNat)
  case atStart => exact ⟨A, X, Y, C, i0, j0, rfl, rfl, HE.out.1.symm, HE.out.2.1.symm, by have := HE.out; omega, by have := HE.out; omega, by have := HE.out; have := hL.out; omega, by have := HE.out; have := hL.out; omega, Lib.hid ⟨HT.out, by have := hL.out; simp; omega⟩, HO.out, World.grownBy.refl w (some g)⟩
  case round =>
    obtain ⟨P, X', Y', S, i, j, rfl, rfl, hx, hy, hi, hj, hp, hmj, HH, hO, hg⟩ := hrel
    have hHX := Lib.hid (And.intro hx (And.intro hy hp))
    have ea : ((P.length : Nat) : Int) = (m : Int) - i := by omega
    have him : i ≤ m := by omega
    by_cases hij : i = j
    · subst hij
      have HC := Lib.hid (swap188 P X' [] Y' S P.length m i N g cap base fv wr rfl hx hy (by simp; omega) (by rw [HH.out.2]; rfl) hm hO)
      rw [ea] at HC
      clear ea hx hy hp
      go_wp2_with (go_at_call 188; refine HC.out.mono ?_; rintro e w1 ⟨rfl, hO1, hg1⟩)
      go_end0
      exact ⟨rfl, by rw [HH.out.1]; exact hO1, hg.trans hg1⟩
    · have hne : ((i : Int) != j) = true := by rw [bne_iff_ne]; omega
      by_cases hlt : j < i
      · have hj1 : (X'.take j).length = j := by rw [List.length_take]; omega
        have hj2 : (X'.drop j).length = i - j := by rw [List.length_drop]; omega
        have hXX : X' = X'.take j ++ X'.drop j := (List.take_append_drop j X').symm
        have hO' := hO
        rw [hXX, List.append_assoc] at hO'
        have HC := Lib.hid (swap188 P (X'.take j) (X'.drop j) Y' S P.length m j N g cap base fv wr rfl hj1 hy (by omega) (by rw [HH.out.2]; simp [hj1, hj2, hx]; omega) hm hO')
        rw [ea] at HC
        have HJ := Lib.hid (And.intro hj1 (And.intro hj2 hXX))
        have es : (i : Int) - j = ((i - j : Nat) : Int) := by omega
        clear ea hx hy hp hj1 hj2 hXX hO'
        go_wp2_with (go_at_call 188; refine HC.out.mono ?_; rintro e w1 ⟨rfl, hO1, hg1⟩)
        refine ⟨⟨P ++ Y', X'.drop j, X'.take j, S, i - j, j, by first | rfl | (rw [es]) , rfl, HJ.out.2.1, HJ.out.1, by omega, hj, ?_, by omega, Lib.hid ⟨?_, ?_⟩, ?_, hg.trans hg1⟩, ?_⟩
        · have := hHX.out
          rw [List.length_append]
          omega
        · rw [HH.out.1, show X'.take j ++ (X'.drop j ++ S) = X' ++ S from by rw [← List.append_assoc, List.take_append_drop], List.append_assoc]
        · have := hHX.out
          have := HJ.out
          rw [HH.out.2]
          simp only [List.length_append]
          omega
        · simpa using hO1
        · simp [intOf]
          omega
      · have hlt' : i < j := by omega
        have hj1 : (Y'.take (j - i)).length = j - i := by rw [List.length_take]; omega
        have hj2 : (Y'.drop (j - i)).length = i := by rw [List.length_drop]; omega
        have hYY : Y' = Y'.take (j - i) ++ Y'.drop (j - i) := (List.take_append_drop (j - i) Y').symm
        have hO' := hO
        rw [hYY, List.append_assoc] at hO'
        have HC := Lib.hid (swap188 P X' (Y'.take (j - i)) (Y'.drop (j - i)) S P.length (m + (j - i)) i N g cap base fv wr rfl hx hj2 (by omega) (by rw [HH.out.2]; simp [hj1, hj2, hx, hy]; omega) hm hO')
        have eb : ((m + (j - i) : Nat) : Int) = (m : Int) + j - i := by omega
        rw [ea, eb] at HC
        have HJ := Lib.hid (And.intro hj1 (And.intro hj2 hYY))
        have es : (j : Int) - i = ((j - i : Nat) : Int) := by omega
        clear ea eb hx hy hp hj1 hj2 hYY hO'
        go_wp2_with (go_at_call 188; refine HC.out.mono ?_; rintro e w1 ⟨rfl, hO1, hg1⟩)
        refine ⟨⟨P, Y'.drop (j - i), Y'.take (j - i), X' ++ S, i, j - i, rfl, by first | rfl | (rw [es]), HJ.out.2.1, HJ.out.1, hi, by omega, hHX.out.2.2, by omega, Lib.hid ⟨?_, ?_⟩, ?_, hg.trans hg1⟩, ?_⟩
        · rw [HH.out.1, show Y'.take (j - i) ++ (Y'.drop (j - i) ++ (X' ++ S)) = Y' ++ (X' ++ S) from by rw [← List.append_assoc, List.take_append_drop]]
        · have := hHX.out
          have := HJ.out
          rw [HH.out.2]
          simp only [List.length_append]
          omega
        · simpa using hO1
        · simp [intOf]
          omega
end Go.Proofs.YtoncaejgflfhhaaGreatDoor
