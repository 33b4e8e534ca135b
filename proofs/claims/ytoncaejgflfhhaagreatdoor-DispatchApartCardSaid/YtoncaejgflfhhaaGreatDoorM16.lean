/- class.Precedence. | What a stable sort of numbers by ranks is: the one list in strict order. No program here. | method's role of a method in a generic function. -/
import Derived.Test.YtoncaejgflfhhaaGreatDoorM15
import Derived.Test.YtoncaejgflfhhaaGreatDoorM03
import Derived.Test.YtoncaejgflfhhaaGreatDoorM04
import Derived.Test.YtoncaejgflfhhaaGreatDoorM00
import Derived.Test.YtoncaejgflfhhaaGreatDoorProg
import Derived.Deep.QuietTactic
import Derived.BigQuiet
set_option linter.unusedVariables false
set_option linter.unusedSimpArgs false
namespace Go.Proofs.YtoncaejgflfhhaaGreatDoor
open Go.RowKit

/-- The precedence list, and what stands in its way. -/
def orderS (s : CS) (c : Int) : List Int × Int := if inCS s c then (if (precS s c).2 then ((precS s c).1, 0) else ([], 280)) else ([], 5)

set_option maxHeartbeats 4000000 in
theorem precedence38 (s : CS) (cs : List Value) (c : Int) (w : World) (h : rCS.K w s cs) (hlen : s.classes.length ≤ 100000) (hc : Rp.okInt c) :
    Calls Tryz.prog 38 #[rCS.val cs, .int .i64 c] w fun e w' => ∃ v, e = .returned (.tuple #[v, .int .i64 (orderS s c).2]) ∧ Own 3 Rp.int w.heap.size w' v (orderS s c).1 ∧ Below w.heap.size w w' := by
  have H1 := Lib.hid (fun w' (hb : Below w.heap.size w w') => has84 s cs c w' (K_below h hb))
  have H2 := Lib.hid (fun w' (hb : Below w.heap.size w w') => prec85 s cs c w' (K_below h hb) hlen hc)
  obtain ⟨u, l, rfl, hu, hl⟩ := id h
  obtain ⟨A, k, rfl⟩ := slice_form hu
  obtain ⟨B, m, rfl⟩ := slice_form hl
  rw [rCS_val] at H1 H2 ⊢
  clear hu hl h hlen hc
  unfold orderS
  by_cases h1 : inCS s c = true
  · have hn1 : (!inCS s c) = false := by rw [h1]; rfl
    rw [if_pos h1]
    by_cases h2 : (precS s c).2 = true
    · have hn2 : (!(precS s c).2) = false := by rw [h2]; rfl
      rw [if_pos h2]
      go_enter Tryz.func38, Tryz.ntmps38
      go_wp2_with (first
        | (go_at_call 84; refine (H1.out _ (below_one _ _)).mono ?_; rintro e w1 ⟨rfl, hB⟩; have hT := below_to (below_one _ _) hB; have bx := (Box.mk_ w (b := w.heap.size) rfl rfl).later hB; have c0 := bx.cell 0 _ rfl; have c1 := bx.cell 1 _ rfl; have lt := bx.lt)
        | (go_at_call 85; refine (H2.out _ hT).mono ?_; rintro e w2 ⟨v, rfl, hO, hB2⟩)
        | go_in)
      exact bodyPost_ret (v := .tuple #[v, .int .i64 0]) (by simp [results, Tryz.results38, go_sem]) rfl ⟨v, rfl, hO.lower hT.size, below_to hT hB2⟩
    · have h2' : (precS s c).2 = false := by simpa using h2
      rw [if_neg h2]
      go_enter Tryz.func38, Tryz.ntmps38
      go_wp2_with (first
        | (go_at_call 84; refine (H1.out _ (below_one _ _)).mono ?_; rintro e w1 ⟨rfl, hB⟩; have hT := below_to (below_one _ _) hB; have bx := (Box.mk_ w (b := w.heap.size) rfl rfl).later hB; have c0 := bx.cell 0 _ rfl; have c1 := bx.cell 1 _ rfl; have lt := bx.lt)
        | (go_at_call 85; refine (H2.out _ hT).mono ?_; rintro e w2 ⟨v, rfl, hO, hB2⟩)
        | go_in)
      exact bodyPost_ret (v := .tuple #[.slice none 0 0, .int .i64 280]) (by simp [results, Tryz.results38, go_sem]) rfl ⟨_, rfl, Own.nil _ _ _ _, below_to hT hB2⟩
  · have h1' : inCS s c = false := by simpa using h1
    rw [if_neg h1]
    go_enter Tryz.func38, Tryz.ntmps38
    go_wp2_with (first
      | (go_at_call 84; refine (H1.out _ (below_one _ _)).mono ?_; rintro e w1 ⟨rfl, hB⟩; have hT := below_to (below_one _ _) hB)
      | go_in)
    exact bodyPost_ret (v := .tuple #[.slice none 0 0, .int .i64 5]) (by simp [results, Tryz.results38, go_sem]) rfl ⟨_, rfl, Own.nil _ _ _ _, hT⟩
end Go.Proofs.YtoncaejgflfhhaaGreatDoor
namespace Go.Proofs.YtoncaejgflfhhaaGreatDoor

theorem cmpI_lt {a b : Int} : cmpI a b < 0 ↔ a < b := by unfold cmpI; split <;> (try split) <;> omega
theorem cmpI_eq {a b : Int} : cmpI a b = 0 ↔ a = b := by unfold cmpI; split <;> (try split) <;> omega
theorem cmpI_neg (a b : Int) : cmpI a b = - cmpI b a := by unfold cmpI; split <;> (try split) <;> (try split) <;> omega
theorem cmpL_neg : ∀ a b : List Int, cmpL a b = - cmpL b a
  | [], [] => rfl
  | [], _ :: _ => rfl
  | _ :: _, [] => rfl
  | a :: r, b :: s => by
    rw [cmpL, cmpL, cmpI_neg a b]
    by_cases h : cmpI b a = 0
    · rw [h, Int.neg_zero, if_pos rfl, if_pos rfl, cmpL_neg r s]
    · rw [if_neg (by omega), if_neg h]
theorem cmpL_eq : ∀ {a b : List Int}, cmpL a b = 0 ↔ a = b
  | [], [] => by simp [cmpL]
  | [], _ :: _ => by simp [cmpL]
  | _ :: _, [] => by simp [cmpL]
  | a :: r, b :: s => by
    rw [cmpL]
    by_cases h : cmpI a b = 0
    · rw [if_pos h, cmpL_eq, cmpI_eq.1 h]
      simp
    · rw [if_neg h]
      have : a ≠ b := fun e => h (cmpI_eq.2 e)
      simp [h, this]
theorem cmpL_trans : ∀ {a b c : List Int}, cmpL a b < 0 → cmpL b c < 0 → cmpL a c < 0
  | [], [], _, h, _ => by simp [cmpL] at h
  | [], _ :: _, [], _, h => by simp [cmpL] at h
  | [], _ :: _, _ :: _, _, _ => by simp [cmpL]
  | _ :: _, [], _, h, _ => by simp [cmpL] at h
  | _ :: _, _ :: _, [], _, h => by simp [cmpL] at h
  | a :: r, b :: s, c :: t, h, k => by
    rw [cmpL] at h k ⊢
    by_cases h1 : cmpI a b = 0
    · rw [if_pos h1] at h
      rw [cmpI_eq.1 h1]
      by_cases k1 : cmpI b c = 0
      · rw [if_pos k1] at k ⊢
        exact cmpL_trans h k
      · rw [if_neg k1] at k ⊢
        exact k
    · rw [if_neg h1] at h
      have hab := cmpI_lt.1 h
      by_cases k1 : cmpI b c = 0
      · rw [← cmpI_eq.1 k1, if_neg h1]
        exact h
      · rw [if_neg k1] at k
        have hbc := cmpI_lt.1 k
        have hac : cmpI a c < 0 := cmpI_lt.2 (by omega)
        rw [if_neg (by omega)]
        exact hac

/-- The order of a stable sort by ranks, of numbers that stand in their own order. -/
def ltc (rk : Int → List Int) (x y : Int) : Prop := cmpL (rk x) (rk y) < 0 ∨ (cmpL (rk x) (rk y) = 0 ∧ x < y)
section
variable {rk : Int → List Int}
theorem ltc_irrefl {x : Int} : ¬ ltc rk x x := by
  rintro (h | h)
  · rw [cmpL_eq.2 rfl] at h
    omega
  · omega
theorem ltc_trans {x y z : Int} (h : ltc rk x y) (k : ltc rk y z) : ltc rk x z := by
  rcases h with h | ⟨h, hl⟩
  · rcases k with k | ⟨k, kl⟩
    · exact .inl (cmpL_trans h k)
    · rw [cmpL_eq.1 k] at h
      exact .inl h
  · rcases k with k | ⟨k, kl⟩
    · rw [← cmpL_eq.1 h] at k
      exact .inl k
    · exact .inr ⟨by rw [cmpL_eq.1 h]; exact k, by omega⟩
theorem ltc_total {x y : Int} (h : x ≠ y) : ltc rk x y ∨ ltc rk y x := by
  have hn := cmpL_neg (rk x) (rk y)
  unfold ltc
  omega
/-- The later number is less just if its rank is. -/
theorem ltc_later {x y : Int} (h : x < y) : ltc rk y x ↔ cmpL (rk y) (rk x) < 0 := by
  unfold ltc
  omega
theorem ltc_not {x y : Int} (h : ¬ ltc rk x y) (hne : x ≠ y) : ltc rk y x := (ltc_total hne).resolve_left h
theorem sorted_unique {a b : List Int} (ha : a.Pairwise (ltc rk)) (hb : b.Pairwise (ltc rk)) (h : a.Perm b) : a = b :=
  List.Perm.eq_of_pairwise (fun x y _ _ h1 h2 => absurd (ltc_trans h1 h2) ltc_irrefl) ha hb h

/-- x among those that are in order, behind all that are no greater. -/
def insR (rk : Int → List Int) (x : Int) : List Int → List Int
  | [] => [x]
  | y :: r => if cmpL (rk x) (rk y) < 0 then x :: y :: r else y :: insR rk x r
/-- A stable sort. -/
def sortR (rk : Int → List Int) (l : List Int) : List Int := l.foldl (fun acc x => insR rk x acc) []
theorem insR_perm (x : Int) : ∀ l : List Int, (insR rk x l).Perm (x :: l)
  | [] => .refl _
  | y :: r => by
    unfold insR
    split
    · exact .refl _
    · exact ((insR_perm x r).cons y).trans (.swap x y r)
theorem insR_sorted (x : Int) : ∀ l : List Int, l.Pairwise (ltc rk) → (∀ y ∈ l, y < x) → (insR rk x l).Pairwise (ltc rk)
  | [], _, _ => List.pairwise_singleton _ _
  | y :: r, h, hlt => by
    rw [List.pairwise_cons] at h
    unfold insR
    split
    · rename_i hc
      have hxy : ltc rk x y := .inl hc
      refine List.pairwise_cons.2 ⟨fun z hz => ?_, List.pairwise_cons.2 h⟩
      rcases List.mem_cons.1 hz with rfl | hz
      · exact hxy
      · exact ltc_trans hxy (h.1 z hz)
    · rename_i hc
      refine List.pairwise_cons.2 ⟨fun z hz => ?_, insR_sorted x r h.2 (fun z hz => hlt z (.tail _ hz))⟩
      have := (insR_perm x r).mem_iff.1 hz
      rcases List.mem_cons.1 this with rfl | hz
      · have hl := hlt y (.head _)
        have hn := cmpL_neg (rk z) (rk y)
        unfold ltc
        omega
      · exact h.1 z hz
theorem sortR_aux : ∀ (l acc : List Int), acc.Pairwise (ltc rk) → l.Pairwise (· < ·) → (∀ a ∈ acc, ∀ x ∈ l, a < x) →
    (l.foldl (fun acc x => insR rk x acc) acc).Pairwise (ltc rk) ∧ (l.foldl (fun acc x => insR rk x acc) acc).Perm (acc ++ l)
  | [], acc, h, _, _ => ⟨h, by simp⟩
  | x :: r, acc, h, hl, ha => by
    rw [List.pairwise_cons] at hl
    have h1 := insR_sorted x acc h (fun a hm => ha a hm x (.head _))
    have hp := insR_perm (rk := rk) x acc
    obtain ⟨h2, h3⟩ := sortR_aux r (insR rk x acc) h1 hl.2 (fun a hm y hy => by
      rcases List.mem_cons.1 (hp.mem_iff.1 hm) with rfl | hm
      · exact hl.1 y hy
      · exact ha a hm y (.tail _ hy))
    refine ⟨h2, h3.trans ?_⟩
    exact (hp.append_right r).trans (List.perm_middle.symm)
theorem sortR_spec {l : List Int} (h : l.Pairwise (· < ·)) : (sortR rk l).Pairwise (ltc rk) ∧ (sortR rk l).Perm l := by
  have := sortR_aux (rk := rk) l [] List.Pairwise.nil h (fun a h => by cases h)
  simpa [sortR] using this
/-- Whatever is in order and holds the same numbers is the sort. -/
theorem sortR_is {l z : List Int} (h : l.Pairwise (· < ·)) (hz : z.Pairwise (ltc rk)) (hp : z.Perm l) : z = sortR rk l :=
  sorted_unique hz (sortR_spec h).1 (hp.trans (sortR_spec h).2.symm)
end
end Go.Proofs.YtoncaejgflfhhaaGreatDoor
namespace Go.Proofs.YtoncaejgflfhhaaGreatDoor
open Go.RowKit

abbrev sStd : ByteArray := ⟨#[83, 84, 65, 78, 68, 65, 82, 68]⟩
abbrev sAround : ByteArray := ⟨#[58, 65, 82, 79, 85, 78, 68]⟩
abbrev sBefore : ByteArray := ⟨#[58, 66, 69, 70, 79, 82, 69]⟩
abbrev sAfter : ByteArray := ⟨#[58, 65, 70, 84, 69, 82]⟩
def roleS (comb : ByteArray) : List ByteArray → Int
  | [] => if comb = sStd then 3 else 0
  | [x] => if x = sAround then 1 else if comb = sStd then (if x = sBefore then 2 else if x = sAfter then 4 else 0) else (if x = comb then 3 else 0)
  | _ => 0
theorem lstd : sStd.toList = [83, 84, 65, 78, 68, 65, 82, 68] := by decide +kernel
theorem laround : sAround.toList = [58, 65, 82, 79, 85, 78, 68] := by decide +kernel
theorem lbefore : sBefore.toList = [58, 66, 69, 70, 79, 82, 69] := by decide +kernel
theorem lafter : sAfter.toList = [58, 65, 70, 84, 69, 82] := by decide +kernel
theorem lit_yes {x y : ByteArray} {l : List UInt8} (hl : y.toList = l) (h : x = y) : (x.toList == l) = true := by rw [← hl, str_beq]; simpa using h
theorem lit_no {x y : ByteArray} {l : List UInt8} (hl : y.toList = l) (h : ¬ x = y) : (x.toList == l) = false := by rw [← hl, str_beq]; simpa using h
/-- The walk's memory at role: both parameters in boxes. -/
theorem role_below (w : World) (o p : Obj) : Below w.heap.size w ((w.alloc o).alloc p) := below_more (below_one _ _) _

theorem role_drew (w : World) (o p : Obj) (n : Nat) : Below w.heap.size w (((w.alloc o).alloc p).drewN n) := (role_below w o p).trans ⟨rfl, rfl, rfl, Nat.le_refl _, fun _ _ => rfl⟩
section
variable (g : Gen) (gcs : List Value) (m : Meth) (mcs : List Value) (w : World)
set_option maxHeartbeats 4000000 in
theorem role56_nil (hg : rGen.K w g gcs) (hm : rMeth.K w m mcs) (hq : m.quals = []) :
    Calls Tryz.prog 56 #[rGen.val gcs, rMeth.val mcs] w (RV (.int .i64 (roleS g.comb m.quals)) w) := by
  obtain ⟨gm, rfl, hgm, _⟩ := hg
  obtain ⟨q, s, rfl, h1, h2, h3⟩ := hm
  rw [rGen_val, rMeth_val, hq]
  rw [hq] at h1
  obtain ⟨A, c, rfl⟩ := slice_form h1
  obtain ⟨B, d, rfl⟩ := slice_form h2
  obtain ⟨C, f, rfl⟩ := slice_form hgm
  clear h1 h2 hgm hq
  by_cases hc : g.comb = sStd
  · have kc := lit_yes lstd hc
    rw [show roleS g.comb [] = 3 from if_pos hc]
    clear hc
    go_enter Tryz.func56, Tryz.ntmps56
    go_wp2
    go_ret
    exact ⟨rfl, role_below _ _ _⟩
  · have kc := lit_no lstd hc
    rw [show roleS g.comb [] = 0 from if_neg hc]
    clear hc
    go_enter Tryz.func56, Tryz.ntmps56
    go_wp2
    go_ret
    exact ⟨rfl, role_below _ _ _⟩
set_option maxHeartbeats 4000000 in
theorem role56_more (hg : rGen.K w g gcs) (hm : rMeth.K w m mcs) (h2 : 2 ≤ m.quals.length) :
    Calls Tryz.prog 56 #[rGen.val gcs, rMeth.val mcs] w (RV (.int .i64 (roleS g.comb m.quals)) w) := by
  obtain ⟨gm, rfl, hgm, _⟩ := hg
  obtain ⟨q, s, rfl, h1, hs, h3⟩ := hm
  rw [rGen_val, rMeth_val]
  obtain ⟨n, hn⟩ : ∃ n, n = m.quals.length := ⟨_, rfl⟩
  rw [show roleS g.comb m.quals = 0 from by
    match m.quals, h2 with
    | _ :: _ :: _, _ => rfl]
  obtain ⟨A, c, rfl⟩ := slice_form h1
  rw [← hn] at h2 ⊢
  obtain ⟨B, d, rfl⟩ := slice_form hs
  obtain ⟨C, f, rfl⟩ := slice_form hgm
  clear h1 hs hgm hn
  have k1 : ¬ n = 0 := by omega
  have k2 : ¬ n = 1 := by omega
  go_enter Tryz.func56, Tryz.ntmps56
  go_wp2
  go_ret
  exact ⟨rfl, role_below _ _ _⟩
set_option maxHeartbeats 4000000 in
theorem role56_one (x : ByteArray) (hg : rGen.K w g gcs) (hm : rMeth.K w m mcs) (hq : m.quals = [x]) :
    Calls Tryz.prog 56 #[rGen.val gcs, rMeth.val mcs] w (RV (.int .i64 (roleS g.comb m.quals)) w) := by
  obtain ⟨gm, rfl, hgm, _⟩ := hg
  obtain ⟨q, s, rfl, h1, h2, h3⟩ := hm
  rw [rGen_val, rMeth_val, hq]
  rw [hq] at h1
  obtain ⟨A, c, he, _, _, _, hr⟩ := h1
  cases he
  obtain ⟨b, off, cc, hA, hbl, hk, hcell⟩ := Rp.Row_get hr 0 (by simp)
  subst hA
  obtain ⟨rfl, hsz⟩ := hk
  have c0 : w.cell? ⟨b, off, none⟩ = some (.string x) := by have := hcell 0 _ rfl; simpa using this
  obtain ⟨B, d, rfl⟩ := slice_form h2
  obtain ⟨C, f, rfl⟩ := slice_form hgm
  clear hr hcell hsz h2 hgm hq
  rw [List.length_singleton]
  have hrole : roleS g.comb [x] = if x = sAround then 1 else if g.comb = sStd then (if x = sBefore then 2 else if x = sAfter then 4 else 0) else (if x = g.comb then 3 else 0) := rfl
  rw [hrole]
  clear hrole
  by_cases ha : x = sAround
  · have ka := lit_yes laround ha
    rw [if_pos ha]
    clear ha
    by_cases hc : g.comb = sStd
    · have kc := lit_yes lstd hc
      clear hc
      go_enter Tryz.func56, Tryz.ntmps56
      go_wp2
      go_ret
      exact ⟨rfl, role_below _ _ _⟩
    · have kc := lit_no lstd hc
      clear hc
      go_enter Tryz.func56, Tryz.ntmps56
      go_wp2
      go_ret
      exact ⟨rfl, role_below _ _ _⟩
  · have ka := lit_no laround ha
    rw [if_neg ha]
    clear ha
    by_cases hc : g.comb = sStd
    · have kc := lit_yes lstd hc
      have kc' : (!(g.comb.toList == [83, 84, 65, 78, 68, 65, 82, 68])) = false := by rw [kc]; rfl
      have kn : (g.comb.toList != [83, 84, 65, 78, 68, 65, 82, 68]) = false := by rw [bne, kc]; rfl
      rw [if_pos hc]
      clear hc
      by_cases hb : x = sBefore
      · have kb := lit_yes lbefore hb
        rw [if_pos hb]
        clear hb
        go_enter Tryz.func56, Tryz.ntmps56
        go_wp2
        go_quiet (fail)
        go_wp2
        go_ret
        exact ⟨rfl, role_drew _ _ _ _⟩
      · have kb := lit_no lbefore hb
        rw [if_neg hb]
        clear hb
        by_cases hf : x = sAfter
        · have kf := lit_yes lafter hf
          rw [if_pos hf]
          clear hf
          go_enter Tryz.func56, Tryz.ntmps56
          go_wp2
          go_quiet (fail)
          go_wp2
          go_ret
          exact ⟨rfl, role_drew _ _ _ _⟩
        · have kf := lit_no lafter hf
          rw [if_neg hf]
          clear hf
          go_enter Tryz.func56, Tryz.ntmps56
          go_wp2
          go_quiet (fail)
          go_wp2
          go_ret
          exact ⟨rfl, role_drew _ _ _ _⟩
    · have kc := lit_no lstd hc
      have kc' : (!(g.comb.toList == [83, 84, 65, 78, 68, 65, 82, 68])) = true := by rw [kc]; rfl
      have kn : (g.comb.toList != [83, 84, 65, 78, 68, 65, 82, 68]) = true := by rw [bne, kc]; rfl
      rw [if_neg hc]
      clear hc
      by_cases hx : x = g.comb
      · have kx := (str_beq x g.comb).trans (decide_eq_true hx)
        rw [if_pos hx]
        clear hx
        go_enter Tryz.func56, Tryz.ntmps56
        go_wp2
        go_quiet (fail)
        go_wp2
        go_ret
        exact ⟨rfl, role_drew _ _ _ _⟩
      · have kx := (str_beq x g.comb).trans (decide_eq_false hx)
        rw [if_neg hx]
        clear hx
        go_enter Tryz.func56, Tryz.ntmps56
        go_wp2
        go_quiet (fail)
        go_wp2
        go_ret
        exact ⟨rfl, role_drew _ _ _ _⟩
theorem role56 (hg : rGen.K w g gcs) (hm : rMeth.K w m mcs) : Calls Tryz.prog 56 #[rGen.val gcs, rMeth.val mcs] w (RV (.int .i64 (roleS g.comb m.quals)) w) := by
  match hq : m.quals with
  | [] => exact hq ▸ role56_nil g gcs m mcs w hg hm hq
  | [x] => exact hq ▸ role56_one g gcs m mcs w x hg hm hq
  | _ :: _ :: _ => exact hq ▸ role56_more g gcs m mcs w hg hm (by rw [hq]; simp)
end
end Go.Proofs.YtoncaejgflfhhaaGreatDoor
