/- slices.Clone at each of its instances: a row of one's own with the same elements. Printed by gen_clone.py. | Small functions: has, is, slices.Index, Contains, Equal, Compare. | slices.Equal at each of its instances. Printed by gen_eq.py. -/
import Derived.Test.YtoncaejgflfhhaaGreatDoorProg
import Derived.Test.YtoncaejgflfhhaaGreatDoorM00
import Derived.WalkSpells
import Derived.Test.YtoncaejgflfhhaaGreatDoorM02
import Derived.Deep.QuietTactic
import Derived.BigQuiet
import Derived.WideShapes
import Derived.Laws.StructEq
set_option linter.unusedVariables false
set_option linter.unusedSimpArgs false
namespace Go.Proofs.YtoncaejgflfhhaaGreatDoor
open Go.RowKit

theorem inf9 : (Tryz.prog.info? 9).map (fun i => (i.size, i.bytes, i.zero.map (fun z => z.cells.size))) = some (1, 16, some 1) := by kernel_rfl
theorem clone45 {α : Type} (d : Rp α) (hsz : d.sz = 1) (hE : d.E 9 = false) (e : Option Nat) (xs : List α) (v : Value) (w : World) (h : (Rp.slice e d).K w xs [v]) (hb : xs.length * 16 ≤ 140737488355328) :
    Calls Tryz.prog 45 #[v] w fun e w' => ∃ v', e = .returned v' ∧ Own 9 d w.heap.size w' v' xs ∧ Below w.heap.size w w' := by
  obtain ⟨A, c, hv, h1, h2, h3, h4⟩ := h
  cases hv
  have hq := fun w a n c => Lib.run_eql_slice_nil (P := Tryz.prog) w 38 9 a n c 0 0 Tryz.underlying38
  cases A with
  | none =>
    have := h3 rfl
    subst this
    have hx : xs = [] := List.eq_nil_of_length_eq_zero (by omega)
    subst hx
    clear h1 h2 h3 h4 hb
    go_enter Tryz.func45, Tryz.ntmps45
    go_wp2
    go_ret
    exact ⟨_, rfl, Own.nil _ _ _ _, Below.refl _ _⟩
  | some ad =>
    obtain ⟨news, hL, hnews⟩ := Rp.Row_cells h4
    have hown : Own 9 d w.heap.size (w.alloc (.cells #[] 9)) (.slice (some ⟨w.heap.size, 0, none⟩) 0 0) [] := ⟨[], rfl, by rw [hsz]; exact World.ownsRow_made w #[] 0 (Nat.le_refl _) (by simp [maxLen]) (by simp)⟩
    have c4 : ([] : List α).length + xs.length ≤ maxLen := by simp; omega
    have c5 : (([] : List α).length + xs.length) * 16 ≤ 140737488355328 := by simp; omega
    have hL' := Rp.L_mov (Same.alloc w (.cells #[] 9)) hL
    have hn' := cells_alloc hnews (.cells #[] 9)
    have C := Lib.hid (And.intro c4 (And.intro c5 (And.intro hL' (And.intro hn' (And.intro hE hsz)))))
    clear h1 h2 h3 h4 c4 c5 hb hL hnews hL' hn' hE hsz
    go_enter Tryz.func45, Tryz.ntmps45
    go_wp2_with (at_builtin; refine wp_app rfl _ _ 38 rfl Tryz.underlying38 inf9 C.out.2.2.2.2.2 (by decide) rfl hown C.out.2.2.2.2.1 rfl C.out.2.2.1 C.out.2.2.2.1 C.out.2.1 C.out.1 (by simp) ?_; intro v1 w1 hA)
    go_ret
    exact ⟨_, rfl, hA.own, hA.below hown ((Below.refl _ _).alloc (Nat.le_refl _) _) (Nat.le_refl _) (by simp)⟩

theorem inf3 : (Tryz.prog.info? 3).map (fun i => (i.size, i.bytes, i.zero.map (fun z => z.cells.size))) = some (1, 8, some 1) := by kernel_rfl
theorem clone86 {α : Type} (d : Rp α) (hsz : d.sz = 1) (hE : d.E 3 = false) (e : Option Nat) (xs : List α) (v : Value) (w : World) (h : (Rp.slice e d).K w xs [v]) (hb : xs.length * 8 ≤ 140737488355328) :
    Calls Tryz.prog 86 #[v] w fun e w' => ∃ v', e = .returned v' ∧ Own 3 d w.heap.size w' v' xs ∧ Below w.heap.size w w' := by
  obtain ⟨A, c, hv, h1, h2, h3, h4⟩ := h
  cases hv
  have hq := fun w a n c => Lib.run_eql_slice_nil (P := Tryz.prog) w 46 3 a n c 0 0 Tryz.underlying46
  cases A with
  | none =>
    have := h3 rfl
    subst this
    have hx : xs = [] := List.eq_nil_of_length_eq_zero (by omega)
    subst hx
    clear h1 h2 h3 h4 hb
    go_enter Tryz.func86, Tryz.ntmps86
    go_wp2
    go_ret
    exact ⟨_, rfl, Own.nil _ _ _ _, Below.refl _ _⟩
  | some ad =>
    obtain ⟨news, hL, hnews⟩ := Rp.Row_cells h4
    have hown : Own 3 d w.heap.size (w.alloc (.cells #[] 3)) (.slice (some ⟨w.heap.size, 0, none⟩) 0 0) [] := ⟨[], rfl, by rw [hsz]; exact World.ownsRow_made w #[] 0 (Nat.le_refl _) (by simp [maxLen]) (by simp)⟩
    have c4 : ([] : List α).length + xs.length ≤ maxLen := by simp; omega
    have c5 : (([] : List α).length + xs.length) * 8 ≤ 140737488355328 := by simp; omega
    have hL' := Rp.L_mov (Same.alloc w (.cells #[] 3)) hL
    have hn' := cells_alloc hnews (.cells #[] 3)
    have C := Lib.hid (And.intro c4 (And.intro c5 (And.intro hL' (And.intro hn' (And.intro hE hsz)))))
    clear h1 h2 h3 h4 c4 c5 hb hL hnews hL' hn' hE hsz
    go_enter Tryz.func86, Tryz.ntmps86
    go_wp2_with (at_builtin; refine wp_app rfl _ _ 46 rfl Tryz.underlying46 inf3 C.out.2.2.2.2.2 (by decide) rfl hown C.out.2.2.2.2.1 rfl C.out.2.2.1 C.out.2.2.2.1 C.out.2.1 C.out.1 (by simp) ?_; intro v1 w1 hA)
    go_ret
    exact ⟨_, rfl, hA.own, hA.below hown ((Below.refl _ _).alloc (Nat.le_refl _) _) (Nat.le_refl _) (by simp)⟩

theorem inf36 : (Tryz.prog.info? 36).map (fun i => (i.size, i.bytes, i.zero.map (fun z => z.cells.size))) = some (3, 32, some 3) := by kernel_rfl
theorem clone155 {α : Type} (d : Rp α) (hsz : d.sz = 3) (hE : d.E 36 = false) (e : Option Nat) (xs : List α) (v : Value) (w : World) (h : (Rp.slice e d).K w xs [v]) (hb : xs.length * 32 ≤ 140737488355328) :
    Calls Tryz.prog 155 #[v] w fun e w' => ∃ v', e = .returned v' ∧ Own 36 d w.heap.size w' v' xs ∧ Below w.heap.size w w' := by
  obtain ⟨A, c, hv, h1, h2, h3, h4⟩ := h
  cases hv
  have hq := fun w a n c => Lib.run_eql_slice_nil (P := Tryz.prog) w 37 36 a n c 0 0 Tryz.underlying37
  cases A with
  | none =>
    have := h3 rfl
    subst this
    have hx : xs = [] := List.eq_nil_of_length_eq_zero (by omega)
    subst hx
    clear h1 h2 h3 h4 hb
    go_enter Tryz.func155, Tryz.ntmps155
    go_wp2
    go_ret
    exact ⟨_, rfl, Own.nil _ _ _ _, Below.refl _ _⟩
  | some ad =>
    obtain ⟨news, hL, hnews⟩ := Rp.Row_cells h4
    have hown : Own 36 d w.heap.size (w.alloc (.cells #[] 36)) (.slice (some ⟨w.heap.size, 0, none⟩) 0 0) [] := ⟨[], rfl, by rw [hsz]; exact World.ownsRow_made w #[] 0 (Nat.le_refl _) (by simp [maxLen]) (by simp)⟩
    have c4 : ([] : List α).length + xs.length ≤ maxLen := by simp; omega
    have c5 : (([] : List α).length + xs.length) * 32 ≤ 140737488355328 := by simp; omega
    have hL' := Rp.L_mov (Same.alloc w (.cells #[] 36)) hL
    have hn' := cells_alloc hnews (.cells #[] 36)
    have C := Lib.hid (And.intro c4 (And.intro c5 (And.intro hL' (And.intro hn' (And.intro hE hsz)))))
    clear h1 h2 h3 h4 c4 c5 hb hL hnews hL' hn' hE hsz
    go_enter Tryz.func155, Tryz.ntmps155
    go_wp2_with (at_builtin; refine wp_app rfl _ _ 37 rfl Tryz.underlying37 inf36 C.out.2.2.2.2.2 (by decide) rfl hown C.out.2.2.2.2.1 rfl C.out.2.2.1 C.out.2.2.2.1 C.out.2.1 C.out.1 (by simp) ?_; intro v1 w1 hA)
    go_ret
    exact ⟨_, rfl, hA.own, hA.below hown ((Below.refl _ _).alloc (Nat.le_refl _) _) (Nat.le_refl _) (by simp)⟩

theorem inf40 : (Tryz.prog.info? 40).map (fun i => (i.size, i.bytes, i.zero.map (fun z => z.cells.size))) = some (3, 56, some 3) := by kernel_rfl
theorem clone76 {α : Type} (d : Rp α) (hsz : d.sz = 3) (hE : d.E 40 = false) (e : Option Nat) (xs : List α) (v : Value) (w : World) (h : (Rp.slice e d).K w xs [v]) (hb : xs.length * 56 ≤ 140737488355328) :
    Calls Tryz.prog 76 #[v] w fun e w' => ∃ v', e = .returned v' ∧ Own 40 d w.heap.size w' v' xs ∧ Below w.heap.size w w' := by
  obtain ⟨A, c, hv, h1, h2, h3, h4⟩ := h
  cases hv
  have hq := fun w a n c => Lib.run_eql_slice_nil (P := Tryz.prog) w 78 40 a n c 0 0 Tryz.underlying78
  cases A with
  | none =>
    have := h3 rfl
    subst this
    have hx : xs = [] := List.eq_nil_of_length_eq_zero (by omega)
    subst hx
    clear h1 h2 h3 h4 hb
    go_enter Tryz.func76, Tryz.ntmps76
    go_wp2
    go_ret
    exact ⟨_, rfl, Own.nil _ _ _ _, Below.refl _ _⟩
  | some ad =>
    obtain ⟨news, hL, hnews⟩ := Rp.Row_cells h4
    have hown : Own 40 d w.heap.size (w.alloc (.cells #[] 40)) (.slice (some ⟨w.heap.size, 0, none⟩) 0 0) [] := ⟨[], rfl, by rw [hsz]; exact World.ownsRow_made w #[] 0 (Nat.le_refl _) (by simp [maxLen]) (by simp)⟩
    have c4 : ([] : List α).length + xs.length ≤ maxLen := by simp; omega
    have c5 : (([] : List α).length + xs.length) * 56 ≤ 140737488355328 := by simp; omega
    have hL' := Rp.L_mov (Same.alloc w (.cells #[] 40)) hL
    have hn' := cells_alloc hnews (.cells #[] 40)
    have C := Lib.hid (And.intro c4 (And.intro c5 (And.intro hL' (And.intro hn' (And.intro hE hsz)))))
    clear h1 h2 h3 h4 c4 c5 hb hL hnews hL' hn' hE hsz
    go_enter Tryz.func76, Tryz.ntmps76
    go_wp2_with (at_builtin; refine wp_app rfl _ _ 78 rfl Tryz.underlying78 inf40 C.out.2.2.2.2.2 (by decide) rfl hown C.out.2.2.2.2.1 rfl C.out.2.2.1 C.out.2.2.2.1 C.out.2.1 C.out.1 (by simp) ?_; intro v1 w1 hA)
    go_ret
    exact ⟨_, rfl, hA.own, hA.below hown ((Below.refl _ _).alloc (Nat.le_refl _) _) (Nat.le_refl _) (by simp)⟩

theorem inf80 : (Tryz.prog.info? 80).map (fun i => (i.size, i.bytes, i.zero.map (fun z => z.cells.size))) = some (4, 64, some 4) := by kernel_rfl
theorem clone74 {α : Type} (d : Rp α) (hsz : d.sz = 4) (hE : d.E 80 = false) (e : Option Nat) (xs : List α) (v : Value) (w : World) (h : (Rp.slice e d).K w xs [v]) (hb : xs.length * 64 ≤ 140737488355328) :
    Calls Tryz.prog 74 #[v] w fun e w' => ∃ v', e = .returned v' ∧ Own 80 d w.heap.size w' v' xs ∧ Below w.heap.size w w' := by
  obtain ⟨A, c, hv, h1, h2, h3, h4⟩ := h
  cases hv
  have hq := fun w a n c => Lib.run_eql_slice_nil (P := Tryz.prog) w 25 80 a n c 0 0 Tryz.underlying25
  cases A with
  | none =>
    have := h3 rfl
    subst this
    have hx : xs = [] := List.eq_nil_of_length_eq_zero (by omega)
    subst hx
    clear h1 h2 h3 h4 hb
    go_enter Tryz.func74, Tryz.ntmps74
    go_wp2
    go_ret
    exact ⟨_, rfl, Own.nil _ _ _ _, Below.refl _ _⟩
  | some ad =>
    obtain ⟨news, hL, hnews⟩ := Rp.Row_cells h4
    have hown : Own 80 d w.heap.size (w.alloc (.cells #[] 80)) (.slice (some ⟨w.heap.size, 0, none⟩) 0 0) [] := ⟨[], rfl, by rw [hsz]; exact World.ownsRow_made w #[] 0 (Nat.le_refl _) (by simp [maxLen]) (by simp)⟩
    have c4 : ([] : List α).length + xs.length ≤ maxLen := by simp; omega
    have c5 : (([] : List α).length + xs.length) * 64 ≤ 140737488355328 := by simp; omega
    have hL' := Rp.L_mov (Same.alloc w (.cells #[] 80)) hL
    have hn' := cells_alloc hnews (.cells #[] 80)
    have C := Lib.hid (And.intro c4 (And.intro c5 (And.intro hL' (And.intro hn' (And.intro hE hsz)))))
    clear h1 h2 h3 h4 c4 c5 hb hL hnews hL' hn' hE hsz
    go_enter Tryz.func74, Tryz.ntmps74
    go_wp2_with (at_builtin; refine wp_app rfl _ _ 25 rfl Tryz.underlying25 inf80 C.out.2.2.2.2.2 (by decide) rfl hown C.out.2.2.2.2.1 rfl C.out.2.2.1 C.out.2.2.2.1 C.out.2.1 C.out.1 (by simp) ?_; intro v1 w1 hA)
    go_ret
    exact ⟨_, rfl, hA.own, hA.below hown ((Below.refl _ _).alloc (Nat.le_refl _) _) (Nat.le_refl _) (by simp)⟩

theorem inf119 : (Tryz.prog.info? 119).map (fun i => (i.size, i.bytes, i.zero.map (fun z => z.cells.size))) = some (1, 8, some 1) := by kernel_rfl
theorem clone75 {α : Type} (d : Rp α) (hsz : d.sz = 1) (hE : d.E 119 = false) (e : Option Nat) (xs : List α) (v : Value) (w : World) (h : (Rp.slice e d).K w xs [v]) (hb : xs.length * 8 ≤ 140737488355328) :
    Calls Tryz.prog 75 #[v] w fun e w' => ∃ v', e = .returned v' ∧ Own 119 d w.heap.size w' v' xs ∧ Below w.heap.size w w' := by
  obtain ⟨A, c, hv, h1, h2, h3, h4⟩ := h
  cases hv
  have hq := fun w a n c => Lib.run_eql_slice_nil (P := Tryz.prog) w 26 119 a n c 0 0 Tryz.underlying26
  cases A with
  | none =>
    have := h3 rfl
    subst this
    have hx : xs = [] := List.eq_nil_of_length_eq_zero (by omega)
    subst hx
    clear h1 h2 h3 h4 hb
    go_enter Tryz.func75, Tryz.ntmps75
    go_wp2
    go_ret
    exact ⟨_, rfl, Own.nil _ _ _ _, Below.refl _ _⟩
  | some ad =>
    obtain ⟨news, hL, hnews⟩ := Rp.Row_cells h4
    have hown : Own 119 d w.heap.size (w.alloc (.cells #[] 119)) (.slice (some ⟨w.heap.size, 0, none⟩) 0 0) [] := ⟨[], rfl, by rw [hsz]; exact World.ownsRow_made w #[] 0 (Nat.le_refl _) (by simp [maxLen]) (by simp)⟩
    have c4 : ([] : List α).length + xs.length ≤ maxLen := by simp; omega
    have c5 : (([] : List α).length + xs.length) * 8 ≤ 140737488355328 := by simp; omega
    have hL' := Rp.L_mov (Same.alloc w (.cells #[] 119)) hL
    have hn' := cells_alloc hnews (.cells #[] 119)
    have C := Lib.hid (And.intro c4 (And.intro c5 (And.intro hL' (And.intro hn' (And.intro hE hsz)))))
    clear h1 h2 h3 h4 c4 c5 hb hL hnews hL' hn' hE hsz
    go_enter Tryz.func75, Tryz.ntmps75
    go_wp2_with (at_builtin; refine wp_app rfl _ _ 26 rfl Tryz.underlying26 inf119 C.out.2.2.2.2.2 (by decide) rfl hown C.out.2.2.2.2.1 rfl C.out.2.2.1 C.out.2.2.2.1 C.out.2.1 C.out.1 (by simp) ?_; intro v1 w1 hA)
    go_ret
    exact ⟨_, rfl, hA.own, hA.below hown ((Below.refl _ _).alloc (Nat.le_refl _) _) (Nat.le_refl _) (by simp)⟩
end Go.Proofs.YtoncaejgflfhhaaGreatDoor
namespace Go.Proofs.YtoncaejgflfhhaaGreatDoor
open Go.RowKit

def inCS (s : CS) (c : Int) : Bool := decide (0 ≤ c) && decide (c < s.classes.length)
theorem has84 (s : CS) (cs : List Value) (c : Int) (w : World) (h : rCS.K w s cs) : Calls Tryz.prog 84 #[rCS.val cs, .int .i64 c] w (RV (.bool (inCS s c)) w) := by
  obtain ⟨u, l, rfl, ⟨A, k, hu, _⟩, ⟨B, m, hl, _⟩⟩ := h
  cases hu
  cases hl
  simp only [Rp.val, rCS, if_true]
  by_cases h0 : 0 ≤ c
  · have hv : inCS s c = decide (c < s.classes.length) := by simp [inCS, h0]
    rw [hv]
    clear hv
    go_enter Tryz.func84, Tryz.ntmps84
    go_wp2
    go_ret
    exact ⟨rfl, (Below.refl _ _).alloc (Nat.le_refl _) _⟩
  · have hv : inCS s c = false := by simp [inCS, h0]
    rw [hv]
    clear hv
    go_enter Tryz.func84, Tryz.ntmps84
    go_wp2
    go_ret
    exact ⟨rfl, (Below.refl _ _).alloc (Nat.le_refl _) _⟩

def inSt (s : St) (c : Int) : Bool := decide (0 ≤ c) && decide (c < s.gens.length)
theorem is31 (s : St) (cs : List Value) (c : Int) (w : World) (h : rSt.K w s cs) : Calls Tryz.prog 31 #[rSt.val cs, .int .i64 c] w (RV (.bool (inSt s c)) w) := by
  obtain ⟨u, l, rfl, ⟨A, k, hu, _⟩, _, _⟩ := h
  cases hu
  simp only [Rp.val, rSt, if_true]
  by_cases h0 : 0 ≤ c
  · have hv : inSt s c = decide (c < s.gens.length) := by simp [inSt, h0]
    rw [hv]
    clear hv
    go_enter Tryz.func31, Tryz.ntmps31
    go_wp2
    go_ret
    exact ⟨rfl, (Below.refl _ _).alloc (Nat.le_refl _) _⟩
  · have hv : inSt s c = false := by simp [inSt, h0]
    rw [hv]
    clear hv
    go_enter Tryz.func31, Tryz.ntmps31
    go_wp2
    go_ret
    exact ⟨rfl, (Below.refl _ _).alloc (Nat.le_refl _) _⟩

set_option maxRecDepth 100000 in
theorem index128 (e : Option Nat) (xs : List Int) (v : Value) (y : Int) (w : World) (h : (Rp.slice e Rp.int).K w xs [v]) :
    Calls Tryz.prog 128 #[v, .int .i64 y] w (RV (.int .i64 (fidx (fun x => y == x) xs)) w) := by
  obtain ⟨A, c, hv, h1, h2, h3, h4⟩ := h
  cases hv
  have hm : xs.length ≤ 9223372036854775807 := by unfold maxLen at h2; omega
  have H4 := Lib.hid h4
  clear h1 h2 h3 h4
  go_enter Tryz.func128, Tryz.ntmps128
  go_wp2
  go_loopw [4, 5, 8] (fun r i k wr => ∃ j : Nat, j ≤ xs.length ∧ k = .int .i64 j ∧ Below w.heap.size w wr ∧ ∀ m (hm : m < xs.length), m < j → (y == xs[m]) = false) (fun r i k _ => xs.length - (intOf k).toNat)
  case atStart => exact ⟨0, Nat.zero_le _, rfl, Below.refl _ _, fun m _ h => absurd h (Nat.not_lt_zero _)⟩
  case round =>
    obtain ⟨j, hj, rfl, hB, hprev⟩ := hrel
    have HP := Lib.hid hprev
    clear hprev
    by_cases hlt : j < xs.length
    · obtain ⟨b, off, cs, hA, hbl, ⟨rfl, hk⟩, hcell⟩ := Rp.Row_get (Rp.Row_mov (Same.of_below hB) H4.out) j hlt
      subst hA
      have c0 : wr.cell? ⟨b, off + j, none⟩ = some (.int .i64 xs[j]) := by have := hcell 0 _ rfl; simpa [Rp.int, Rp.scalar] using this
      obtain ⟨x, hx⟩ : ∃ x, x = xs[j] := ⟨_, rfl⟩
      rw [← hx] at c0
      have HX := Lib.hid hx
      clear hcell hk hx
      cases hp : (y == x) with
      | true =>
        go_wp2
        go_ret
        exact ⟨by rw [fidx_some hlt (by rw [← HX.out]; exact hp) (fun m hm => HP.out m (by omega) hm)]; rfl, hB⟩
      | false =>
        go_wp2
        go_roundw
        case rel => exact ⟨j + 1, by omega, by go_num, hB, fun m hm hmj => by
          rcases Nat.lt_succ_iff_lt_or_eq.1 hmj with h | h
          · exact HP.out m hm h
          · subst h; rw [← HX.out]; exact hp⟩
        case measure => simp [intOf]; omega
    · go_wp2
      go_ret
      have hjj : j = xs.length := by omega
      exact ⟨by rw [fidx_none (fun m hm => HP.out m hm (by omega))]; rfl, hB⟩

theorem contains134 (e : Option Nat) (xs : List Int) (v : Value) (y : Int) (w : World) (h : (Rp.slice e Rp.int).K w xs [v]) :
    Calls Tryz.prog 134 #[v, .int .i64 y] w (RV (.bool (xs.contains y)) w) := by
  have H := Lib.hid (index128 e xs v y w h)
  have H2 := Lib.hid (fidx_any (fun x => y == x) xs)
  rw [show xs.contains y = xs.any (fun x => y == x) from by rw [List.contains_eq_any_beq]]
  clear h
  generalize fidx (fun x => y == x) xs = z at *
  go_enter Tryz.func134, Tryz.ntmps134
  go_wp2_with (refine H.out.mono ?_; rintro e w' ⟨rfl, hB⟩)
  go_ret
  exact ⟨by rw [← H2.out]; rfl, hB⟩
end Go.Proofs.YtoncaejgflfhhaaGreatDoor
namespace Go.Proofs.YtoncaejgflfhhaaGreatDoor
open Go.RowKit
theorem _root_.Go.RowKit.Below.dN {B : Nat} {w W : World} (h : Below B w W) (n : Nat) : Below B w (W.drewN n) := ⟨h.os, h.tape, h.output, h.size, h.block⟩
theorem str_beq (a b : ByteArray) : (a.toList == b.toList) = decide (a = b) := by
  by_cases h : a = b
  · subst h; simp
  · rw [decide_eq_false h, beq_eq_false_iff_ne]
    intro e
    apply h
    rw [ByteArray.toList_eq, ByteArray.toList_eq] at e
    exact WideShapes.bytes_inj e
theorem eq_step {α : Type} [DecidableEq α] {xs ys : List α} (hl : xs.length = ys.length) (h : ∀ m (h1 : m < xs.length) (h2 : m < ys.length), xs[m] = ys[m]) : decide (xs = ys) = true := decide_eq_true (List.ext_getElem hl h)
theorem ne_step {α : Type} [DecidableEq α] {xs ys : List α} {m : Nat} (h1 : m < xs.length) (h2 : m < ys.length) (h : xs[m] ≠ ys[m]) : decide (xs = ys) = false := decide_eq_false (fun e => by subst e; exact h rfl)

set_option maxRecDepth 100000 in
theorem equal114 (e e' : Option Nat) (xs ys : List ByteArray) (v v' : Value) (w : World) (h : (Rp.slice e Rp.str).K w xs [v]) (k : (Rp.slice e' Rp.str).K w ys [v']) :
    Calls Tryz.prog 114 #[v, v'] w (RV (.bool (decide (xs = ys))) w) := by
  obtain ⟨A, c, hv, h1, h2, h3, h4⟩ := h
  obtain ⟨B, d, kv, k1, k2, k3, k4⟩ := k
  cases hv
  cases kv
  have hm : xs.length ≤ 9223372036854775807 := by unfold maxLen at h2; omega
  have H4 := Lib.hid h4
  have K4 := Lib.hid k4
  clear h1 h2 h3 h4 k1 k2 k3 k4
  by_cases hl : xs.length = ys.length
  · have HL := Lib.hid hl
    rw [show (Value.slice B ys.length d) = Value.slice B xs.length d from by rw [hl]]
    clear hl
    go_enter Tryz.func114, Tryz.ntmps114
    go_wp2
    go_loopw [4, 5, 13] (fun r i k wr => ∃ j : Nat, j ≤ xs.length ∧ k = .int .i64 j ∧ Below w.heap.size w wr ∧ ∀ m (h1 : m < xs.length) (h2 : m < ys.length), m < j → xs[m] = ys[m]) (fun r i k _ => xs.length - (intOf k).toNat)
    case atStart => exact ⟨0, Nat.zero_le _, rfl, Below.refl _ _, fun m _ _ h => absurd h (Nat.not_lt_zero _)⟩
    case round =>
      obtain ⟨j, hj, rfl, hB, hprev⟩ := hrel
      have HP := Lib.hid hprev
      clear hprev
      by_cases hlt : j < xs.length
      · obtain ⟨b, off, cs, hA, hbl, ⟨rfl, hk⟩, hcell⟩ := Rp.Row_get (Rp.Row_mov (Same.of_below hB) H4.out) j hlt
        obtain ⟨b', off', cs', hA', hbl', ⟨rfl, hk'⟩, hcell'⟩ := Rp.Row_get (Rp.Row_mov (Same.of_below hB) K4.out) j (by rw [← HL.out]; exact hlt)
        subst hA
        subst hA'
        obtain ⟨x, hx⟩ : ∃ x, x = xs[j] := ⟨_, rfl⟩
        obtain ⟨y, hy⟩ : ∃ x, x = (ys[j]'(by rw [← HL.out]; exact hlt)) := ⟨_, rfl⟩
        rw [← hx] at hcell
        rw [← hy] at hcell'
        have HX := Lib.hid hx
        have HY := Lib.hid hy
        have c0 : wr.cell? ⟨b, off + j, none⟩ = some (.string x) := by have := hcell 0 _ rfl; simpa [Rp.str, Rp.scalar, ← HX.out] using this
        have c1 : wr.cell? ⟨b', off' + j, none⟩ = some (.string y) := by have := hcell' 0 _ rfl; simpa [Rp.str, Rp.scalar, ← HY.out] using this
        clear hcell hk hx hcell' hk' hy
        by_cases hp : x = y
        · have HE := Lib.hid hp
          have hq : (x.toList == y.toList) = true := by rw [str_beq, decide_eq_true hp]
          clear hp
          go_wp2
          go_quiet (fail)
          go_wp2
          go_roundw
          case rel => exact ⟨j + 1, by omega, by go_num, hB.dN _, fun m h1 h2 hmj => by
            rcases Nat.lt_succ_iff_lt_or_eq.1 hmj with h | h
            · exact HP.out m h1 h2 h
            · subst h; rw [← HX.out, ← HY.out]; exact HE.out⟩
          case measure => simp [intOf]; omega
        · have HE := Lib.hid hp
          have hq : (x.toList == y.toList) = false := by rw [str_beq, decide_eq_false hp]
          clear hp
          go_wp2
          go_quiet (fail)
          go_wp2
          go_ret
          exact ⟨by rw [ne_step hlt (by rw [← HL.out]; exact hlt) (by rw [← HX.out, ← HY.out]; exact HE.out)]; rfl, hB.dN _⟩
      · go_wp2
        go_ret
        have hjj : j = xs.length := by omega
        exact ⟨by rw [eq_step HL.out (fun m h1 h2 => HP.out m h1 h2 (by omega))]; rfl, hB⟩
  · have hb : ((xs.length : Int) != (ys.length : Int)) = true := by rw [bne_iff_ne]; omega
    have HL := Lib.hid hl
    clear hl
    go_enter Tryz.func114, Tryz.ntmps114
    go_wp2
    go_ret
    exact ⟨by rw [decide_eq_false (fun e => HL.out (by rw [e]))]; rfl, Below.refl _ _⟩

/-! ### structs -/
section
variable {P : Program} {d : Nat} {xs ys : Array Value} {f : Field} {fs : List Field} {a b : Value} {r s : Bool} {w : World}
theorem fld_cons (hn : (f.name == "_") = false) (ha : (part f.type xs f.offset).run P w = .ok a w) (hb : (part f.type ys f.offset).run P w = .ok b w) (he : (Op.equalIn d f.type a b).run P w = .ok r w) (hr : (Op.eqFields d xs ys fs).run P w = .ok s w) : (Op.eqFields d xs ys (f :: fs)).run P w = .ok (r && s) w := by
  have hn' : f.name ≠ "_" := by simpa using hn
  rw [Op.eqFields]
  simp only [if_pos hn', Sem.run_bind, ha, hb, he, Result.andThen_ok]
  cases r
  · simp
  · simpa using hr
theorem fld_nil : (Op.eqFields d xs ys []).run P w = .ok true w := by simp [Op.eqFields]
theorem fld_all {t : TypeId} {fs : Array Field} (hu : P.underlying t = some (.struct fs)) (hp : P.stoodInHeld t = false) (h : (Op.eqFields d xs ys fs.toList).run P w = .ok r w) : (Op.equalIn (d + 1) t (.agg xs) (.agg ys)).run P w = .ok r w := by
  have hf : P.fieldsOf t = fs := by simp [Program.fieldsOf, hu]
  rw [run_equalIn_struct (P := P) w d t xs ys (by rw [hf]; exact hu) hp, hf]
  exact h
end
def specVal (x : Spec) : Value := .agg #[.bool x.eql, .int .i64 x.cls, .string x.obj]
theorem eqSpec (d : Nat) (w : World) (x y : Spec) : (Op.equalIn (d + 2) 36 (.agg #[.bool x.eql, .int .i64 x.cls, .string x.obj]) (.agg #[.bool y.eql, .int .i64 y.cls, .string y.obj])).run Tryz.prog w = .ok (decide (x = y)) w := by
  have h : (Op.equalIn (d + 2) 36 (.agg #[.bool x.eql, .int .i64 x.cls, .string x.obj]) (.agg #[.bool y.eql, .int .i64 y.cls, .string y.obj])).run Tryz.prog w = .ok (x.eql == y.eql && (x.cls == y.cls && ((x.obj.toList == y.obj.toList) && true))) w := by
    refine fld_all Tryz.underlying36 (by kernel_rfl) ?_
    refine fld_cons (by rfl) (by go_simp; rfl) (by go_simp; rfl) (by go_simp) ?_
    refine fld_cons (by rfl) (by go_simp; rfl) (by go_simp; rfl) (by go_simp) ?_
    exact fld_cons (by rfl) (by go_simp; rfl) (by go_simp; rfl) (by go_simp) fld_nil
  have e : (x.eql == y.eql && (x.cls == y.cls && ((x.obj.toList == y.obj.toList) && true))) = decide (x = y) := by
    rw [str_beq, Bool.eq_iff_iff]
    cases x; cases y
    simp
  rw [h, e]
theorem neqSpec (w : World) (x y : Spec) : (binOp .neq 36 (.agg #[.bool x.eql, .int .i64 x.cls, .string x.obj]) (.agg #[.bool y.eql, .int .i64 y.cls, .string y.obj])).run Tryz.prog w = .ok (.bool (!decide (x = y))) w := by
  have h : (Op.equal 36 (.agg #[.bool x.eql, .int .i64 x.cls, .string x.obj]) (.agg #[.bool y.eql, .int .i64 y.cls, .string y.obj])).run Tryz.prog w = .ok (decide (x = y)) w := eqSpec 9998 w x y
  simp only [binOp]
  simp [h]

set_option maxRecDepth 100000 in
theorem equal124 (e e' : Option Nat) (xs ys : List Spec) (v v' : Value) (w : World) (h : (Rp.slice e rSpec).K w xs [v]) (k : (Rp.slice e' rSpec).K w ys [v']) :
    Calls Tryz.prog 124 #[v, v'] w (RV (.bool (decide (xs = ys))) w) := by
  obtain ⟨A, c, hv, h1, h2, h3, h4⟩ := h
  obtain ⟨B, d, kv, k1, k2, k3, k4⟩ := k
  cases hv
  cases kv
  have hm : xs.length ≤ 9223372036854775807 := by unfold maxLen at h2; omega
  have H4 := Lib.hid h4
  have K4 := Lib.hid k4
  clear h1 h2 h3 h4 k1 k2 k3 k4
  by_cases hl : xs.length = ys.length
  · have HL := Lib.hid hl
    rw [show (Value.slice B ys.length d) = Value.slice B xs.length d from by rw [hl]]
    clear hl
    go_enter Tryz.func124, Tryz.ntmps124
    go_wp2
    go_loopw [4, 5, 13] (fun r i k wr => ∃ j : Nat, j ≤ xs.length ∧ k = .int .i64 j ∧ Below w.heap.size w wr ∧ ∀ m (h1 : m < xs.length) (h2 : m < ys.length), m < j → xs[m] = ys[m]) (fun r i k _ => xs.length - (intOf k).toNat)
    case atStart => exact ⟨0, Nat.zero_le _, rfl, Below.refl _ _, fun m _ _ h => absurd h (Nat.not_lt_zero _)⟩
    case round =>
      obtain ⟨j, hj, rfl, hB, hprev⟩ := hrel
      have HP := Lib.hid hprev
      clear hprev
      by_cases hlt : j < xs.length
      · obtain ⟨b, off, cs, hA, hbl, ⟨rfl, hk⟩, hcell⟩ := Rp.Row_get (Rp.Row_mov (Same.of_below hB) H4.out) j hlt
        obtain ⟨b', off', cs', hA', hbl', ⟨rfl, hk'⟩, hcell'⟩ := Rp.Row_get (Rp.Row_mov (Same.of_below hB) K4.out) j (by rw [← HL.out]; exact hlt)
        subst hA
        subst hA'
        obtain ⟨x, hx⟩ : ∃ x, x = xs[j] := ⟨_, rfl⟩
        obtain ⟨y, hy⟩ : ∃ x, x = (ys[j]'(by rw [← HL.out]; exact hlt)) := ⟨_, rfl⟩
        rw [← hx] at hcell
        rw [← hy] at hcell'
        have HX := Lib.hid hx
        have HY := Lib.hid hy
        have c0 : wr.cell? ⟨b, off + j * 3, none⟩ = some (.bool x.eql) := hcell 0 _ rfl
        have c1 : wr.cell? ⟨b, off + j * 3 + 1, none⟩ = some (.int .i64 x.cls) := hcell 1 _ rfl
        have c2 : wr.cell? ⟨b, off + j * 3 + 2, none⟩ = some (.string x.obj) := hcell 2 _ rfl
        have d0 : wr.cell? ⟨b', off' + j * 3, none⟩ = some (.bool y.eql) := hcell' 0 _ rfl
        have d1 : wr.cell? ⟨b', off' + j * 3 + 1, none⟩ = some (.int .i64 y.cls) := hcell' 1 _ rfl
        have d2 : wr.cell? ⟨b', off' + j * 3 + 2, none⟩ = some (.string y.obj) := hcell' 2 _ rfl
        have hne := fun w => neqSpec w x y
        clear hcell hk hx hcell' hk' hy
        by_cases hp : x = y
        · have HE := Lib.hid hp
          rw [decide_eq_true hp] at hne
          clear hp
          go_wp2
          go_quiet (fail)
          go_wp2
          go_roundw
          case rel => exact ⟨j + 1, by omega, by go_num, hB.dN _, fun m h1 h2 hmj => by
            rcases Nat.lt_succ_iff_lt_or_eq.1 hmj with h | h
            · exact HP.out m h1 h2 h
            · subst h; rw [← HX.out, ← HY.out]; exact HE.out⟩
          case measure => simp [intOf]; omega
        · have HE := Lib.hid hp
          rw [decide_eq_false hp] at hne
          clear hp
          go_wp2
          go_quiet (fail)
          go_wp2
          go_ret
          exact ⟨by rw [ne_step hlt (by rw [← HL.out]; exact hlt) (by rw [← HX.out, ← HY.out]; exact HE.out)]; rfl, hB.dN _⟩
      · go_wp2
        go_ret
        have hjj : j = xs.length := by omega
        exact ⟨by rw [eq_step HL.out (fun m h1 h2 => HP.out m h1 h2 (by omega))]; rfl, hB⟩
  · have hb : ((xs.length : Int) != (ys.length : Int)) = true := by rw [bne_iff_ne]; omega
    have HL := Lib.hid hl
    clear hl
    go_enter Tryz.func124, Tryz.ntmps124
    go_wp2
    go_ret
    exact ⟨by rw [decide_eq_false (fun e => HL.out (by rw [e]))]; rfl, Below.refl _ _⟩
end Go.Proofs.YtoncaejgflfhhaaGreatDoor
