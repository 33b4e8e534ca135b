/- slices.IndexFunc and ContainsFunc at each of their instances. Printed by gen_ifn.py. -/
import Derived.Test.YtoncaejgflfhhaaGreatDoorProg
import Derived.Test.YtoncaejgflfhhaaGreatDoorM00
import Derived.WalkSpells
import Derived.Deep.LoopGhost
set_option linter.unusedVariables false
set_option linter.unusedSimpArgs false
namespace Go.Proofs.YtoncaejgflfhhaaGreatDoor
open Go.RowKit

def fidx {α : Type} (p : α → Bool) (xs : List α) : Int := match xs.findIdx? p with | some i => (i : Int) | none => -1

theorem fidx_some {α : Type} {p : α → Bool} {xs : List α} {i : Nat} (hi : i < xs.length) (hp : p xs[i] = true) (hl : ∀ j (hj : j < i), p (xs[j]'(by omega)) = false) : fidx p xs = i := by
  unfold fidx
  have : xs.findIdx? p = some i := by
    rw [List.findIdx?_eq_some_iff_getElem]
    exact ⟨hi, hp, fun j hj => by simp [hl j hj]⟩
  rw [this]
theorem fidx_none {α : Type} {p : α → Bool} {xs : List α} (hl : ∀ j (hj : j < xs.length), p xs[j] = false) : fidx p xs = -1 := by
  unfold fidx
  have : xs.findIdx? p = none := by
    rw [List.findIdx?_eq_none_iff]
    intro x hx
    obtain ⟨i, hi, rfl⟩ := List.mem_iff_getElem.1 hx
    simp [hl i hi]
  rw [this]
theorem fidx_cases {α : Type} (p : α → Bool) (xs : List α) : (fidx p xs = -1 ∧ xs.any p = false) ∨ ∃ i : Nat, ∃ hi : i < xs.length, fidx p xs = i ∧ p xs[i] = true ∧ xs.any p = true ∧ ∀ j (hj : j < i), p (xs[j]'(by omega)) = false := by
  unfold fidx
  cases h : xs.findIdx? p with
  | none =>
    refine .inl ⟨rfl, ?_⟩
    rw [List.findIdx?_eq_none_iff] at h
    rw [List.any_eq_false]
    intro x hx
    simp [h x hx]
  | some i =>
    rw [List.findIdx?_eq_some_iff_getElem] at h
    obtain ⟨hi, hp, hj⟩ := h
    exact .inr ⟨i, hi, rfl, hp, List.any_eq_true.2 ⟨_, List.getElem_mem hi, hp⟩, fun j hj' => by simpa using hj j hj'⟩
theorem fidx_any {α : Type} (p : α → Bool) (xs : List α) : decide (0 ≤ fidx p xs) = xs.any p := by
  rcases fidx_cases p xs with ⟨h1, h2⟩ | ⟨i, hi, h1, _, h2, _⟩
  · rw [h1, h2]; rfl
  · rw [h1, h2]; simp

def Enters (f : FuncId) : Prop := ∀ (args : Array Value) (w : World), (callFunc f args).run Tryz.prog w = .ok (.enter f args) w
/-- A predicate as a function value. -/
def Pred {α : Type} (d : Rp α) (f : FuncId) (fv : Array Value) (w : World) (xs : List α) (p : α → Bool) : Prop :=
  ∀ x, x ∈ xs → ∀ cs w', Below w.heap.size w w' → d.K w' x cs → Calls Tryz.prog f (#[d.val cs] ++ fv) w' (RV (.bool (p x)) w')

set_option maxRecDepth 100000 in
theorem ifn71 {α : Type} (d : Rp α) (hsz : d.sz = 4) (ha : d.agg = true) (e : Option Nat) (xs : List α) (v : Value) (f : FuncId) (fv : Array Value) (p : α → Bool) (w : World) (h : (Rp.slice e d).K w xs [v]) (he : Enters f) (hf : Pred d f fv w xs p) :
    Calls Tryz.prog 71 #[v, .func (.func f) #[] fv] w (RV (.int .i64 (fidx p xs)) w) := by
  obtain ⟨A, c, hv, h1, h2, h3, h4⟩ := h
  cases hv
  have hm : xs.length ≤ 9223372036854775807 := by unfold maxLen at h2; omega
  have H4 := Lib.hid h4
  have HF := Lib.hid hf
  have HS := Lib.hid (And.intro hsz ha)
  clear h1 h2 h3 h4 hf hsz ha
  unfold Enters at he
  go_enter Tryz.func71, Tryz.ntmps71
  go_wp2
  go_loopw [4, 5, 8] (fun r i k wr => ∃ j : Nat, j ≤ xs.length ∧ k = .int .i64 j ∧ Below w.heap.size w wr ∧ ∀ m (hm : m < xs.length), m < j → p xs[m] = false) (fun r i k _ => xs.length - (intOf k).toNat)
  case atStart => exact ⟨0, Nat.zero_le _, rfl, Below.refl _ _, fun m _ h => absurd h (Nat.not_lt_zero _)⟩
  case round =>
    obtain ⟨j, hj, rfl, hB, hprev⟩ := hrel
    have HP := Lib.hid hprev
    clear hprev
    by_cases hlt : j < xs.length
    · obtain ⟨b, off, cs, hA, hbl, hk, hcell⟩ := Rp.Row_get (Rp.Row_mov (Same.of_below hB) H4.out) j hlt
      subst hA
      have hlen := d.len hk
      rw [HS.out.1] at hlen hcell
      match cs, hlen with
      | [u0, u1, u2, u3], _ =>
      have c0 : wr.cell? ⟨b, off + j * 4, none⟩ = some u0 := hcell 0 u0 rfl
      have c1 : wr.cell? ⟨b, off + j * 4 + 1, none⟩ = some u1 := hcell 1 u1 rfl
      have c2 : wr.cell? ⟨b, off + j * 4 + 2, none⟩ = some u2 := hcell 2 u2 rfl
      have c3 : wr.cell? ⟨b, off + j * 4 + 3, none⟩ = some u3 := hcell 3 u3 rfl
      have hc := HF.out xs[j] (List.getElem_mem _) [u0, u1, u2, u3] wr hB hk
      simp only [Rp.val, HS.out.2, if_true, List.headD] at hc
      have HC := Lib.hid hc
      clear hc hcell hk hlen
      cases hp : p xs[j] with
      | true =>
        rw [hp] at HC
        have hres := fidx_some hlt hp (fun m hm => HP.out m (by omega) hm)
        have HR := Lib.hid hres
        clear hres
        have HPP := Lib.hid hp
        clear hp
        go_wp2_with (refine HC.out.mono ?_; rintro e w' ⟨rfl, hB'⟩)
        go_ret
        exact ⟨by rw [HR.out]; rfl, hB.trans (hB'.mono hB.size)⟩
      | false =>
        rw [hp] at HC
        have HPP := Lib.hid hp
        clear hp
        go_wp2_with (refine HC.out.mono ?_; rintro e w' ⟨rfl, hB'⟩)
        go_roundw
        case rel => exact ⟨j + 1, by omega, by go_num, hB.trans (hB'.mono hB.size), fun m hm hmj => by
          rcases Nat.lt_succ_iff_lt_or_eq.1 hmj with h | h
          · exact HP.out m hm h
          · subst h; exact HPP.out⟩
        case measure => simp [intOf]; omega
    · go_wp2
      go_ret
      have hjj : j = xs.length := by omega
      exact ⟨by rw [fidx_none (fun m hm => HP.out m hm (by omega))]; rfl, hB⟩

set_option maxRecDepth 100000 in
theorem ifn77 {α : Type} (d : Rp α) (hsz : d.sz = 3) (ha : d.agg = true) (e : Option Nat) (xs : List α) (v : Value) (f : FuncId) (fv : Array Value) (p : α → Bool) (w : World) (h : (Rp.slice e d).K w xs [v]) (he : Enters f) (hf : Pred d f fv w xs p) :
    Calls Tryz.prog 77 #[v, .func (.func f) #[] fv] w (RV (.int .i64 (fidx p xs)) w) := by
  obtain ⟨A, c, hv, h1, h2, h3, h4⟩ := h
  cases hv
  have hm : xs.length ≤ 9223372036854775807 := by unfold maxLen at h2; omega
  have H4 := Lib.hid h4
  have HF := Lib.hid hf
  have HS := Lib.hid (And.intro hsz ha)
  clear h1 h2 h3 h4 hf hsz ha
  unfold Enters at he
  go_enter Tryz.func77, Tryz.ntmps77
  go_wp2
  go_loopw [4, 5, 8] (fun r i k wr => ∃ j : Nat, j ≤ xs.length ∧ k = .int .i64 j ∧ Below w.heap.size w wr ∧ ∀ m (hm : m < xs.length), m < j → p xs[m] = false) (fun r i k _ => xs.length - (intOf k).toNat)
  case atStart => exact ⟨0, Nat.zero_le _, rfl, Below.refl _ _, fun m _ h => absurd h (Nat.not_lt_zero _)⟩
  case round =>
    obtain ⟨j, hj, rfl, hB, hprev⟩ := hrel
    have HP := Lib.hid hprev
    clear hprev
    by_cases hlt : j < xs.length
    · obtain ⟨b, off, cs, hA, hbl, hk, hcell⟩ := Rp.Row_get (Rp.Row_mov (Same.of_below hB) H4.out) j hlt
      subst hA
      have hlen := d.len hk
      rw [HS.out.1] at hlen hcell
      match cs, hlen with
      | [u0, u1, u2], _ =>
      have c0 : wr.cell? ⟨b, off + j * 3, none⟩ = some u0 := hcell 0 u0 rfl
      have c1 : wr.cell? ⟨b, off + j * 3 + 1, none⟩ = some u1 := hcell 1 u1 rfl
      have c2 : wr.cell? ⟨b, off + j * 3 + 2, none⟩ = some u2 := hcell 2 u2 rfl
      have hc := HF.out xs[j] (List.getElem_mem _) [u0, u1, u2] wr hB hk
      simp only [Rp.val, HS.out.2, if_true, List.headD] at hc
      have HC := Lib.hid hc
      clear hc hcell hk hlen
      cases hp : p xs[j] with
      | true =>
        rw [hp] at HC
        have hres := fidx_some hlt hp (fun m hm => HP.out m (by omega) hm)
        have HR := Lib.hid hres
        clear hres
        have HPP := Lib.hid hp
        clear hp
        go_wp2_with (refine HC.out.mono ?_; rintro e w' ⟨rfl, hB'⟩)
        go_ret
        exact ⟨by rw [HR.out]; rfl, hB.trans (hB'.mono hB.size)⟩
      | false =>
        rw [hp] at HC
        have HPP := Lib.hid hp
        clear hp
        go_wp2_with (refine HC.out.mono ?_; rintro e w' ⟨rfl, hB'⟩)
        go_roundw
        case rel => exact ⟨j + 1, by omega, by go_num, hB.trans (hB'.mono hB.size), fun m hm hmj => by
          rcases Nat.lt_succ_iff_lt_or_eq.1 hmj with h | h
          · exact HP.out m hm h
          · subst h; exact HPP.out⟩
        case measure => simp [intOf]; omega
    · go_wp2
      go_ret
      have hjj : j = xs.length := by omega
      exact ⟨by rw [fidx_none (fun m hm => HP.out m hm (by omega))]; rfl, hB⟩

set_option maxRecDepth 100000 in
theorem ifn83 {α : Type} (d : Rp α) (hsz : d.sz = 2) (ha : d.agg = true) (e : Option Nat) (xs : List α) (v : Value) (f : FuncId) (fv : Array Value) (p : α → Bool) (w : World) (h : (Rp.slice e d).K w xs [v]) (he : Enters f) (hf : Pred d f fv w xs p) :
    Calls Tryz.prog 83 #[v, .func (.func f) #[] fv] w (RV (.int .i64 (fidx p xs)) w) := by
  obtain ⟨A, c, hv, h1, h2, h3, h4⟩ := h
  cases hv
  have hm : xs.length ≤ 9223372036854775807 := by unfold maxLen at h2; omega
  have H4 := Lib.hid h4
  have HF := Lib.hid hf
  have HS := Lib.hid (And.intro hsz ha)
  clear h1 h2 h3 h4 hf hsz ha
  unfold Enters at he
  go_enter Tryz.func83, Tryz.ntmps83
  go_wp2
  go_loopw [4, 5, 8] (fun r i k wr => ∃ j : Nat, j ≤ xs.length ∧ k = .int .i64 j ∧ Below w.heap.size w wr ∧ ∀ m (hm : m < xs.length), m < j → p xs[m] = false) (fun r i k _ => xs.length - (intOf k).toNat)
  case atStart => exact ⟨0, Nat.zero_le _, rfl, Below.refl _ _, fun m _ h => absurd h (Nat.not_lt_zero _)⟩
  case round =>
    obtain ⟨j, hj, rfl, hB, hprev⟩ := hrel
    have HP := Lib.hid hprev
    clear hprev
    by_cases hlt : j < xs.length
    · obtain ⟨b, off, cs, hA, hbl, hk, hcell⟩ := Rp.Row_get (Rp.Row_mov (Same.of_below hB) H4.out) j hlt
      subst hA
      have hlen := d.len hk
      rw [HS.out.1] at hlen hcell
      match cs, hlen with
      | [u0, u1], _ =>
      have c0 : wr.cell? ⟨b, off + j * 2, none⟩ = some u0 := hcell 0 u0 rfl
      have c1 : wr.cell? ⟨b, off + j * 2 + 1, none⟩ = some u1 := hcell 1 u1 rfl
      have hc := HF.out xs[j] (List.getElem_mem _) [u0, u1] wr hB hk
      simp only [Rp.val, HS.out.2, if_true, List.headD] at hc
      have HC := Lib.hid hc
      clear hc hcell hk hlen
      cases hp : p xs[j] with
      | true =>
        rw [hp] at HC
        have hres := fidx_some hlt hp (fun m hm => HP.out m (by omega) hm)
        have HR := Lib.hid hres
        clear hres
        have HPP := Lib.hid hp
        clear hp
        go_wp2_with (refine HC.out.mono ?_; rintro e w' ⟨rfl, hB'⟩)
        go_ret
        exact ⟨by rw [HR.out]; rfl, hB.trans (hB'.mono hB.size)⟩
      | false =>
        rw [hp] at HC
        have HPP := Lib.hid hp
        clear hp
        go_wp2_with (refine HC.out.mono ?_; rintro e w' ⟨rfl, hB'⟩)
        go_roundw
        case rel => exact ⟨j + 1, by omega, by go_num, hB.trans (hB'.mono hB.size), fun m hm hmj => by
          rcases Nat.lt_succ_iff_lt_or_eq.1 hmj with h | h
          · exact HP.out m hm h
          · subst h; exact HPP.out⟩
        case measure => simp [intOf]; omega
    · go_wp2
      go_ret
      have hjj : j = xs.length := by omega
      exact ⟨by rw [fidx_none (fun m hm => HP.out m hm (by omega))]; rfl, hB⟩

set_option maxRecDepth 100000 in
theorem ifn157 {α : Type} (d : Rp α) (hsz : d.sz = 1) (ha : d.agg = false) (e : Option Nat) (xs : List α) (v : Value) (f : FuncId) (fv : Array Value) (p : α → Bool) (w : World) (h : (Rp.slice e d).K w xs [v]) (he : Enters f) (hf : Pred d f fv w xs p) :
    Calls Tryz.prog 157 #[v, .func (.func f) #[] fv] w (RV (.int .i64 (fidx p xs)) w) := by
  obtain ⟨A, c, hv, h1, h2, h3, h4⟩ := h
  cases hv
  have hm : xs.length ≤ 9223372036854775807 := by unfold maxLen at h2; omega
  have H4 := Lib.hid h4
  have HF := Lib.hid hf
  have HS := Lib.hid (And.intro hsz ha)
  clear h1 h2 h3 h4 hf hsz ha
  unfold Enters at he
  go_enter Tryz.func157, Tryz.ntmps157
  go_wp2
  go_loopw [4, 5, 8] (fun r i k wr => ∃ j : Nat, j ≤ xs.length ∧ k = .int .i64 j ∧ Below w.heap.size w wr ∧ ∀ m (hm : m < xs.length), m < j → p xs[m] = false) (fun r i k _ => xs.length - (intOf k).toNat)
  case atStart => exact ⟨0, Nat.zero_le _, rfl, Below.refl _ _, fun m _ h => absurd h (Nat.not_lt_zero _)⟩
  case round =>
    obtain ⟨j, hj, rfl, hB, hprev⟩ := hrel
    have HP := Lib.hid hprev
    clear hprev
    by_cases hlt : j < xs.length
    · obtain ⟨b, off, cs, hA, hbl, hk, hcell⟩ := Rp.Row_get (Rp.Row_mov (Same.of_below hB) H4.out) j hlt
      subst hA
      have hlen := d.len hk
      rw [HS.out.1] at hlen hcell
      match cs, hlen with
      | [u0], _ =>
      have c0 : wr.cell? ⟨b, off + j, none⟩ = some u0 := by have := hcell 0 u0 rfl; simpa using this
      have hc := HF.out xs[j] (List.getElem_mem _) [u0] wr hB hk
      simp only [Rp.val, HS.out.2, if_true, List.headD] at hc
      have HC := Lib.hid hc
      clear hc hcell hk hlen
      cases hp : p xs[j] with
      | true =>
        rw [hp] at HC
        have hres := fidx_some hlt hp (fun m hm => HP.out m (by omega) hm)
        have HR := Lib.hid hres
        clear hres
        have HPP := Lib.hid hp
        clear hp
        go_wp2_with (refine HC.out.mono ?_; rintro e w' ⟨rfl, hB'⟩)
        go_ret
        exact ⟨by rw [HR.out]; rfl, hB.trans (hB'.mono hB.size)⟩
      | false =>
        rw [hp] at HC
        have HPP := Lib.hid hp
        clear hp
        go_wp2_with (refine HC.out.mono ?_; rintro e w' ⟨rfl, hB'⟩)
        go_roundw
        case rel => exact ⟨j + 1, by omega, by go_num, hB.trans (hB'.mono hB.size), fun m hm hmj => by
          rcases Nat.lt_succ_iff_lt_or_eq.1 hmj with h | h
          · exact HP.out m hm h
          · subst h; exact HPP.out⟩
        case measure => simp [intOf]; omega
    · go_wp2
      go_ret
      have hjj : j = xs.length := by omega
      exact ⟨by rw [fidx_none (fun m hm => HP.out m hm (by omega))]; rfl, hB⟩

theorem cfn82 {α : Type} (d : Rp α) (hsz : d.sz = 3) (ha : d.agg = true) (e : Option Nat) (xs : List α) (v : Value) (f : FuncId) (fv : Array Value) (p : α → Bool) (w : World) (h : (Rp.slice e d).K w xs [v]) (he : Enters f) (hf : Pred d f fv w xs p) :
    Calls Tryz.prog 82 #[v, .func (.func f) #[] fv] w (RV (.bool (xs.any p)) w) := by
  have H := Lib.hid (ifn77 d hsz ha e xs v f fv p w h he hf)
  have H2 := Lib.hid (fidx_any p xs)
  clear h he hf hsz ha
  generalize fidx p xs = z at *
  go_enter Tryz.func82, Tryz.ntmps82
  go_wp2_with (refine H.out.mono ?_; rintro e w' ⟨rfl, hB⟩)
  go_ret
  exact ⟨by rw [← H2.out]; rfl, hB⟩

theorem cfn36 {α : Type} (d : Rp α) (hsz : d.sz = 2) (ha : d.agg = true) (e : Option Nat) (xs : List α) (v : Value) (f : FuncId) (fv : Array Value) (p : α → Bool) (w : World) (h : (Rp.slice e d).K w xs [v]) (he : Enters f) (hf : Pred d f fv w xs p) :
    Calls Tryz.prog 36 #[v, .func (.func f) #[] fv] w (RV (.bool (xs.any p)) w) := by
  have H := Lib.hid (ifn83 d hsz ha e xs v f fv p w h he hf)
  have H2 := Lib.hid (fidx_any p xs)
  clear h he hf hsz ha
  generalize fidx p xs = z at *
  go_enter Tryz.func36, Tryz.ntmps36
  go_wp2_with (refine H.out.mono ?_; rintro e w' ⟨rfl, hB⟩)
  go_ret
  exact ⟨by rw [← H2.out]; rfl, hB⟩

theorem cfn129 {α : Type} (d : Rp α) (hsz : d.sz = 1) (ha : d.agg = false) (e : Option Nat) (xs : List α) (v : Value) (f : FuncId) (fv : Array Value) (p : α → Bool) (w : World) (h : (Rp.slice e d).K w xs [v]) (he : Enters f) (hf : Pred d f fv w xs p) :
    Calls Tryz.prog 129 #[v, .func (.func f) #[] fv] w (RV (.bool (xs.any p)) w) := by
  have H := Lib.hid (ifn157 d hsz ha e xs v f fv p w h he hf)
  have H2 := Lib.hid (fidx_any p xs)
  clear h he hf hsz ha
  generalize fidx p xs = z at *
  go_enter Tryz.func129, Tryz.ntmps129
  go_wp2_with (refine H.out.mono ?_; rintro e w' ⟨rfl, hB⟩)
  go_ret
  exact ⟨by rw [← H2.out]; rfl, hB⟩
end Go.Proofs.YtoncaejgflfhhaaGreatDoor
