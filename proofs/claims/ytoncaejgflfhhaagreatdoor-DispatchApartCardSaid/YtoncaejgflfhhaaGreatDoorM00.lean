/- What a value in memory reads as: kinds (Rp), rows (Row), rows of one's own (Own), and how they move with the world. No program here. | What append does to a row of one's own, in the words of Ba; over any program. | Blocks of one's own that are known whole (Box), and small words on Below. No program here. | The data of the packages class, method and dispatch, and how each reads in memory. No program here. | Maps: a block that holds the entries of an association list, and what the operations on it do. No program here. -/
import Derived.Below
import Derived.OwnWalk
import Derived.WalkKit
import Derived.RowKit
import Derived.RowKit3
import Derived.Lib.Hide
import Derived.Maps.AppendAt
import Derived.Laws.AppendOwnNone
import Derived.KernelRfl
import Derived.Deep.Draws
import Derived.Maps.Keyed
import Derived.Maps.RangeWalk
set_option linter.unusedVariables false
set_option linter.unusedSimpArgs false
namespace Go.Proofs.YtoncaejgflfhhaaGreatDoor
open Go.RowKit

def otag : Obj → Nat
  | .cells _ t _ => t
  | .map .. => 1000
  | _ => 1001

/-- Every object whose tag E has stays as it is. -/
def Same (E : Nat → Bool) (w w' : World) : Prop := ∀ (b : Nat) (o : Obj), E (otag o) = true → w.heap[b]? = some o → w'.heap[b]? = some o

theorem heap_lt {w : World} {b : Nat} {o : Obj} (h : w.heap[b]? = some o) : b < w.heap.size := by
  rcases Nat.lt_or_ge b w.heap.size with hb | hb
  · exact hb
  · simp [Array.getElem?_eq_none hb] at h

theorem Same.refl (E : Nat → Bool) (w : World) : Same E w w := fun _ _ _ h => h
theorem Same.trans {E : Nat → Bool} {a b c : World} (h : Same E a b) (k : Same E b c) : Same E a c := fun i o he hi => k i o he (h i o he hi)
theorem Same.of_below {E : Nat → Bool} {w w' : World} (h : Below w.heap.size w w') : Same E w w' := fun b _ _ hb => (h.block b (heap_lt hb)).trans hb
theorem Same.imp {E F : Nat → Bool} {w w' : World} (h : Same E w w') (hi : ∀ t, F t = true → E t = true) : Same F w w' := fun b o ho hb => h b o (hi _ ho) hb
theorem Same.grown {E : Nat → Bool} {w w' : World} {g : Nat} {o : Obj} (h : w.grownBy w' (some g)) (hg : w.heap[g]? = some o) (he : E (otag o) = false) : Same E w w' := by
  intro b o' ho' hb
  by_cases hbg : b = g
  · subst hbg
    rw [hg] at hb
    cases hb
    rw [he] at ho'
    cases ho'
  · exact (h.block b (heap_lt hb) (by simpa using hbg)).trans hb
theorem Same.grown_none {E : Nat → Bool} {w w' : World} (h : w.grownBy w' none) : Same E w w' := fun b _ _ hb => (h.block b (heap_lt hb) (by simp)).trans hb
theorem Same.setCell {E : Nat → Bool} {w : World} {p : Addr} {o : Obj} (hp : w.heap[p.block]? = some o) (he : E (otag o) = false) (u : Value) : Same E w (w.setCell p u) := by
  intro b o' ho' hb
  by_cases hbg : b = p.block
  · subst hbg
    rw [hp] at hb
    cases hb
    rw [he] at ho'
    cases ho'
  · rw [Below.heap_setCell _ _ _ _ hbg]
    exact hb
theorem Same.alloc {E : Nat → Bool} (w : World) (o : Obj) : Same E w (w.alloc o) := fun b _ _ hb => (Below.heap_alloc w o b (heap_lt hb)).trans hb

/-- A kind: how a datum's cells read. -/
structure Rp (α : Type) where
  agg : Bool
  sz : Nat
  E : Nat → Bool
  K : World → α → List Value → Prop
  len : ∀ {w x cs}, K w x cs → cs.length = sz
  one : ∀ {w x cs}, K w x cs → ∀ u ∈ cs, u.oneCell' = true
  mov : ∀ {w w' x cs}, Same E w w' → K w x cs → K w' x cs

def Rp.val {α : Type} (d : Rp α) (cs : List Value) : Value := if d.agg then .agg cs.toArray else cs.headD (.bool false)

namespace Rp
variable {α : Type} (d : Rp α)

/-- The cells of a list's elements, one behind the other. -/
def L (w : World) : List α → List Value → Prop
  | [], cs => cs = []
  | x :: xs, cs => ∃ c r, cs = c ++ r ∧ d.K w x c ∧ L w xs r

variable {d}
theorem L_len {w : World} : ∀ {xs : List α} {cs : List Value}, d.L w xs cs → cs.length = xs.length * d.sz
  | [], _, h => by subst h; simp
  | x :: xs, _, ⟨c, r, h, hk, hl⟩ => by subst h; rw [List.length_append, d.len hk, L_len hl, List.length_cons, Nat.add_mul]; omega
theorem L_one {w : World} : ∀ {xs : List α} {cs : List Value}, d.L w xs cs → ∀ u ∈ cs, u.oneCell' = true
  | [], _, h => by subst h; simp
  | x :: xs, _, ⟨c, r, h, hk, hl⟩ => by
    subst h
    intro u hu
    rcases List.mem_append.1 hu with hu | hu
    · exact d.one hk u hu
    · exact L_one hl u hu
theorem L_mov {w w' : World} (hs : Same d.E w w') : ∀ {xs : List α} {cs : List Value}, d.L w xs cs → d.L w' xs cs
  | [], _, h => h
  | _ :: _, _, ⟨c, r, h, hk, hl⟩ => ⟨c, r, h, d.mov hs hk, L_mov hs hl⟩
theorem L_append {w : World} : ∀ {xs ys : List α} {a b : List Value}, d.L w xs a → d.L w ys b → d.L w (xs ++ ys) (a ++ b)
  | [], _, _, _, h, k => by subst h; exact k
  | _ :: _, _, _, _, ⟨c, r, h, hk, hl⟩, k => by
    subst h
    exact ⟨c, _, List.append_assoc .., hk, L_append hl k⟩
theorem L_single {w : World} {x : α} {c : List Value} (h : d.K w x c) : d.L w [x] c := ⟨c, [], by simp, h, rfl⟩
theorem L_split {w : World} : ∀ {xs ys : List α} {cs : List Value}, d.L w (xs ++ ys) cs → ∃ a b, cs = a ++ b ∧ d.L w xs a ∧ d.L w ys b
  | [], _, cs, h => ⟨[], cs, rfl, rfl, h⟩
  | _ :: xs, ys, _, ⟨c, r, h, hk, hl⟩ => by
    obtain ⟨a, b, rfl, ha, hb⟩ := L_split (xs := xs) (ys := ys) hl
    exact ⟨c ++ a, b, by rw [h, List.append_assoc], ⟨c, a, rfl, hk, ha⟩, hb⟩
theorem L_get {w : World} : ∀ {xs : List α} {cs : List Value}, d.L w xs cs → ∀ i x, xs[i]? = some x → ∃ c, d.K w x c ∧ ∀ j u, c[j]? = some u → cs[i * d.sz + j]? = some u
  | [], _, _, i, x, hx => by simp at hx
  | y :: ys, _, ⟨c, r, h, hk, hl⟩, 0, x, hx => by
    simp at hx
    subst hx
    subst h
    refine ⟨c, hk, fun j u hu => ?_⟩
    rw [Nat.zero_mul, Nat.zero_add, List.getElem?_append_left (by have := (List.getElem?_eq_some_iff.1 hu).1; exact this)]
    exact hu
  | y :: ys, _, ⟨c, r, h, hk, hl⟩, i + 1, x, hx => by
    obtain ⟨c', hk', hc'⟩ := L_get hl i x (by simpa using hx)
    subst h
    refine ⟨c', hk', fun j u hu => ?_⟩
    have hlen := d.len hk
    rw [List.getElem?_append_right (by rw [hlen, Nat.add_mul]; omega)]
    rw [show (i + 1) * d.sz + j - c.length = i * d.sz + j from by rw [hlen, Nat.add_mul]; omega]
    exact hc' j u hu
theorem L_set {w : World} {x' : α} {c' : List Value} (hk' : d.K w x' c') : ∀ {xs : List α} {cs : List Value}, d.L w xs cs → ∀ i, i < xs.length → d.L w (xs.set i x') (cs.take (i * d.sz) ++ c' ++ cs.drop ((i + 1) * d.sz))
  | [], _, _, i, hi => by simp at hi
  | y :: ys, _, ⟨c, r, h, hk, hl⟩, 0, _ => by
    subst h
    have hlen := d.len hk
    exact ⟨c', r, by simp [← hlen], hk', hl⟩
  | y :: ys, _, ⟨c, r, h, hk, hl⟩, i + 1, hi => by
    subst h
    have hlen := d.len hk
    refine ⟨c, _, ?_, hk, L_set hk' hl i (by simpa using hi)⟩
    rw [List.take_append, List.drop_append, hlen]
    rw [List.take_of_length_le (by rw [hlen, Nat.add_mul]; omega), List.drop_of_length_le (by rw [hlen, Nat.add_mul, Nat.add_mul]; omega)]
    rw [show (i + 1) * d.sz - d.sz = i * d.sz from by rw [Nat.add_mul]; omega, show (i + 1 + 1) * d.sz - d.sz = (i + 1) * d.sz from by rw [Nat.add_mul (i + 1)]; omega]
    simp

/-- The elements of a slice as they read from an address on. e: the block's tag, or none (a slice that came in). -/
def Row (e : Option Nat) (d : Rp α) (w : World) (A : Option Addr) (xs : List α) : Prop :=
  xs = [] ∨ ∃ b off o cs, A = some ⟨b, off, none⟩ ∧ w.heap[b]? = some o ∧ (∀ t, e = some t → otag o = t) ∧ d.L w xs cs ∧ ∀ j u, cs[j]? = some u → w.cell? ⟨b, off + j, none⟩ = some u

def rowE (e : Option Nat) (E : Nat → Bool) : Nat → Bool := fun t => match e with | some k => t == k || E t | none => true

theorem Row_mov {e : Option Nat} {w w' : World} {A : Option Addr} {xs : List α} (hs : Same (rowE e d.E) w w') (h : Row e d w A xs) : Row e d w' A xs := by
  rcases h with h | ⟨b, off, o, cs, rfl, hb, ht, hl, hc⟩
  · exact .inl h
  · have hE : ∀ t, d.E t = true → rowE e d.E t = true := by
      intro t h
      unfold rowE
      split <;> simp [h]
    have ho : rowE e d.E (otag o) = true := by
      unfold rowE
      split
      · rename_i k
        simp [ht k rfl]
      · rfl
    refine .inr ⟨b, off, o, cs, rfl, hs b o ho hb, ht, L_mov (hs.imp hE) hl, fun j u hu => ?_⟩
    exact (World.cell?_of_block (w := w) (w' := w') (a := ⟨b, off + j, none⟩) ((hs b o ho hb).trans hb.symm)).trans (hc j u hu)

theorem Row_nil (e : Option Nat) (d : Rp α) (w : World) (A : Option Addr) : Row e d w A [] := .inl rfl

theorem Row_get {e : Option Nat} {w : World} {A : Option Addr} {xs : List α} (h : Row e d w A xs) (i : Nat) (hi : i < xs.length) :
    ∃ b off c, A = some ⟨b, off, none⟩ ∧ b < w.heap.size ∧ d.K w xs[i] c ∧ ∀ j u, c[j]? = some u → w.cell? ⟨b, off + i * d.sz + j, none⟩ = some u := by
  rcases h with h | ⟨b, off, o, cs, rfl, hb, ht, hl, hc⟩
  · subst h; simp at hi
  · obtain ⟨c, hk, hcc⟩ := L_get hl i xs[i] (by simp [hi])
    exact ⟨b, off, c, rfl, heap_lt hb, hk, fun j u hu => by rw [Nat.add_assoc]; exact hc _ _ (hcc j u hu)⟩

theorem Row_drop {e : Option Nat} {w : World} {b off : Nat} {xs : List α} (h : Row e d w (some ⟨b, off, none⟩) xs) (i : Nat) : Row e d w (some ⟨b, off + i * d.sz, none⟩) (xs.drop i) := by
  rcases Nat.lt_or_ge i xs.length with hi | hi
  · rcases h with h | ⟨b', off', o, cs, hA, hb, ht, hl, hc⟩
    · subst h; simp at hi
    · cases hA
      have hs := hl
      rw [← List.take_append_drop i xs] at hs
      obtain ⟨a, r, rfl, ha, hr⟩ := L_split hs
      refine .inr ⟨b, off + i * d.sz, o, r, rfl, hb, ht, hr, fun j u hu => ?_⟩
      have hal := L_len ha
      rw [List.length_take, Nat.min_eq_left (by omega)] at hal
      rw [Nat.add_assoc]
      refine hc _ _ ?_
      rw [List.getElem?_append_right (by omega)]
      rw [show i * d.sz + j - a.length = j from by omega]
      exact hu
  · rw [List.drop_of_length_le hi]
    exact .inl rfl

theorem Row_take {e : Option Nat} {w : World} {A : Option Addr} {xs : List α} (h : Row e d w A xs) (i : Nat) : Row e d w A (xs.take i) := by
  rcases h with h | ⟨b, off, o, cs, rfl, hb, ht, hl, hc⟩
  · subst h; exact .inl (by simp)
  · have hs := hl
    rw [← List.take_append_drop i xs] at hs
    obtain ⟨a, r, rfl, ha, hr⟩ := L_split hs
    exact .inr ⟨b, off, o, a, rfl, hb, ht, ha, fun j u hu => hc _ _ (by rw [List.getElem?_append_left (List.getElem?_eq_some_iff.1 hu).1]; exact hu)⟩

/-- A slice. -/
def slice (e : Option Nat) (d : Rp α) : Rp (List α) where
  agg := false
  sz := 1
  E := rowE e d.E
  K := fun w xs cs => ∃ A c, cs = [.slice A xs.length c] ∧ xs.length ≤ c ∧ c ≤ maxLen ∧ (A = none → c = 0) ∧ Row e d w A xs
  len := by rintro w x cs ⟨A, c, rfl, _⟩; rfl
  one := by
    rintro w x cs ⟨A, c, rfl, _⟩ u hu
    rw [List.mem_singleton.1 hu]
    rfl
  mov := by
    rintro w w' x cs hs ⟨A, c, rfl, hl, hm, hn, hr⟩
    exact ⟨A, c, rfl, hl, hm, hn, Row_mov hs hr⟩

/-- One value of one cell, of which the world says nothing. -/
def scalar (enc : α → Value) (ok : α → Prop) (h1 : ∀ x, (enc x).oneCell' = true) : Rp α where
  agg := false
  sz := 1
  E := fun _ => false
  K := fun _ x cs => cs = [enc x] ∧ ok x
  len := by rintro w x cs ⟨rfl, _⟩; rfl
  one := by
    rintro w x cs ⟨rfl, _⟩ u hu
    rw [List.mem_singleton.1 hu]
    exact h1 _
  mov := fun _ h => h

def okInt (n : Int) : Prop := -9223372036854775808 ≤ n ∧ n ≤ 9223372036854775807
def int : Rp Int := scalar (Value.int .i64) okInt (fun _ => rfl)
def bool : Rp Bool := scalar Value.bool (fun _ => True) (fun _ => rfl)
def str : Rp ByteArray := scalar Value.string (fun s => s.size ≤ maxLen) (fun _ => rfl)
end Rp

/-- A row of elements of type e of one's own, from base on. -/
def Own {α : Type} (e : Nat) (d : Rp α) (base : Nat) (w : World) (v : Value) (xs : List α) : Prop := ∃ cs, d.L w xs cs ∧ w.ownsRow base e d.sz v xs.length cs

section
variable {α : Type} {e : Nat} {d : Rp α} {base : Nat} {w w' : World} {v : Value} {xs : List α}
theorem Own.nil (e : Nat) (d : Rp α) (base : Nat) (w : World) : Own e d base w (.slice none 0 0) [] := ⟨[], rfl, World.ownsRow_nil ..⟩
theorem Own.below (h : Own e d base w v xs) (hb : Below w.heap.size w w') : Own e d base w' v xs := by
  obtain ⟨cs, hl, ho⟩ := h
  exact ⟨cs, Rp.L_mov (Same.of_below hb) hl, ho.kept (row := none) ⟨hb.os, hb.tape, hb.output, hb.size, fun k hk _ => hb.block k hk⟩ (by cases v.ownBlock <;> simp)⟩
theorem Own.lower (h : Own e d base w v xs) {base' : Nat} (hb : base' ≤ base) : Own e d base' w v xs := by
  obtain ⟨cs, hl, h1, h2⟩ := h
  refine ⟨cs, hl, h1, ?_⟩
  rcases h2 with h2 | ⟨g, cap, cur, hv, hg, r⟩
  · exact .inl h2
  · exact .inr ⟨g, cap, cur, hv, by omega, r⟩
/-- What lies elsewhere than in this row has changed, and nothing that the elements read. -/
theorem Own.move (h : Own e d base w v xs) (hs : Same d.E w w') (hv : ∀ g, v.ownBlock = some g → w'.heap[g]? = w.heap[g]?) : Own e d base w' v xs := by
  obtain ⟨cs, hl, h1, h2⟩ := h
  refine ⟨cs, Rp.L_mov hs hl, h1, ?_⟩
  rcases h2 with h2 | ⟨g, cap, cur, rfl, hg, hh, r⟩
  · exact .inl h2
  · exact .inr ⟨g, cap, cur, rfl, hg, (hv g rfl).trans hh, r⟩
theorem Own.ge (h : Own e d base w v xs) : ∀ g, v.ownBlock = some g → base ≤ g ∧ g < w.heap.size := by
  obtain ⟨cs, hl, ho⟩ := h
  exact ho.lt
/-- The row's own block, if there is one. -/
theorem Own.block (h : Own e d base w v xs) : (v = .slice none 0 0 ∧ xs = []) ∨ ∃ g cap cur, v = .slice (some ⟨g, 0, none⟩) xs.length cap ∧ base ≤ g ∧ w.heap[g]? = some (.cells cur e (0, 0)) ∧ xs.length ≤ cap ∧ cap ≤ maxLen ∧ cur.size = cap * d.sz := by
  obtain ⟨cs, hl, h1, h2⟩ := h
  rcases h2 with ⟨h2, h3⟩ | ⟨g, cap, cur, rfl, hg, hh, h4, h5, h6, _⟩
  · exact .inl ⟨h2, List.eq_nil_of_length_eq_zero h3⟩
  · exact .inr ⟨g, cap, cur, rfl, hg, hh, h4, h5, h6⟩
theorem Own.row (h : Own e d base w v xs) : ∃ A c, v = .slice A xs.length c ∧ xs.length ≤ c ∧ c ≤ maxLen ∧ (A = none → c = 0) ∧ Rp.Row (some e) d w A xs := by
  obtain ⟨cs, hl, h1, h2⟩ := h
  rcases h2 with ⟨h2, h3⟩ | ⟨g, cap, cur, rfl, hg, hh, h4, h5, h6, h7⟩
  · have : xs = [] := List.eq_nil_of_length_eq_zero h3
    subst this
    exact ⟨none, 0, h2, Nat.le_refl _, Nat.zero_le _, fun _ => rfl, .inl rfl⟩
  · refine ⟨some ⟨g, 0, none⟩, cap, rfl, h4, h5, (fun h => by cases h), .inr ⟨g, 0, _, cs, rfl, hh, fun t ht => by cases ht; rfl, hl, fun j u hu => ?_⟩⟩
    rw [Nat.zero_add, cell_of_row w g j cur e (0, 0) hh]
    rw [← h7, List.getElem?_take] at hu
    split at hu
    · simpa using hu
    · cases hu
theorem Own.read (h : Own e d base w v xs) : (Rp.slice (some e) d).K w xs [v] := by
  obtain ⟨A, c, rfl, h1, h2, h3, h4⟩ := h.row
  exact ⟨A, c, rfl, h1, h2, h3, h4⟩
end

/-- What is returned reads as r; what was there before the call is as it was. -/
def R1 {α : Type} (d : Rp α) (r : α) (w : World) (e : Ending) (w' : World) : Prop := ∃ cs, e = .returned (d.val cs) ∧ d.K w' r cs ∧ Below w.heap.size w w'
def R2 {α β : Type} (d : Rp α) (k : Rp β) (r : α) (s : β) (w : World) (e : Ending) (w' : World) : Prop := ∃ cs ds, e = .returned (.tuple #[d.val cs, k.val ds]) ∧ d.K w' r cs ∧ k.K w' s ds ∧ Below w.heap.size w w'
/-- A number, a bool is returned. -/
def RV (v : Value) (w : World) (e : Ending) (w' : World) : Prop := e = .returned v ∧ Below w.heap.size w w'

theorem bcell {W W1 : World} (hb : Below W.heap.size W W1) : (∀ b o, b < W.heap.size → W1.cell? ⟨b, o, none⟩ = W.cell? ⟨b, o, none⟩) ∧ (∀ b o, b < W.heap.size → W1.frozen? ⟨b, o, none⟩ = W.frozen? ⟨b, o, none⟩) :=
  ⟨fun b o h => hb.cell (p := ⟨b, o, none⟩) h, fun b o h => hb.frozen (p := ⟨b, o, none⟩) h⟩
end Go.Proofs.YtoncaejgflfhhaaGreatDoor
namespace Go.Proofs.YtoncaejgflfhhaaGreatDoor
open Go.RowKit

theorem Rp.Row_cells {α : Type} {d : Rp α} {e : Option Nat} {w : World} {ad : Addr} {xs : List α} (h : Rp.Row e d w (some ad) xs) : ∃ cs, d.L w xs cs ∧ ∀ j u, cs[j]? = some u → w.cell? (ad.add j) = some u := by
  rcases h with h | ⟨b, off, o, cs, h1, hb, ht, hl, hc⟩
  · subst h; exact ⟨[], rfl, fun j u hu => by simp at hu⟩
  · cases h1
    exact ⟨cs, hl, fun j u hu => by rw [Addr.add_lit]; exact hc j u hu⟩

theorem cells_alloc {w : World} {ad : Addr} {cs : List Value} (h : ∀ j u, cs[j]? = some u → w.cell? (ad.add j) = some u) (o : Obj) : ∀ j u, cs[j]? = some u → (w.alloc o).cell? (ad.add j) = some u :=
  fun j u hu => (((Below.refl _ w).alloc (Nat.le_refl _) _).cell (World.block_lt_of_cell? w _ (h j u hu))).trans (h j u hu)

/-- The cells of a new block. -/
theorem cells_new (w : World) (cs : List Value) (t : Nat) : ∀ j u, cs[j]? = some u → (w.alloc (.cells cs.toArray t)).cell? ((⟨w.heap.size, 0, none⟩ : Addr).add j) = some u := by
  intro j u hu
  rw [Addr.add_lit, Nat.zero_add]
  rw [cell_of_row _ _ j cs.toArray t (0, 0) (heap_alloc_new w _)]
  simpa using hu

theorem Same.grownBy {e : Nat} {α : Type} {d : Rp α} {base : Nat} {w w1 : World} {v : Value} {xs : List α} (h : Own e d base w v xs) (hg : w.grownBy w1 v.ownBlock) {E : Nat → Bool} (hE : E e = false) : Same E w w1 := by
  rcases h.block with ⟨rfl, _⟩ | ⟨g, cap, cur, rfl, _, hh, _⟩
  · exact Same.grown_none hg
  · exact Same.grown (g := g) hg hh hE

/-- What an append of ys leaves. -/
structure Apd {α : Type} (e : Nat) (d : Rp α) (base : Nat) (w w1 : World) (v v1 : Value) (xs ys : List α) : Prop where
  own : Own e d base w1 v1 (xs ++ ys)
  grown : w.grownBy w1 v.ownBlock
  at_ : v1.ownBlock = v.ownBlock ∨ v1.ownBlock = some w.heap.size
  same : ∀ E : Nat → Bool, E e = false → Same E w w1

section
variable {P : Program} {α : Type} {e base : Nat} {d : Rp α} {w w1 : World} {v v1 : Value} {xs ys : List α}
theorem Apd.below (h : Apd e d base w w1 v v1 xs ys) (ho : Own e d base w v xs) {B : Nat} {w0 : World} (hb : Below B w0 w) (h1 : B ≤ base) (h2 : B ≤ w.heap.size) : Below B w0 w1 :=
  hb.grown h.grown h2 (fun k hk => by have := ho.ge k hk; omega)
/-- Every other block is as it was. -/
theorem Apd.block (h : Apd e d base w w1 v v1 xs ys) {k : Nat} (hk : k < w.heap.size) (hne : v.ownBlock ≠ some k) : w1.heap[k]? = w.heap[k]? := h.grown.block k hk (fun e => hne e.symm)
theorem Apd.ne (h : Apd e d base w w1 v v1 xs ys) {k : Nat} (hk : k < w.heap.size) (hne : v.ownBlock ≠ some k) : v1.ownBlock ≠ some k := by
  rcases h.at_ with h1 | h1
  · rw [h1]; exact hne
  · rw [h1]; intro h; cases h; omega

theorem run_app {t ty sz bs : Nat} {ad : Addr} {c : Nat} {cs : List Value} (ht : P.underlying t = some (.slice e))
    (hinf : (P.info? e).map (fun i => (i.size, i.bytes, i.zero.map (fun z => z.cells.size))) = some (sz, bs, some sz)) (hsz : d.sz = sz) (h0 : 0 < sz)
    (ho : Own e d base w v xs) (hE : d.E e = false) (hl : d.L w ys cs) (hc : ∀ j u, cs[j]? = some u → w.cell? (ad.add j) = some u)
    (hb : (xs.length + ys.length) * bs ≤ 140737488355328) (hm : xs.length + ys.length ≤ maxLen) (hbase : base ≤ w.heap.size) :
    ∃ v1 w1, (Builtin.append_ #[t, t] ty #[v, .slice (some ad) ys.length c]).run P w = .ok v1 w1 ∧ Apd e d base w w1 v v1 xs ys := by
  subst hsz
  obtain ⟨i, hi, hh⟩ := Option.map_eq_some_iff.1 hinf
  simp only [Prod.mk.injEq] at hh
  obtain ⟨h1, h2, h3⟩ := hh
  obtain ⟨z, hz, hzz⟩ := Option.map_eq_some_iff.1 h3
  obtain ⟨xc, hxl, hown⟩ := ho
  obtain ⟨v', w', hr, g1, g2, _, g4⟩ := run_append_own_at (P := P) w base t ty e i z d.sz bs ht hi hz h1 h2 hzz h0 v xs.length xc hown ad ys.length c cs (Rp.L_len hl) hc (Rp.L_one hl) hm hb hbase
  have hs : ∀ E : Nat → Bool, E e = false → Same E w w' := fun E hE => Same.grownBy ⟨xc, hxl, hown⟩ g2 hE
  exact ⟨v', w', hr, ⟨xc ++ cs, Rp.L_append (Rp.L_mov (hs _ hE) hxl) (Rp.L_mov (hs _ hE) hl), by rw [List.length_append]; exact g1⟩, g2, g4, hs⟩

theorem Own.shape (h : Own e d base w v xs) (hx : xs ≠ []) : ∃ g cap, v = .slice (some ⟨g, 0, none⟩) xs.length cap := by
  rcases h.block with ⟨_, h2⟩ | ⟨g, cap, cur, h2, _⟩
  · exact absurd h2 hx
  · exact ⟨g, cap, h2⟩

/-- append, at the operation. -/
theorem wp_app {ops : Array Oper} {rest : List Oper} {o : Oper} {a : Act} {Q : Exit → Act → World → Prop} {sz bs : Nat} (hgd : o.guard = none) (s x : Operand) (t : TypeId)
    (hop : o.op = .call { callee := .builtin .append, args := #[s, x], argTypes := #[t, t] })
    (ht : P.underlying t = some (.slice e))
    (hinf : (P.info? e).map (fun i => (i.size, i.bytes, i.zero.map (fun z => z.cells.size))) = some (sz, bs, some sz)) (hsz : d.sz = sz) (h0 : 0 < sz)
    (hs : a.eval s = v) (ho : Own e d base w v xs) (hE : d.E e = false) {ad : Addr} {c : Nat} {cs : List Value} (hx : a.eval x = .slice (some ad) ys.length c)
    (hl : d.L w ys cs) (hc : ∀ j u, cs[j]? = some u → w.cell? (ad.add j) = some u)
    (hb : (xs.length + ys.length) * bs ≤ 140737488355328) (hm : xs.length + ys.length ≤ maxLen) (hbase : base ≤ w.heap.size)
    (h : ∀ v1 w1, Apd e d base w w1 v v1 xs ys → wpList P ops Q rest (a.put o.dst v1) w1) : wpList P ops Q (o :: rest) a w := by
  refine wpList_plain hgd fun K hK => ?_
  obtain ⟨v1, w1, hr, h2⟩ := run_app (P := P) (ty := o.type) (c := c) ht hinf hsz h0 ho hE hl hc hb hm hbase
  unfold Oper.wp execOp
  simp only [hop, resolve, invoke, builtin, Sem.run_bind, Sem.run_pure, Result.andThen_ok, List.map_toArray, List.map_cons, List.map_nil, hs, hx, hr]
  exact hK _ _ (h v1 w1 h2)

/-- append of one element, that buildSlice has just laid in a block of its own. What is left speaks of the world ahead of that. -/
theorem Own.alloc (h : Own e d base w v xs) (o : Obj) : Own e d base (w.alloc o) v xs := h.below ((Below.refl _ _).alloc (Nat.le_refl _) _)
theorem Apd.of_alloc {o : Obj} (h : Apd e d base (w.alloc o) w1 v v1 xs ys) : w.grownBy w1 v.ownBlock ∧ (∀ E : Nat → Bool, E e = false → Same E w w1) ∧ (v1.ownBlock = v.ownBlock ∨ ∃ g, v1.ownBlock = some g ∧ w.heap.size ≤ g) :=
  ⟨(World.grownBy_alloc w o _).trans h.grown, fun E hE => (Same.alloc w o).trans (h.same E hE), h.at_.imp_right (fun h => ⟨_, h, by simp⟩)⟩

theorem wp_app1 {ops : Array Oper} {rest : List Oper} {o : Oper} {a : Act} {Q : Exit → Act → World → Prop} {sz bs : Nat} {y : α} (hgd : o.guard = none) (s x : Operand) (t : TypeId)
    (hop : o.op = .call { callee := .builtin .append, args := #[s, x], argTypes := #[t, t] })
    (ht : P.underlying t = some (.slice e))
    (hinf : (P.info? e).map (fun i => (i.size, i.bytes, i.zero.map (fun z => z.cells.size))) = some (sz, bs, some sz)) (hsz : d.sz = sz) (h0 : 0 < sz)
    (hs : a.eval s = v) (ho : Own e d base w v xs) (hE : d.E e = false) {c t' : Nat} {cs : List Value} (hx : a.eval x = .slice (some ⟨w.heap.size, 0, none⟩) 1 c)
    (hk : d.K w y cs)
    (hb : (xs.length + 1) * bs ≤ 140737488355328) (hm : xs.length + 1 ≤ maxLen) (hbase : base ≤ w.heap.size)
    (h : ∀ g cap w1, Apd e d base (w.alloc (.cells cs.toArray t')) w1 v (.slice (some ⟨g, 0, none⟩) (xs.length + 1) cap) xs [y] → wpList P ops Q rest (a.put o.dst (.slice (some ⟨g, 0, none⟩) (xs.length + 1) cap)) w1) :
    wpList P ops Q (o :: rest) a (w.alloc (.cells cs.toArray t')) := by
  refine wp_app (ys := [y]) hgd s x t hop ht hinf hsz h0 hs (ho.alloc _) hE hx (Rp.L_single (d.mov (Same.alloc _ _) hk)) (cells_new w cs t') hb hm (by simp; omega) ?_
  intro v1 w1 hA
  obtain ⟨g, cap, hv⟩ := hA.own.shape (by simp)
  rw [List.length_append, List.length_singleton] at hv
  subst hv
  exact h g cap w1 hA
/-- The same as one step of a region that draws. -/
theorem step_app1 {ops : Array Oper} {o : Oper} {a : Act} {K : Act → World → Prop} {Q : Exit → Act → World → Prop} {F : Prop} {sz bs : Nat} {y : α} (hgd : o.guard = none) (s x : Operand) (t : TypeId)
    (hop : o.op = .call { callee := .builtin .append, args := #[s, x], argTypes := #[t, t] })
    (ht : P.underlying t = some (.slice e))
    (hinf : (P.info? e).map (fun i => (i.size, i.bytes, i.zero.map (fun z => z.cells.size))) = some (sz, bs, some sz)) (hsz : d.sz = sz) (h0 : 0 < sz)
    (hs : a.eval s = v) (ho : Own e d base w v xs) (hE : d.E e = false) {c t' : Nat} {cs : List Value} (hx : a.eval x = .slice (some ⟨w.heap.size, 0, none⟩) 1 c)
    (hk : d.K w y cs)
    (hb : (xs.length + 1) * bs ≤ 140737488355328) (hm : xs.length + 1 ≤ maxLen) (hbase : base ≤ w.heap.size)
    (h : ∀ g cap w1, Apd e d base (w.alloc (.cells cs.toArray t')) w1 v (.slice (some ⟨g, 0, none⟩) (xs.length + 1) cap) xs [y] → K (a.put o.dst (.slice (some ⟨g, 0, none⟩) (xs.length + 1) cap)) w1) :
    if Region.wanted o (yielded ops a.tmps) = true then Oper.wp P o a (w.alloc (.cells cs.toArray t')) K Q else F := by
  have hw : Region.wanted o (yielded ops a.tmps) = true := by simp [Region.wanted, hgd]
  rw [if_pos hw]
  obtain ⟨v1, w1, hr, h2⟩ := run_app (P := P) (ty := o.type) (c := c) (ys := [y]) ht hinf hsz h0 (ho.alloc (.cells cs.toArray t')) hE (Rp.L_single (d.mov (Same.alloc _ _) hk)) (cells_new w cs t') hb hm (by simp; omega)
  obtain ⟨g, cap, hv⟩ := h2.own.shape (by simp)
  rw [List.length_append, List.length_singleton] at hv
  subst hv
  unfold Oper.wp execOp
  simp only [hop, resolve, invoke, builtin, Sem.run_bind, Sem.run_pure, Result.andThen_ok, List.map_toArray, List.map_cons, List.map_nil, hs, hx]
  rw [show (Value.slice (some ⟨w.heap.size, 0, none⟩) 1 c) = Value.slice (some ⟨w.heap.size, 0, none⟩) [y].length c from rfl, hr]
  exact h g cap w1 h2
end
end Go.Proofs.YtoncaejgflfhhaaGreatDoor
namespace Go.Proofs.YtoncaejgflfhhaaGreatDoor
open Go.RowKit

theorem K_below {α : Type} {d : Rp α} {w w' : World} {x : α} {cs : List Value} (h : d.K w x cs) (hb : Below w.heap.size w w') : d.K w' x cs := d.mov (Same.of_below hb) h
theorem below_one (w : World) (o : Obj) : Below w.heap.size w (w.alloc o) := (Below.refl _ _).alloc (Nat.le_refl _) _
theorem below_more {w W : World} (h : Below w.heap.size w W) (o : Obj) : Below w.heap.size w (W.alloc o) := h.alloc h.size o
theorem below_to {w W W' : World} (h : Below w.heap.size w W) (k : Below W.heap.size W W') : Below w.heap.size w W' := h.trans (k.mono h.size)
theorem below_set {w W : World} (h : Below w.heap.size w W) {p : Addr} (hp : w.heap.size ≤ p.block) (u : Value) : Below w.heap.size w (W.setCell p u) := h.setCell hp u
theorem below_drew (w : World) : Below w.heap.size w w.drew := (Below.refl _ _).drew
/-- A captured cell, as it will be found. -/
theorem cell_later {w w' : World} (hb : Below w.heap.size w w') {a : Addr} {v : Value} (h : w.cell? a = some v) : w'.cell? a = some v := (hb.cell (World.block_lt_of_cell? w a h)).trans h

/-- Block b holds just these cells. -/
def Box (w : World) (b t : Nat) (cs : List Value) : Prop := w.heap[b]? = some (.cells cs.toArray t (0, 0))
section
variable {w w' : World} {b t : Nat} {cs : List Value}
theorem Box.lt (h : Box w b t cs) : b < w.heap.size := heap_lt h
theorem Box.new (w : World) (cs : List Value) (t : Nat) : Box (w.alloc (.cells cs.toArray t)) w.heap.size t cs := heap_alloc_new w _
theorem Box.mk_ (w : World) {cs : List Value} {t b : Nat} (hb : b = w.heap.size) {o : Obj} (ho : o = .cells cs.toArray t) : Box (w.alloc o) b t cs := by subst hb; subst ho; exact Box.new w cs t
theorem Box.below (h : Box w b t cs) {B : Nat} {w0 : World} (hb : Below B w w') (hl : b < B) : Box w' b t cs := (hb.block b hl).trans h
theorem Box.later (h : Box w b t cs) (hb : Below w.heap.size w w') : Box w' b t cs := (hb.block b h.lt).trans h
theorem Box.alloc (h : Box w b t cs) (o : Obj) : Box (w.alloc o) b t cs := h.later (below_one w o)
theorem Box.drew (h : Box w b t cs) : Box w.drew b t cs := h
theorem Box.dN (h : Box w b t cs) (n : Nat) : Box (w.drewN n) b t cs := h
theorem Box.cell (h : Box w b t cs) (j : Nat) (u : Value) (hu : cs[j]? = some u) : w.cell? ⟨b, j, none⟩ = some u := by
  rw [cell_of_row w b j cs.toArray t (0, 0) h]
  simpa using hu
theorem Box.free (h : Box w b t cs) (j : Nat) : w.frozen? ⟨b, j, none⟩ = false := by
  unfold World.frozen?
  rw [show w.heap[b]? = _ from h]
  simp
theorem Box.set (h : Box w b t cs) (j : Nat) (u : Value) : Box (w.setCell ⟨b, j, none⟩ u) b t (cs.set j u) := by
  unfold Box
  simp only [World.setCell, Array.getElem?_modify, if_true]
  rw [show w.heap[b]? = _ from h]
  simp
theorem Box.other (h : Box w b t cs) {p : Addr} (hp : b ≠ p.block) (u : Value) : Box (w.setCell p u) b t cs := (Below.heap_setCell w p u b hp).trans h
theorem Box.same (h : Box w b t cs) {E : Nat → Bool} (hE : E t = false) (j : Nat) (u : Value) : Same E w (w.setCell ⟨b, j, none⟩ u) := Same.setCell (p := ⟨b, j, none⟩) h hE u
/-- An append has written another row, or none. -/
theorem Box.grown {row : Option Nat} (h : Box w b t cs) (hg : w.grownBy w' row) (hne : row ≠ some b) : Box w' b t cs := (hg.block b h.lt (fun e => hne e.symm)).trans h
end

/-- A row of elements of another type is not in this block. -/
theorem Own.ne_box {α : Type} {e base b t : Nat} {d : Rp α} {w : World} {v : Value} {xs : List α} {cs : List Value} (h : Own e d base w v xs) (hb : Box w b t cs) (hne : e ≠ t) : v.ownBlock ≠ some b := by
  rcases h.block with ⟨rfl, _⟩ | ⟨g, cap, cur, rfl, _, hh, _⟩
  · simp [Value.ownBlock]
  · intro h
    have : g = b := by simpa [Value.ownBlock] using h
    subst this
    rw [show w.heap[g]? = _ from hb] at hh
    cases hh
    exact hne rfl
/-- A store into a box leaves a row of another type, if its elements don't read that type. -/
theorem Own.set_box {α : Type} {e base b t : Nat} {d : Rp α} {w : World} {v : Value} {xs : List α} {cs : List Value} (h : Own e d base w v xs) (hb : Box w b t cs) (hne : e ≠ t) (hE : d.E t = false) (j : Nat) (u : Value) : Own e d base (w.setCell ⟨b, j, none⟩ u) v xs :=
  h.move (hb.same hE j u) (fun g hg => Below.heap_setCell w _ u g (fun e => h.ne_box hb hne (by rw [hg, e])))
theorem K_set {α : Type} {b t : Nat} {d : Rp α} {w : World} {x : α} {cs bs : List Value} (h : d.K w x cs) (hb : Box w b t bs) (hE : d.E t = false) (j : Nat) (u : Value) : d.K (w.setCell ⟨b, j, none⟩ u) x cs := d.mov (hb.same hE j u) h
/-- Behind an append of one element: a box of another type stays; so does what reads no such row. -/
theorem Apd.box {α : Type} {e base b t : Nat} {d : Rp α} {w w1 : World} {o : Obj} {v v1 : Value} {xs ys : List α} {cs : List Value} (h : Apd e d base (w.alloc o) w1 v v1 xs ys) (ho : Own e d base w v xs) (hb : Box w b t cs) (hne : e ≠ t) : Box w1 b t cs :=
  (hb.alloc o).grown h.grown ((ho.alloc o).ne_box (hb.alloc o) hne)
theorem Apd.K {α β : Type} {e base : Nat} {d : Rp α} {k : Rp β} {w w1 : World} {o : Obj} {v v1 : Value} {xs ys : List α} {x : β} {cs : List Value} (h : Apd e d base (w.alloc o) w1 v v1 xs ys) (hk : k.K w x cs) (hE : k.E e = false) : k.K w1 x cs :=
  k.mov ((Same.alloc w o).trans (h.same _ hE)) hk
theorem Apd.step {α : Type} {e base : Nat} {d : Rp α} {w0 w w1 : World} {o : Obj} {v v1 : Value} {xs ys : List α} (h : Apd e d base (w.alloc o) w1 v v1 xs ys) (ho : Own e d base w v xs) (hb : Below w0.heap.size w0 w) (hbase : w0.heap.size ≤ base) : Below w0.heap.size w0 w1 :=
  h.below (ho.alloc o) (below_more hb o) hbase (by have := hb.size; simp; omega)

/-! ### A store of a whole element into a row of one's own -/
/-- Cells written one behind the other, as the walk spells it. -/
def putCells (w : World) (g j : Nat) : List Value → World
  | [] => w
  | u :: r => putCells (w.setCell ⟨g, j, none⟩ u) g (j + 1) r
theorem putCells_row {e base sz g n cap : Nat} : ∀ (us : List Value) (w : World) (j : Nat) (cs : List Value), w.ownsRow base e sz (.slice (some ⟨g, 0, none⟩) n cap) n cs → j + us.length ≤ cs.length →
    (putCells w g j us).ownsRow base e sz (.slice (some ⟨g, 0, none⟩) n cap) n (cs.take j ++ us ++ cs.drop (j + us.length)) ∧ w.grownBy (putCells w g j us) (some g)
  | [], w, j, cs, h, hj => by simpa [putCells] using ⟨h, World.grownBy.refl w (some g)⟩
  | u :: r, w, j, cs, h, hj => by
    obtain ⟨h1, h2⟩ := h.stored j u
    rw [List.length_cons] at hj
    obtain ⟨h3, h4⟩ := putCells_row r (w.setCell ⟨g, j, none⟩ u) (j + 1) (cs.set j u) h1 (by rw [List.length_set]; omega)
    refine ⟨?_, h2.trans h4⟩
    have e1 : (cs.set j u).take (j + 1) = cs.take j ++ [u] := by
      rw [List.take_succ_eq_append_getElem (by rw [List.length_set]; omega), List.take_set, List.getElem_set_self]
      congr 1
      exact List.set_eq_of_length_le (by rw [List.length_take]; omega)
    have e2 : (cs.set j u).drop (j + 1 + r.length) = cs.drop (j + (r.length + 1)) := by
      rw [List.drop_set_of_lt (by omega)]
      congr 1
      omega
    rw [e1, e2] at h3
    simpa [putCells] using h3
/-- Element i of a row of one's own is written anew. -/
theorem Own.put {α : Type} {e base g cap : Nat} {d : Rp α} {w : World} {xs : List α} (h : Own e d base w (.slice (some ⟨g, 0, none⟩) xs.length cap) xs) {i : Nat} (hi : i < xs.length) {x : α} {us : List Value} (hk : d.K w x us) (hE : d.E e = false) :
    Own e d base (putCells w g (i * d.sz) us) (.slice (some ⟨g, 0, none⟩) xs.length cap) (xs.set i x) ∧ w.grownBy (putCells w g (i * d.sz) us) (some g) ∧ ∀ E : Nat → Bool, E e = false → Same E w (putCells w g (i * d.sz) us) := by
  obtain ⟨cs, hl, ho⟩ := h
  have hlen := d.len hk
  have hcl := Rp.L_len hl
  have hle : (i + 1) * d.sz ≤ xs.length * d.sz := Nat.mul_le_mul_right _ hi
  have hmul : (i + 1) * d.sz = i * d.sz + d.sz := by rw [Nat.add_mul]; omega
  obtain ⟨h1, h2⟩ := putCells_row us w (i * d.sz) cs ho (by rw [hlen, hcl]; omega)
  have hs : ∀ E : Nat → Bool, E e = false → Same E w (putCells w g (i * d.sz) us) := fun E hE' => Same.grownBy ⟨cs, hl, ho⟩ h2 hE'
  refine ⟨⟨_, Rp.L_mov (hs _ hE) (Rp.L_set hk hl i hi), ?_⟩, h2, hs⟩
  rw [List.length_set, hmul]
  rw [hlen] at h1
  exact h1
/-- What a row of one's own reads at element i. -/
theorem Own.get {α : Type} {e base g cap : Nat} {d : Rp α} {w : World} {xs : List α} (h : Own e d base w (.slice (some ⟨g, 0, none⟩) xs.length cap) xs) (i : Nat) (hi : i < xs.length) :
    ∃ c, d.K w xs[i] c ∧ (∀ j u, c[j]? = some u → w.cell? ⟨g, i * d.sz + j, none⟩ = some u) ∧ ∀ j, w.frozen? ⟨g, j, none⟩ = false := by
  obtain ⟨cs, hl, ho⟩ := h
  obtain ⟨c, hk, hc⟩ := Rp.L_get hl i xs[i] (by simp [hi])
  refine ⟨c, hk, fun j u hu => ?_, fun j => ho.frozenAt j⟩
  have := ho.cells (g := g) rfl _ _ (hc j u hu)
  rwa [Addr.add_lit, Nat.zero_add] at this

/-! ### A whole struct stored into a box of one's own -/
theorem Box.put {b t : Nat} : ∀ (us : List Value) {w : World} {cs : List Value} (j : Nat), Box w b t cs → ∃ cs', Box (putCells w b j us) b t cs'
  | [], _, cs, _, h => ⟨cs, h⟩
  | u :: r, _, _, j, h => Box.put r (j + 1) (h.set j u)
theorem K_put {α : Type} {b t : Nat} {d : Rp α} {x : α} {cs : List Value} (hE : d.E t = false) : ∀ (us : List Value) {w : World} {bs : List Value} (j : Nat), d.K w x cs → Box w b t bs → d.K (putCells w b j us) x cs
  | [], _, _, _, h, _ => h
  | u :: r, _, _, j, h, hb => K_put hE r (j + 1) (K_set h hb hE j u) (hb.set j u)
theorem below_put {w0 : World} {b : Nat} (hb : w0.heap.size ≤ b) : ∀ (us : List Value) {w : World} (j : Nat), Below w0.heap.size w0 w → Below w0.heap.size w0 (putCells w b j us)
  | [], _, _, h => h
  | u :: r, _, j, h => below_put hb r (j + 1) (below_set h (p := ⟨b, j, none⟩) hb u)
theorem Own.put_box {α : Type} {e base b t : Nat} {d : Rp α} {v : Value} {xs : List α} (hne : e ≠ t) (hE : d.E t = false) : ∀ (us : List Value) {w : World} {bs : List Value} (j : Nat), Own e d base w v xs → Box w b t bs → Own e d base (putCells w b j us) v xs
  | [], _, _, _, h, _ => h
  | u :: r, _, _, j, h, hb => Own.put_box hne hE r (j + 1) (h.set_box hb hne hE j u) (hb.set j u)
theorem Box.put_other {b c t : Nat} {cs : List Value} (hne : c ≠ b) : ∀ (us : List Value) {w : World} (j : Nat), Box w c t cs → Box (putCells w b j us) c t cs
  | [], _, _, h => h
  | u :: r, _, j, h => Box.put_other hne r (j + 1) (h.other (p := ⟨b, j, none⟩) hne u)
/-- The same by where they lie: a box below the row's base. -/
theorem Apd.box_lt {α : Type} {e base b t : Nat} {d : Rp α} {w w1 : World} {o : Obj} {v v1 : Value} {xs ys : List α} {cs : List Value} (h : Apd e d base (w.alloc o) w1 v v1 xs ys) (ho : Own e d base w v xs) (hb : Box w b t cs) (hlt : b < base) : Box w1 b t cs :=
  (hb.alloc o).grown h.grown (fun he => by have := (ho.ge b he).1; omega)
theorem Own.drew {α : Type} {e base : Nat} {d : Rp α} {w : World} {v : Value} {xs : List α} (h : Own e d base w v xs) : Own e d base w.drew v xs := h.below (below_drew w)
theorem Own.dN {α : Type} {e base : Nat} {d : Rp α} {w : World} {v : Value} {xs : List α} (h : Own e d base w v xs) (n : Nat) : Own e d base (w.drewN n) v xs := h.below ⟨rfl, rfl, rfl, Nat.le_refl _, fun _ _ => rfl⟩
end Go.Proofs.YtoncaejgflfhhaaGreatDoor
namespace Go.Proofs.YtoncaejgflfhhaaGreatDoor
open Go.RowKit

structure Spec where
  eql : Bool
  cls : Int
  obj : ByteArray
  deriving DecidableEq
structure Meth where
  quals : List ByteArray
  specs : List Spec
  fn : Int
  deriving DecidableEq
structure Gen where
  name : ByteArray
  comb : ByteArray
  req : Int
  meths : List Meth
  deriving DecidableEq
structure Arg where
  cls : Int
  obj : ByteArray
  deriving DecidableEq
structure Plan where
  ar : List Int
  be : List Int
  pr : List Int
  af : List Int
  op : ByteArray
  deriving DecidableEq
structure Slot where
  name : ByteArray
  initarg : ByteArray
  init : Int
  shared : Bool
  deriving DecidableEq
structure Cls where
  name : ByteArray
  supers : List Int
  slots : List Slot
  version : Int
  built : Bool
  deriving DecidableEq
structure CS where
  classes : List Cls
  history : List (List (List ByteArray))
structure Place where
  cls : Int
  told : Bool
  obj : ByteArray
  deriving DecidableEq
structure Ent where
  plan : Plan
  stamp : Int
  used : Int
  deriving DecidableEq

theorem Rp.mov_or {E F : Nat → Bool} {w w' : World} (h : Same (fun t => E t || F t) w w') : Same E w w' ∧ Same F w w' :=
  ⟨h.imp fun t ht => by simp [ht], h.imp fun t ht => by simp [ht]⟩

abbrev sInt : Rp (List Int) := Rp.slice (some 3) Rp.int
abbrev sStr : Rp (List ByteArray) := Rp.slice (some 9) Rp.str

theorem slice_one {α : Type} {e : Option Nat} {d : Rp α} {w : World} {xs : List α} {v : Value} (h : (Rp.slice e d).K w xs [v]) : v.oneCell' = true := (Rp.slice e d).one h v (by simp)

def rSpec : Rp Spec where
  agg := true
  sz := 3
  E := fun _ => false
  K := fun _ x cs => cs = [.bool x.eql, .int .i64 x.cls, .string x.obj] ∧ Rp.okInt x.cls ∧ x.obj.size ≤ maxLen
  len := by rintro w x cs ⟨rfl, _⟩; rfl
  one := by rintro w x cs ⟨rfl, _⟩ u hu; simp at hu; rcases hu with rfl | rfl | rfl <;> rfl
  mov := fun _ h => h
abbrev sSpec : Rp (List Spec) := Rp.slice (some 36) rSpec

def rMeth : Rp Meth where
  agg := true
  sz := 3
  E := fun t => sStr.E t || sSpec.E t
  K := fun w x cs => ∃ q s, cs = [q, s, .int .i64 x.fn] ∧ sStr.K w x.quals [q] ∧ sSpec.K w x.specs [s] ∧ Rp.okInt x.fn
  len := by rintro w x cs ⟨q, s, rfl, _⟩; rfl
  one := by
    rintro w x cs ⟨q, s, rfl, h1, h2, _⟩ u hu
    simp at hu
    rcases hu with rfl | rfl | rfl
    · exact slice_one h1
    · exact slice_one h2
    · rfl
  mov := by
    rintro w w' x cs hs ⟨q, s, rfl, h1, h2, h3⟩
    obtain ⟨a, b⟩ := Rp.mov_or hs
    exact ⟨q, s, rfl, sStr.mov a h1, sSpec.mov b h2, h3⟩
abbrev sMeth : Rp (List Meth) := Rp.slice (some 40) rMeth

def rGen : Rp Gen where
  agg := true
  sz := 4
  E := sMeth.E
  K := fun w x cs => ∃ m, cs = [.string x.name, .string x.comb, .int .i64 x.req, m] ∧ sMeth.K w x.meths [m] ∧ Rp.okInt x.req ∧ x.name.size ≤ maxLen ∧ x.comb.size ≤ maxLen
  len := by rintro w x cs ⟨m, rfl, _⟩; rfl
  one := by
    rintro w x cs ⟨m, rfl, h1, _⟩ u hu
    simp at hu
    rcases hu with rfl | rfl | rfl | rfl
    · rfl
    · rfl
    · rfl
    · exact slice_one h1
  mov := by
    rintro w w' x cs hs ⟨m, rfl, h1, h2⟩
    exact ⟨m, rfl, sMeth.mov hs h1, h2⟩
abbrev sGen : Rp (List Gen) := Rp.slice (some 80) rGen

def rArg : Rp Arg where
  agg := true
  sz := 2
  E := fun _ => false
  K := fun _ x cs => cs = [.int .i64 x.cls, .string x.obj] ∧ Rp.okInt x.cls ∧ x.obj.size ≤ maxLen
  len := by rintro w x cs ⟨rfl, _⟩; rfl
  one := by rintro w x cs ⟨rfl, _⟩ u hu; simp at hu; rcases hu with rfl | rfl <;> rfl
  mov := fun _ h => h
abbrev sArg : Rp (List Arg) := Rp.slice (some 52) rArg

def rPlan : Rp Plan where
  agg := true
  sz := 5
  E := sInt.E
  K := fun w x cs => ∃ a b c d, cs = [a, b, c, d, .string x.op] ∧ sInt.K w x.ar [a] ∧ sInt.K w x.be [b] ∧ sInt.K w x.pr [c] ∧ sInt.K w x.af [d] ∧ x.op.size ≤ maxLen
  len := by rintro w x cs ⟨a, b, c, d, rfl, _⟩; rfl
  one := by
    rintro w x cs ⟨a, b, c, d, rfl, h1, h2, h3, h4, _⟩ u hu
    simp at hu
    rcases hu with rfl | rfl | rfl | rfl | rfl
    · exact slice_one h1
    · exact slice_one h2
    · exact slice_one h3
    · exact slice_one h4
    · rfl
  mov := by
    rintro w w' x cs hs ⟨a, b, c, d, rfl, h1, h2, h3, h4, h5⟩
    exact ⟨a, b, c, d, rfl, sInt.mov hs h1, sInt.mov hs h2, sInt.mov hs h3, sInt.mov hs h4, h5⟩

def rSlot : Rp Slot where
  agg := true
  sz := 4
  E := fun _ => false
  K := fun _ x cs => cs = [.string x.name, .string x.initarg, .int .i64 x.init, .bool x.shared] ∧ Rp.okInt x.init ∧ x.name.size ≤ maxLen ∧ x.initarg.size ≤ maxLen
  len := by rintro w x cs ⟨rfl, _⟩; rfl
  one := by rintro w x cs ⟨rfl, _⟩ u hu; simp at hu; rcases hu with rfl | rfl | rfl | rfl <;> rfl
  mov := fun _ h => h
abbrev sSlot : Rp (List Slot) := Rp.slice (some 209) rSlot

def rCls : Rp Cls where
  agg := true
  sz := 5
  E := fun t => sInt.E t || sSlot.E t
  K := fun w x cs => ∃ u l, cs = [.string x.name, u, l, .int .i64 x.version, .bool x.built] ∧ sInt.K w x.supers [u] ∧ sSlot.K w x.slots [l] ∧ Rp.okInt x.version ∧ x.name.size ≤ maxLen
  len := by rintro w x cs ⟨u, l, rfl, _⟩; rfl
  one := by
    rintro w x cs ⟨q, s, rfl, h1, h2, _⟩ u hu
    simp at hu
    rcases hu with rfl | rfl | rfl | rfl | rfl
    · rfl
    · exact slice_one h1
    · exact slice_one h2
    · rfl
    · rfl
  mov := by
    rintro w w' x cs hs ⟨q, s, rfl, h1, h2, h3⟩
    obtain ⟨a, b⟩ := Rp.mov_or hs
    exact ⟨q, s, rfl, sInt.mov a h1, sSlot.mov b h2, h3⟩
abbrev sCls : Rp (List Cls) := Rp.slice (some 108) rCls
abbrev sStr2 : Rp (List (List ByteArray)) := Rp.slice (some 38) sStr
abbrev sStr3 : Rp (List (List (List ByteArray))) := Rp.slice (some 109) sStr2

def rCS : Rp CS where
  agg := true
  sz := 2
  E := fun t => sCls.E t || sStr3.E t
  K := fun w x cs => ∃ u l, cs = [u, l] ∧ sCls.K w x.classes [u] ∧ sStr3.K w x.history [l]
  len := by rintro w x cs ⟨u, l, rfl, _⟩; rfl
  one := by
    rintro w x cs ⟨q, s, rfl, h1, h2⟩ u hu
    simp at hu
    rcases hu with rfl | rfl
    · exact slice_one h1
    · exact slice_one h2
  mov := by
    rintro w w' x cs hs ⟨q, s, rfl, h1, h2⟩
    obtain ⟨a, b⟩ := Rp.mov_or hs
    exact ⟨q, s, rfl, sCls.mov a h1, sStr3.mov b h2⟩

/-! ### Caches: maps from keys to entries -/
abbrev Key := List Place
def keyCells : Key → List Value
  | [] => []
  | p :: r => .int .i64 p.cls :: .bool p.told :: .string p.obj :: keyCells r
def okKey (k : Key) : Prop := k.length = 8 ∧ ∀ p ∈ k, Rp.okInt p.cls ∧ p.obj.size ≤ maxLen
def keyVal (k : Key) : Value := .agg (keyCells k).toArray

def rEnt : Rp Ent where
  agg := true
  sz := 7
  E := sInt.E
  K := fun w x cs => ∃ p, cs = p ++ [.int .i64 x.stamp, .int .i64 x.used] ∧ rPlan.K w x.plan p ∧ Rp.okInt x.stamp ∧ Rp.okInt x.used
  len := by rintro w x cs ⟨p, rfl, h, _⟩; rw [List.length_append, rPlan.len h]; rfl
  one := by
    rintro w x cs ⟨p, rfl, h, _⟩ u hu
    rcases List.mem_append.1 hu with hu | hu
    · exact rPlan.one h u hu
    · simp at hu
      rcases hu with rfl | rfl <;> rfl
  mov := by
    rintro w w' x cs hs ⟨p, rfl, h, h2⟩
    exact ⟨p, rfl, rPlan.mov hs h, h2⟩

/-- The entries of a map object, in the order in which they lie there. -/
def EntsOf (w : World) : List (Key × Ent) → List MapEntry → Prop
  | [], es => es = []
  | (k, x) :: r, es => ∃ e es', es = e :: es' ∧ e.key = keyVal k ∧ okKey k ∧ (∃ cs, e.val = .agg cs.toArray ∧ rEnt.K w x cs) ∧ EntsOf w r es'

theorem EntsOf_mov {w w' : World} (hs : Same rEnt.E w w') : ∀ {l : List (Key × Ent)} {es : List MapEntry}, EntsOf w l es → EntsOf w' l es
  | [], _, h => h
  | (_, _) :: _, _, ⟨e, es', h, hk, hok, ⟨cs, hv, hc⟩, hr⟩ => ⟨e, es', h, hk, hok, ⟨cs, hv, rEnt.mov hs hc⟩, EntsOf_mov hs hr⟩

/-- No two entries were born at one time, and all before the clock. -/
def Born (es : List MapEntry) (clock : Nat) : Prop := (es.map (·.born)).Nodup ∧ ∀ e ∈ es, e.born < clock

/-- A map at block r. -/
def MapAt (w : World) (r : Nat) (l : List (Key × Ent)) : Prop := ∃ es clock, w.heap[r]? = some (.map es clock) ∧ EntsOf w l es.toList ∧ Born es.toList clock ∧ (l.map (·.1)).Nodup

theorem MapAt_mov {w w' : World} {r : Nat} {l : List (Key × Ent)} (hs : Same (fun t => t == 1000 || rEnt.E t) w w') (h : MapAt w r l) : MapAt w' r l := by
  obtain ⟨a, b⟩ := Rp.mov_or hs
  obtain ⟨es, clock, h1, h2, h3⟩ := h
  exact ⟨es, clock, a r _ (by simp [otag]) h1, EntsOf_mov b h2, h3⟩

def rMap : Rp (List (Key × Ent)) where
  agg := false
  sz := 1
  E := fun t => t == 1000 || rEnt.E t
  K := fun w l cs => (cs = [.map none] ∧ l = []) ∨ ∃ r, cs = [.map (some r)] ∧ MapAt w r l
  len := by rintro w x cs (⟨rfl, _⟩ | ⟨r, rfl, _⟩) <;> rfl
  one := by
    rintro w x cs (⟨rfl, _⟩ | ⟨r, rfl, _⟩) u hu <;> (rw [List.mem_singleton.1 hu]; rfl)
  mov := by
    rintro w w' x cs hs (⟨rfl, h⟩ | ⟨r, rfl, h⟩)
    · exact .inl ⟨rfl, h⟩
    · exact .inr ⟨r, rfl, MapAt_mov hs h⟩
abbrev sMap : Rp (List (List (Key × Ent))) := Rp.slice (some 119) rMap

structure St where
  gens : List Gen
  hits : Int
  misses : Int
  caches : List (List (Key × Ent))
  most : Int
  clock : Int

def rSt : Rp St where
  agg := true
  sz := 6
  E := fun t => sGen.E t || sMap.E t
  K := fun w x cs => ∃ g c, cs = [g, .int .i64 x.hits, .int .i64 x.misses, c, .int .i64 x.most, .int .i64 x.clock] ∧ sGen.K w x.gens [g] ∧ sMap.K w x.caches [c] ∧ Rp.okInt x.hits ∧ Rp.okInt x.misses ∧ Rp.okInt x.most ∧ Rp.okInt x.clock
  len := by rintro w x cs ⟨u, l, rfl, _⟩; rfl
  one := by
    rintro w x cs ⟨q, s, rfl, h1, h2, _⟩ u hu
    simp at hu
    rcases hu with rfl | rfl | rfl | rfl | rfl | rfl
    · exact slice_one h1
    · rfl
    · rfl
    · rcases h2 with ⟨A, c, h, _⟩
      cases h
      rfl
    · rfl
    · rfl
  mov := by
    rintro w w' x cs hs ⟨q, s, rfl, h1, h2, h3⟩
    obtain ⟨a, b⟩ := Rp.mov_or hs
    exact ⟨q, s, rfl, sGen.mov a h1, sMap.mov b h2, h3⟩

/-! ### The values, as the walk meets them -/
@[go_sem] theorem slice_val {α : Type} (e : Option Nat) (d : Rp α) (v : Value) : (Rp.slice e d).val [v] = v := rfl
@[go_sem] theorem int_val (v : Value) : Rp.int.val [v] = v := rfl
@[go_sem] theorem bool_val (v : Value) : Rp.bool.val [v] = v := rfl
@[go_sem] theorem str_val (v : Value) : Rp.str.val [v] = v := rfl
@[go_sem] theorem rMap_val (v : Value) : rMap.val [v] = v := rfl
@[go_sem] theorem rSpec_val (a b c : Value) : rSpec.val [a, b, c] = .agg #[a, b, c] := rfl
@[go_sem] theorem rMeth_val (a b c : Value) : rMeth.val [a, b, c] = .agg #[a, b, c] := rfl
@[go_sem] theorem rGen_val (a b c d : Value) : rGen.val [a, b, c, d] = .agg #[a, b, c, d] := rfl
@[go_sem] theorem rArg_val (a b : Value) : rArg.val [a, b] = .agg #[a, b] := rfl
@[go_sem] theorem rPlan_val (a b c d e : Value) : rPlan.val [a, b, c, d, e] = .agg #[a, b, c, d, e] := rfl
@[go_sem] theorem rSlot_val (a b c d : Value) : rSlot.val [a, b, c, d] = .agg #[a, b, c, d] := rfl
@[go_sem] theorem rCls_val (a b c d e : Value) : rCls.val [a, b, c, d, e] = .agg #[a, b, c, d, e] := rfl
@[go_sem] theorem rCS_val (a b : Value) : rCS.val [a, b] = .agg #[a, b] := rfl
@[go_sem] theorem rEnt_val (a b c d e f g : Value) : rEnt.val [a, b, c, d, e, f, g] = .agg #[a, b, c, d, e, f, g] := rfl
@[go_sem] theorem rSt_val (a b c d e f : Value) : rSt.val [a, b, c, d, e, f] = .agg #[a, b, c, d, e, f] := rfl

theorem slice_form {α : Type} {e : Option Nat} {d : Rp α} {w : World} {xs : List α} {v : Value} (h : (Rp.slice e d).K w xs [v]) : ∃ A c, v = .slice A xs.length c := by
  obtain ⟨A, c, h, _⟩ := h
  cases h
  exact ⟨A, c, rfl⟩
end Go.Proofs.YtoncaejgflfhhaaGreatDoor
namespace Go.Proofs.YtoncaejgflfhhaaGreatDoor
open Go.RowKit Go.MapKept
open Go.Maps (Keyed)
open Go.ChangeMaps (setBlock heap_setBlock_same heap_setBlock_other)

/-- A type of keys: its values are written out by kv, those that may occur satisfy ok. -/
structure Keys (P : Program) (k : TypeId) {κ : Type} (kv : κ → Value) (ok : κ → Prop) : Prop where
  law : Keyed P k
  lit : ∀ x, ok x → ∃ l, keyOf P k (kv x) = some l
  inj : ∀ x y, ok x → ok y → kv x = kv y → x = y

section
variable {κ β : Type} {kv : κ → Value} {ok : κ → Prop} {d : Rp β} {P : Program} {k e t : TypeId} {w w' : World} {b : Nat} {l : List (κ × β)}

/-- One entry. -/
def EntIs (kv : κ → Value) (ok : κ → Prop) (d : Rp β) (w : World) (p : κ × β) (e : MapEntry) : Prop := e.key = kv p.1 ∧ ok p.1 ∧ ∃ cs, e.val = d.val cs ∧ d.K w p.2 cs

def Ents (kv : κ → Value) (ok : κ → Prop) (d : Rp β) (w : World) : List (κ × β) → List MapEntry → Prop
  | [], es => es = []
  | p :: r, es => ∃ e es', es = e :: es' ∧ EntIs kv ok d w p e ∧ Ents kv ok d w r es'

def MapIs (kv : κ → Value) (ok : κ → Prop) (d : Rp β) (w : World) (b : Nat) (l : List (κ × β)) : Prop :=
  ∃ es clock, w.heap[b]? = some (.map es clock) ∧ Ents kv ok d w l es.toList ∧ Stamped es clock

theorem EntIs.mov {p : κ × β} {x : MapEntry} (hs : Same d.E w w') : EntIs kv ok d w p x → EntIs kv ok d w' p x
  | ⟨h1, h2, cs, h3, h4⟩ => ⟨h1, h2, cs, h3, d.mov hs h4⟩
theorem Ents.mov (hs : Same d.E w w') : ∀ {l : List (κ × β)} {es : List MapEntry}, Ents kv ok d w l es → Ents kv ok d w' l es
  | [], _, h => h
  | _ :: _, _, ⟨e, es', h, he, hr⟩ => ⟨e, es', h, he.mov hs, Ents.mov hs hr⟩
theorem Ents.length : ∀ {l : List (κ × β)} {es : List MapEntry}, Ents kv ok d w l es → es.length = l.length
  | [], _, h => by rw [show _ = [] from h]; rfl
  | _ :: _, _, ⟨e, es', h, _, hr⟩ => by rw [h, List.length_cons, Ents.length hr, List.length_cons]
theorem Ents.append : ∀ {l m : List (κ × β)} {es fs : List MapEntry}, Ents kv ok d w l es → Ents kv ok d w m fs → Ents kv ok d w (l ++ m) (es ++ fs)
  | [], _, _, _, h, hm => by rw [show _ = [] from h]; exact hm
  | _ :: _, _, _, _, ⟨e, es', h, he, hr⟩, hm => ⟨e, es' ++ _, by rw [h]; rfl, he, Ents.append hr hm⟩
theorem Ents.get : ∀ {l : List (κ × β)} {es : List MapEntry}, Ents kv ok d w l es → ∀ (i : Nat) (x : MapEntry), es[i]? = some x → ∃ p, l[i]? = some p ∧ EntIs kv ok d w p x
  | [], _, h, i, x, hx => by rw [show _ = [] from h] at hx; simp at hx
  | p :: _, _, ⟨e, es', h, he, hr⟩, 0, x, hx => by rw [h] at hx; simp at hx; subst hx; exact ⟨p, rfl, he⟩
  | p :: _, _, ⟨e, es', h, he, hr⟩, i + 1, x, hx => by rw [h] at hx; exact Ents.get hr i x (by simpa using hx)
theorem Ents.at : ∀ {l : List (κ × β)} {es : List MapEntry}, Ents kv ok d w l es → ∀ (i : Nat) (p : κ × β), l[i]? = some p → ∃ x, es[i]? = some x ∧ EntIs kv ok d w p x
  | [], _, h, i, p, hp => by simp at hp
  | q :: _, _, ⟨e, es', h, he, hr⟩, 0, p, hp => by simp at hp; subst hp; subst h; exact ⟨e, rfl, he⟩
  | q :: _, _, ⟨e, es', h, he, hr⟩, i + 1, p, hp => by subst h; exact Ents.at hr i p (by simpa using hp)
theorem Ents.set {p : κ × β} {x : MapEntry} (hx : EntIs kv ok d w p x) : ∀ {l : List (κ × β)} {es : List MapEntry}, Ents kv ok d w l es → ∀ i, Ents kv ok d w (l.set i p) (es.set i x)
  | [], _, h, i => by rw [show _ = [] from h]; rfl
  | _ :: _, _, ⟨e, es', h, he, hr⟩, 0 => by subst h; exact ⟨x, es', rfl, hx, hr⟩
  | _ :: _, _, ⟨e, es', h, he, hr⟩, i + 1 => by subst h; exact ⟨e, _, rfl, he, Ents.set hx hr i⟩
theorem Ents.erase : ∀ {l : List (κ × β)} {es : List MapEntry}, Ents kv ok d w l es → ∀ i, Ents kv ok d w (l.eraseIdx i) (es.eraseIdx i)
  | [], _, h, i => by rw [show _ = [] from h]; rfl
  | _ :: _, _, ⟨e, es', h, he, hr⟩, 0 => by subst h; exact hr
  | _ :: _, _, ⟨e, es', h, he, hr⟩, i + 1 => by subst h; exact ⟨e, _, rfl, he, Ents.erase hr i⟩

theorem MapIs.mov (hs : Same d.E w w') (hb : w'.heap[b]? = w.heap[b]?) : MapIs kv ok d w b l → MapIs kv ok d w' b l
  | ⟨es, clock, h1, h2, h3⟩ => ⟨es, clock, hb.trans h1, h2.mov hs, h3⟩
theorem MapIs.lt : MapIs kv ok d w b l → b < w.heap.size
  | ⟨_, _, h1, _, _⟩ => heap_lt h1
theorem MapIs.below (hb : Below w.heap.size w w') (h : MapIs kv ok d w b l) : MapIs kv ok d w' b l := h.mov (Same.of_below hb) (hb.block b h.lt)
theorem MapIs.made (w : World) : MapIs kv ok d (w.alloc (.map #[] 0)) w.heap.size ([] : List (κ × β)) := ⟨#[], 0, (MapKept.heap_alloc w _).1, rfl, stamped_empty 0⟩

theorem Keys.eqv (K : Keys P k kv ok) {x y : κ} (hx : ok x) (hy : ok y) : kv x = kv y ↔ x = y := ⟨K.inj x y hx hy, fun h => by rw [h]⟩

theorem Ents.okAll {l : List (κ × β)} {es : List MapEntry} (h : Ents kv ok d w l es) : ∀ p ∈ l, ok p.1 := by
  intro p hp
  obtain ⟨i, hi⟩ := List.getElem?_of_mem hp
  obtain ⟨x, _, hx⟩ := h.at i p hi
  exact hx.2.1
theorem Ents.keysOk (K : Keys P k kv ok) {l : List (κ × β)} {es : List MapEntry} (h : Ents kv ok d w l es) : ∀ x ∈ es, ∃ q, keyOf P k x.key = some q := by
  intro x hx
  obtain ⟨i, hi⟩ := List.getElem?_of_mem hx
  obtain ⟨p, _, he⟩ := h.get i x hi
  rw [he.1]
  exact K.lit _ he.2.1
theorem Ents.nodup (K : Keys P k kv ok) {l : List (κ × β)} {es : List MapEntry} (h : Ents kv ok d w l es) (hn : (es.map (·.key)).Nodup) : (l.map (·.1)).Nodup := by
  induction l generalizing es with
  | nil => simp
  | cons p r ih =>
    obtain ⟨e, es', rfl, he, hr⟩ := h
    rw [List.map_cons, List.nodup_cons] at hn ⊢
    refine ⟨fun hm => hn.1 ?_, ih hr hn.2⟩
    obtain ⟨q, hq, hqk⟩ := List.mem_map.1 hm
    obtain ⟨i, hi⟩ := List.getElem?_of_mem hq
    obtain ⟨x, hx, hxe⟩ := hr.at i q hi
    exact List.mem_map.2 ⟨x, List.mem_of_getElem? hx, by rw [hxe.1, he.1, hqk]⟩

variable [DecidableEq κ]
def aget (x : κ) : List (κ × β) → Option β
  | [] => none
  | (y, v) :: r => if y = x then some v else aget x r
def aput (x : κ) (v : β) : List (κ × β) → List (κ × β)
  | [] => [(x, v)]
  | (y, u) :: r => if y = x then (x, v) :: r else (y, u) :: aput x v r
def adel (x : κ) (l : List (κ × β)) : List (κ × β) := l.filter fun p => !decide (p.1 = x)

theorem aget_none_of {x : κ} : ∀ {l : List (κ × β)}, (∀ p ∈ l, p.1 ≠ x) → aget x l = none
  | [], _ => rfl
  | (y, v) :: r, h => by
    unfold aget
    rw [if_neg (h _ (.head _))]
    exact aget_none_of fun p hp => h p (.tail _ hp)
theorem aput_none_of {x : κ} {v : β} : ∀ {l : List (κ × β)}, (∀ p ∈ l, p.1 ≠ x) → aput x v l = l ++ [(x, v)]
  | [], _ => rfl
  | (y, u) :: r, h => by
    unfold aput
    rw [if_neg (h _ (.head _)), aput_none_of fun p hp => h p (.tail _ hp)]
    rfl
theorem adel_none_of {x : κ} {l : List (κ × β)} (h : ∀ p ∈ l, p.1 ≠ x) : adel x l = l := by
  unfold adel
  refine List.filter_eq_self.2 fun p hp => ?_
  simp [h p hp]
theorem aget_at {x : κ} {v : β} : ∀ {l : List (κ × β)} {i : Nat}, (l.map (·.1)).Nodup → l[i]? = some (x, v) → aget x l = some v
  | [], _, _, h => by simp at h
  | (y, u) :: r, 0, _, h => by
    simp at h
    obtain ⟨rfl, rfl⟩ := h
    simp [aget]
  | (y, u) :: r, i + 1, hn, h => by
    rw [List.map_cons, List.nodup_cons] at hn
    have hr : r[i]? = some (x, v) := by simpa using h
    unfold aget
    rw [if_neg (fun he => hn.1 (List.mem_map.2 ⟨_, List.mem_of_getElem? hr, by rw [← he]⟩))]
    exact aget_at hn.2 hr
theorem aput_at {x : κ} {v v' : β} : ∀ {l : List (κ × β)} {i : Nat}, (l.map (·.1)).Nodup → l[i]? = some (x, v) → aput x v' l = l.set i (x, v')
  | [], _, _, h => by simp at h
  | (y, u) :: r, 0, _, h => by
    simp at h
    obtain ⟨rfl, rfl⟩ := h
    simp [aput]
  | (y, u) :: r, i + 1, hn, h => by
    rw [List.map_cons, List.nodup_cons] at hn
    have hr : r[i]? = some (x, v) := by simpa using h
    unfold aput
    rw [if_neg (fun he => hn.1 (List.mem_map.2 ⟨_, List.mem_of_getElem? hr, by rw [← he]⟩)), aput_at hn.2 hr]
    rfl
theorem adel_at {x : κ} {v : β} : ∀ {l : List (κ × β)} {i : Nat}, (l.map (·.1)).Nodup → l[i]? = some (x, v) → adel x l = l.eraseIdx i
  | [], _, _, h => by simp at h
  | (y, u) :: r, 0, hn, h => by
    simp at h
    obtain ⟨rfl, rfl⟩ := h
    rw [List.map_cons, List.nodup_cons] at hn
    have : adel y r = r := adel_none_of fun p hp he => hn.1 (List.mem_map.2 ⟨p, hp, he⟩)
    simp only [adel, List.filter_cons, decide_true, Bool.not_true] at this ⊢
    simpa using this
  | (y, u) :: r, i + 1, hn, h => by
    rw [List.map_cons, List.nodup_cons] at hn
    have hr : r[i]? = some (x, v) := by simpa using h
    have hne : ¬ y = x := fun he => hn.1 (List.mem_map.2 ⟨_, List.mem_of_getElem? hr, by rw [← he]⟩)
    have := adel_at hn.2 hr
    simp only [adel, List.filter_cons, hne, decide_false, Bool.not_false, if_true, List.eraseIdx_cons_succ] at this ⊢
    rw [this]

omit [DecidableEq κ] in
/-- What findKey says, in the words of the list. -/
theorem find_list (K : Keys P k kv ok) {es : Array MapEntry} {clock : Nat} (h : Ents kv ok d w l es.toList) (hs : Stamped es clock) {x : κ} (hx : ok x) :
    ((Instr.findKey k (kv x) es.toList).run P w = .ok none w ∧ (∀ p ∈ l, p.1 ≠ x) ∧ ∀ y ∈ es.toList, y.key ≠ kv x) ∨
    ∃ j y v, (Instr.findKey k (kv x) es.toList).run P w = .ok (some (j, y.val)) w ∧ es[j]? = some y ∧ y.key = kv x ∧ l[j]? = some (x, v) ∧ EntIs kv ok d w (x, v) y := by
  obtain ⟨lx, hlx⟩ := K.lit x hx
  rcases K.law.find w hlx es.toList (h.keysOk K) with ⟨h1, h2⟩ | ⟨j, y, h1, h2, h3⟩
  · refine .inl ⟨h1, fun p hp he => ?_, h2⟩
    obtain ⟨i, hi⟩ := List.getElem?_of_mem hp
    obtain ⟨y, hy, hye⟩ := h.at i p hi
    exact h2 y (List.mem_of_getElem? hy) (by rw [hye.1, he])
  · obtain ⟨p, hp, hpe⟩ := h.get j y h2
    obtain ⟨px, pv⟩ := p
    have : px = x := K.inj _ _ hpe.2.1 hx (by rw [← hpe.1, h3])
    subst this
    exact .inr ⟨j, y, pv, h1, by simpa using h2, h3, hp, hpe⟩

/-- m[x], with and without ok. -/
theorem MapIs.look (h : MapIs kv ok d w b l) (K : Keys P k kv ok) (ht : P.underlying t = some (.map k e)) {z : Value} (hz : (zeroValue e).run P w = .ok z w) {x : κ} (hx : ok x) (c : Bool) :
    (aget x l = none ∧ (Instr.lookup t (.map (some b)) (kv x) c).run P w = .ok (if c then .tuple #[z, .bool false] else z) w) ∨
    ∃ v cs, aget x l = some v ∧ d.K w v cs ∧ (Instr.lookup t (.map (some b)) (kv x) c).run P w = .ok (if c then .tuple #[d.val cs, .bool true] else d.val cs) w := by
  obtain ⟨es, clock, hb, hE, hs⟩ := h
  obtain ⟨lx, hlx⟩ := K.lit x hx
  rcases find_list K hE hs hx with ⟨h1, h2, _⟩ | ⟨j, y, v, h1, _, _, h4, h5⟩
  · exact .inl ⟨aget_none_of h2, by simp [Instr.lookup, run_underlying ht, MapKept.run_getObj_map hb, K.law.check w _ hlx, h1, hz, Result.andThen]⟩
  · obtain ⟨_, _, cs, hv, hK⟩ := h5
    exact .inr ⟨v, cs, aget_at (hE.nodup K hs.2.2) h4, hK, by simp [Instr.lookup, run_underlying ht, MapKept.run_getObj_map hb, K.law.check w _ hlx, h1, hv, Result.andThen]⟩

omit [DecidableEq κ] in
/-- m[x] of a nil map. -/
theorem look_nilmap (K : Keys P k kv ok) (w : World) (ht : P.underlying t = some (.map k e)) {z : Value} (hz : (zeroValue e).run P w = .ok z w) {x : κ} (hx : ok x) (c : Bool) :
    (Instr.lookup t (.map none) (kv x) c).run P w = .ok (if c then .tuple #[z, .bool false] else z) w := by
  obtain ⟨lx, hlx⟩ := K.lit x hx
  rcases K.law.find w hlx [] (by simp) with ⟨h1, _⟩ | ⟨j, y, h1, h2, _⟩
  · simp [Instr.lookup, run_underlying ht, K.law.check w _ hlx, h1, hz, Result.andThen]
  · simp at h2

omit [DecidableEq κ] in
theorem same_setBlock {E : Nat → Bool} {es es' : Array MapEntry} {c c' : Nat} (hb : w.heap[b]? = some (.map es c)) (hE : E 1000 = false) : Same E w (setBlock w b (.map es' c')) := by
  intro i o ho hi
  by_cases hib : i = b
  · subst hib
    rw [hb] at hi
    cases hi
    simp [otag, hE] at ho
  · rw [heap_setBlock_other hb _ hib]
    exact hi
omit [DecidableEq κ] in
theorem grown_setBlock {es : Array MapEntry} {c : Nat} {o' : Obj} (hb : w.heap[b]? = some (.map es c)) : w.grownBy (setBlock w b o') (some b) :=
  ⟨rfl, rfl, rfl, by simp [setBlock], fun i _ hi => heap_setBlock_other hb _ (fun e => hi (by rw [e]))⟩

/-- m[x] = v. -/
theorem MapIs.store (h : MapIs kv ok d w b l) (K : Keys P k kv ok) (ht : P.underlying t = some (.map k e)) (hE : d.E 1000 = false) {x : κ} (hx : ok x) {v : β} {cs : List Value} (hv : d.K w v cs) :
    ∃ w', (Instr.mapUpdate t (.map (some b)) (kv x) (d.val cs)).run P w = .ok () w' ∧ MapIs kv ok d w' b (aput x v l) ∧ w.grownBy w' (some b) ∧ (∀ E : Nat → Bool, E 1000 = false → Same E w w') ∧ w'.heap.size = w.heap.size := by
  obtain ⟨es, clock, hb, hEn, hs⟩ := h
  obtain ⟨lx, hlx⟩ := K.lit x hx
  rcases find_list K hEn hs hx with ⟨h1, h2, h3⟩ | ⟨j, y, u, h1, h2, h3, h4, h5⟩
  · refine ⟨setBlock w b (.map (es.push ⟨kv x, d.val cs, clock⟩) (clock + 1)), ?_, ⟨_, _, heap_setBlock_same hb _, ?_, stamped_push hs h3⟩, grown_setBlock hb, fun E hE' => same_setBlock hb hE', by simp [setBlock]⟩
    · simp [Instr.mapUpdate, run_underlying ht, MapKept.run_getObj_map hb, K.law.check w false hlx, h1, MapKept.run_setObj_map _ hb, Result.andThen, setBlock]
    · rw [aput_none_of h2, Array.toList_push]
      have hsm := same_setBlock (w := w) (es' := es.push ⟨kv x, d.val cs, clock⟩) (c' := clock + 1) hb hE
      exact (hEn.mov hsm).append ⟨_, [], rfl, ⟨rfl, hx, cs, rfl, d.mov hsm hv⟩, rfl⟩
  · have hkeyf : ∀ e', es[j]? = some e' → ({ e' with key := kv x, val := d.val cs } : MapEntry).key = e'.key := fun e' he' => by rw [h2] at he'; cases he'; exact h3.symm
    have hlist : (es.modify j (fun e' => { e' with key := kv x, val := d.val cs })).toList = es.toList.set j { y with key := kv x, val := d.val cs } := by rw [Array.toList_modify, ChangeMaps.modify_eq_set _ _ _ _ (by simpa using h2)]
    refine ⟨setBlock w b (.map (es.modify j (fun e' => { e' with key := kv x, val := d.val cs })) clock), ?_, ⟨_, _, heap_setBlock_same hb _, ?_, stamped_modify hs _ _ (fun _ _ => rfl) (fun e' _ he' => hkeyf e' he')⟩, grown_setBlock hb, fun E hE' => same_setBlock hb hE', by simp [setBlock]⟩
    · simp [Instr.mapUpdate, run_underlying ht, MapKept.run_getObj_map hb, K.law.check w false hlx, h1, h2, h3, K.law.stays w hlx, MapKept.run_setObj_map _ hb, Result.andThen, setBlock]
    · rw [aput_at (hEn.nodup K hs.2.2) h4, hlist]
      have hsm := same_setBlock (w := w) (es' := es.modify j (fun e' => { e' with key := kv x, val := d.val cs })) (c' := clock) hb hE
      exact Ents.set (x := { y with key := kv x, val := d.val cs }) ⟨rfl, hx, cs, rfl, d.mov hsm hv⟩ (hEn.mov hsm) j

/-- delete(m, x). -/
theorem MapIs.drop (h : MapIs kv ok d w b l) (K : Keys P k kv ok) (ht : P.underlying t = some (.map k e)) (hE : d.E 1000 = false) {x : κ} (hx : ok x) (ty : TypeId) :
    ∃ w', (Builtin.delete_ #[t, k] ty #[.map (some b), kv x]).run P w = .ok (.tuple #[]) w' ∧ MapIs kv ok d w' b (adel x l) ∧ w.grownBy w' (some b) ∧ (∀ E : Nat → Bool, E 1000 = false → Same E w w') ∧ w'.heap.size = w.heap.size := by
  obtain ⟨es, clock, hb, hEn, hs⟩ := h
  obtain ⟨lx, hlx⟩ := K.lit x hx
  rcases find_list K hEn hs hx with ⟨h1, h2, h3⟩ | ⟨j, y, u, h1, h2, h3, h4, h5⟩
  · refine ⟨setBlock w b (.map es clock), ?_, ⟨_, _, heap_setBlock_same hb _, ?_, hs⟩, grown_setBlock hb, fun E hE' => same_setBlock hb hE', by simp [setBlock]⟩
    · simp [Builtin.delete_, run_underlying ht, MapKept.run_getObj_map hb, K.law.check w _ hlx, h1, MapKept.run_setObj_map _ hb, Result.andThen, setBlock]
    · rw [adel_none_of h2]
      exact hEn.mov (same_setBlock hb hE)
  · have hjs : j < es.size := (Array.getElem?_eq_some_iff.1 h2).1
    have hsub : (es.eraseIdxIfInBounds j).toList = es.toList.eraseIdx j := by
      unfold Array.eraseIdxIfInBounds
      rw [dif_pos hjs]
      simp
    refine ⟨setBlock w b (.map (es.eraseIdxIfInBounds j) clock), ?_, ⟨_, _, heap_setBlock_same hb _, ?_, stamped_erase hs j⟩, grown_setBlock hb, fun E hE' => same_setBlock hb hE', by simp [setBlock]⟩
    · simp [Builtin.delete_, run_underlying ht, MapKept.run_getObj_map hb, K.law.check w _ hlx, h1, MapKept.run_setObj_map _ hb, Result.andThen, setBlock]
    · rw [adel_at (hEn.nodup K hs.2.2) h4, hsub]
      exact (hEn.mov (same_setBlock hb hE)).erase j

omit [DecidableEq κ] in
theorem MapIs.len (h : MapIs kv ok d w b l) (ht : P.underlying t = some (.map k e)) (ty : TypeId) : (Builtin.len_ #[t] ty #[.map (some b)]).run P w = .ok (.int .i64 l.length) w := by
  obtain ⟨es, clock, hb, hEn, hs⟩ := h
  have := hEn.length
  simp at this
  simp [Builtin.len_, run_underlying ht, MapKept.run_getObj_map hb, Result.andThen, this, goInt]
end
end Go.Proofs.YtoncaejgflfhhaaGreatDoor
