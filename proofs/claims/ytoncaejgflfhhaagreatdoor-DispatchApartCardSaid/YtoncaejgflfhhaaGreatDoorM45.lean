/- The laws' Step, and long. -/
import Derived.Test.YtoncaejgflfhhaaGreatDoorM44
set_option linter.unusedVariables false
set_option linter.unusedSimpArgs false
namespace Go.Proofs.YtoncaejgflfhhaaGreatDoor
open Go.RowKit

structure Step where
  kind : Int
  gen : Int
  cname : Int
  supers : List Int
  slots : List Int
  odd : Int
  made : Given
  args : List (Int × Int)
  flush : Int
abbrev sPair : Rp (List (Int × Int)) := Rp.slice none rPair
def rStep : Rp Step where
  agg := true
  sz := 12
  E := fun _ => true
  K := fun w x cs => ∃ a b q s o r, cs = [.int .u8 x.kind, .int .u8 x.gen, .int .u8 x.cname, a, b, .int .u8 x.odd, q, s, o, .int .i64 x.made.fn, r, .int .i64 x.flush] ∧ okByte x.kind ∧ okByte x.gen ∧ sByte.K w x.supers [a] ∧ sByte.K w x.slots [b] ∧ rGiven.K w x.made [q, s, o, .int .i64 x.made.fn] ∧ sPair.K w x.args [r] ∧ Rp.okInt x.flush
  len := by rintro w x cs ⟨a, b, q, s, o, r, rfl, _⟩; rfl
  one := by
    rintro w x cs ⟨a, b, q, s, o, r, rfl, _, _, h1, h2, h3, h4, _⟩ u hu
    simp at hu
    have h5 := rGiven.one h3
    rcases hu with rfl | rfl | rfl | rfl | rfl | rfl | rfl | rfl | rfl | rfl | rfl | rfl
    all_goals first | rfl | exact slice_one h1 | exact slice_one h2 | exact slice_one h4 | (exact h5 _ (by simp))
  mov := by
    rintro w w' x cs hs ⟨a, b, q, s, o, r, rfl, h1, h2, h3, h4, h5, h6, h7⟩
    have hm : ∀ F : Nat → Bool, Same F w w' := fun F => hs.imp fun t _ => rfl
    exact ⟨a, b, q, s, o, r, rfl, h1, h2, sByte.mov (hm _) h3, sByte.mov (hm _) h4, rGiven.mov (hm _) h5, sPair.mov (hm _) h6, h7⟩
abbrev sStep : Rp (List Step) := Rp.slice none rStep
def tooLong (s : Step) : Bool := decide (6 < s.supers.length) || decide (8 < s.slots.length) || decide (3 < s.made.quals.length) || decide (9 < s.made.specs.length) || decide (6 < s.args.length)
def longS (l : List Step) : Bool := decide (40 < l.length) || l.any tooLong

set_option maxHeartbeats 1000000 in
set_option maxRecDepth 100000 in
theorem long8 (l : List Step) (v : Value) (w : World) (h : sStep.K w l [v]) : Calls Tryz.prog 8 #[v] w (RV (.bool (longS l)) w) := by
  obtain ⟨A, c, hv, _, hml, _, hr⟩ := h
  cases hv
  have HR := Lib.hid hr
  clear hr
  go_enter Tryz.func8, Tryz.ntmps8
  by_cases h40 : 40 < l.length
  · have h40' : (40 : Int) < l.length := by omega
    have he : longS l = true := by unfold longS; rw [decide_eq_true h40]; rfl
    rw [he]
    go_wp2
    exact bodyPost_ret (v := .bool true) (by simp [results, Tryz.results8, go_sem]) rfl ⟨rfl, Below.refl _ _⟩
  · have h40' : ¬ (40 : Int) < l.length := by omega
    have he : longS l = l.any tooLong := by unfold longS; rw [decide_eq_false h40]; rfl
    rw [he]
    go_wp2
    go_loopw [10] (fun vi wr => ∃ j : Nat, j ≤ l.length ∧ vi = .int .i64 j ∧ (l.take j).any tooLong = false ∧ Below w.heap.size w wr) (fun vi _ => l.length - (intOf vi).toNat)
    case atStart => exact ⟨0, Nat.zero_le _, rfl, rfl, Below.refl _ _⟩
    case round =>
      obtain ⟨j, hj, rfl, hno, hB⟩ := hrel
      by_cases hlt : j < l.length
      · obtain ⟨x, hx, _⟩ := some_at hlt
        obtain ⟨b, off, cs, hA, hbl, hk, hcell⟩ := Rp.Row_at (Rp.Row_mov (Same.of_below hB) HR.out) hx
        subst hA
        obtain ⟨a1, a2, q, s, o, r, rfl, k1, k2, k3, k4, ⟨q', s', o', hg, k5, k6, k7, k8⟩, k9, k10⟩ := hk
        cases hg
        obtain ⟨A1, n1, rfl⟩ := slice_form k3
        obtain ⟨A2, n2, rfl⟩ := slice_form k4
        obtain ⟨A3, n3, rfl⟩ := slice_form k5
        obtain ⟨A4, n4, rfl⟩ := slice_form k6
        obtain ⟨A5, n5, rfl⟩ := slice_form k7
        obtain ⟨A6, n6, rfl⟩ := slice_form k9
        have c0 : wr.cell? ⟨b, off + j * 12, none⟩ = some (.int .u8 x.kind) := hcell 0 _ rfl
        have c1 : wr.cell? ⟨b, off + j * 12 + 1, none⟩ = some (.int .u8 x.gen) := hcell 1 _ rfl
        have c2 : wr.cell? ⟨b, off + j * 12 + 2, none⟩ = some (.int .u8 x.cname) := hcell 2 _ rfl
        have c3 : wr.cell? ⟨b, off + j * 12 + 3, none⟩ = some (.slice A1 x.supers.length n1) := hcell 3 _ rfl
        have c4 : wr.cell? ⟨b, off + j * 12 + 4, none⟩ = some (.slice A2 x.slots.length n2) := hcell 4 _ rfl
        have c5 : wr.cell? ⟨b, off + j * 12 + 5, none⟩ = some (.int .u8 x.odd) := hcell 5 _ rfl
        have c6 : wr.cell? ⟨b, off + j * 12 + 6, none⟩ = some (.slice A3 x.made.quals.length n3) := hcell 6 _ rfl
        have c7 : wr.cell? ⟨b, off + j * 12 + 7, none⟩ = some (.slice A4 x.made.specs.length n4) := hcell 7 _ rfl
        have c8 : wr.cell? ⟨b, off + j * 12 + 8, none⟩ = some (.slice A5 x.made.objs.length n5) := hcell 8 _ rfl
        have c9 : wr.cell? ⟨b, off + j * 12 + 9, none⟩ = some (.int .i64 x.made.fn) := hcell 9 _ rfl
        have c10 : wr.cell? ⟨b, off + j * 12 + 10, none⟩ = some (.slice A6 x.args.length n6) := hcell 10 _ rfl
        have c11 : wr.cell? ⟨b, off + j * 12 + 11, none⟩ = some (.int .i64 x.flush) := hcell 11 _ rfl
        clear hcell k3 k4 k5 k6 k7 k9
        by_cases t0 : (6 : Int) < x.supers.length
        · have HT : Hid (l.any tooLong = true) := Lib.hid (List.any_eq_true.2 ⟨x, List.mem_of_getElem? hx, by unfold tooLong; rw [show decide (6 < x.supers.length) = true from decide_eq_true (by omega)]; simp⟩)
          clear hx
          go_wp2
          exact bodyPost_ret (v := .bool true) (by simp [results, Tryz.results8, go_sem]) rfl ⟨by rw [HT.out], below_more hB _⟩
        by_cases t1 : (8 : Int) < x.slots.length
        · have HT : Hid (l.any tooLong = true) := Lib.hid (List.any_eq_true.2 ⟨x, List.mem_of_getElem? hx, by unfold tooLong; rw [show decide (8 < x.slots.length) = true from decide_eq_true (by omega)]; simp⟩)
          clear hx
          go_wp2
          exact bodyPost_ret (v := .bool true) (by simp [results, Tryz.results8, go_sem]) rfl ⟨by rw [HT.out], below_more hB _⟩
        by_cases t2 : (3 : Int) < x.made.quals.length
        · have HT : Hid (l.any tooLong = true) := Lib.hid (List.any_eq_true.2 ⟨x, List.mem_of_getElem? hx, by unfold tooLong; rw [show decide (3 < x.made.quals.length) = true from decide_eq_true (by omega)]; simp⟩)
          clear hx
          go_wp2
          exact bodyPost_ret (v := .bool true) (by simp [results, Tryz.results8, go_sem]) rfl ⟨by rw [HT.out], below_more hB _⟩
        by_cases t3 : (9 : Int) < x.made.specs.length
        · have HT : Hid (l.any tooLong = true) := Lib.hid (List.any_eq_true.2 ⟨x, List.mem_of_getElem? hx, by unfold tooLong; rw [show decide (9 < x.made.specs.length) = true from decide_eq_true (by omega)]; simp⟩)
          clear hx
          go_wp2
          exact bodyPost_ret (v := .bool true) (by simp [results, Tryz.results8, go_sem]) rfl ⟨by rw [HT.out], below_more hB _⟩
        by_cases t4 : (6 : Int) < x.args.length
        · have HT : Hid (l.any tooLong = true) := Lib.hid (List.any_eq_true.2 ⟨x, List.mem_of_getElem? hx, by unfold tooLong; rw [show decide (6 < x.args.length) = true from decide_eq_true (by omega)]; simp⟩)
          clear hx
          go_wp2
          exact bodyPost_ret (v := .bool true) (by simp [results, Tryz.results8, go_sem]) rfl ⟨by rw [HT.out], below_more hB _⟩
        have HT : Hid ((l.take (j + 1)).any tooLong = false) := Lib.hid (by
          rw [take_snoc_at hx, List.any_append, hno]
          have : tooLong x = false := by unfold tooLong; simp; omega
          simp [this])
        have HLT := Lib.hid hlt
        clear hx hno
        go_wp2
        go_roundw
        case rel => exact ⟨j + 1, HLT.out, by go_num, HT.out, below_more hB _⟩
        case measure => have := HLT.out; simp [intOf]; omega
      · have HT : Hid (l.any tooLong = false) := Lib.hid (by rw [show l.take j = l from List.take_of_length_le (by omega)] at hno; exact hno)
        clear hno
        go_wp2
        exact bodyPost_ret (v := .bool false) (by simp [results, Tryz.results8, go_sem]) rfl ⟨by rw [HT.out], hB⟩
end Go.Proofs.YtoncaejgflfhhaaGreatDoor
