/- dispatch.Find's closure: does an argument's class have no precedence? -/
import Derived.Test.YtoncaejgflfhhaaGreatDoorM16
set_option linter.unusedVariables false
set_option linter.unusedSimpArgs false
namespace Go.Proofs.YtoncaejgflfhhaaGreatDoor
open Go.RowKit

set_option maxHeartbeats 4000000 in
theorem find37 (s : CS) (cs : List Value) (x : Arg) (b : List Value) (w : World) (bx : Nat) (h : rCS.K w s cs) (hb : Box w bx 44 cs) (hlen : s.classes.length ≤ 100000) (hx : rArg.K w x b) :
    Calls Tryz.prog 37 #[rArg.val b, .pointer (some ⟨bx, 0, none⟩)] w fun e w' => e = .returned (.bool (decide ((orderS s x.cls).2 ≠ 0))) ∧ Below w.heap.size w w' := by
  obtain ⟨rfl, ho, hs⟩ := hx
  have H := Lib.hid (fun w' (hb : Below w.heap.size w w') => precedence38 s cs x.cls w' (K_below h hb) hlen ho)
  obtain ⟨u, l, rfl, hu, hl⟩ := id h
  rw [rCS_val] at H
  rw [rArg_val]
  have q0 := hb.cell 0 _ rfl
  have q1 := hb.cell 1 _ rfl
  have lt := hb.lt
  have hbl : Below w.heap.size w (w.alloc (.cells #[.int .i64 x.cls, .string x.obj] 52)) := below_one _ _
  have HB := Lib.hid hbl
  obtain ⟨A, k, rfl⟩ := slice_form hu
  obtain ⟨B, m, rfl⟩ := slice_form hl
  clear hu hl h hlen ho hs hb hbl
  obtain ⟨n, hn⟩ : ∃ n, n = (orderS s x.cls).2 := ⟨_, rfl⟩
  rw [← hn] at H ⊢
  clear hn
  go_enter Tryz.func37, Tryz.ntmps37
  go_wp2_with (first
    | (go_at_call 38; refine (H.out _ HB.out).mono ?_; rintro e w1 ⟨v, rfl, hO, hB⟩)
    | go_in)
  go_ret
  have e : (n != 0) = decide (n ≠ 0) := by rw [Bool.eq_iff_iff]; simp
  exact ⟨by rw [← e]; rfl, below_to HB.out hB⟩
end Go.Proofs.YtoncaejgflfhhaaGreatDoor
