/- The laws' own small functions: texts by numbers, arguments, methods. -/
import Derived.Test.YtoncaejgflfhhaaGreatDoorM24
set_option linter.unusedVariables false
set_option linter.unusedSimpArgs false
namespace Go.Proofs.YtoncaejgflfhhaaGreatDoor
open Go.RowKit

/-- A byte. -/
def okByte (n : Int) : Prop := 0 ≤ n ∧ n ≤ 255
def Rp.byte : Rp Int := Rp.scalar (Value.int .u8) okByte (fun _ => rfl)
@[go_sem] theorem byte_val (v : Value) : Rp.byte.val [v] = v := rfl
def objS (n : Int) : ByteArray := if n % 4 = 0 then ⟨#[]⟩ else if n % 4 = 1 then ⟨#[49]⟩ else if n % 4 = 2 then ⟨#[50]⟩ else ⟨#[65]⟩
def qualS (n : Int) (c : ByteArray) : ByteArray := if n % 5 = 0 then sBefore else if n % 5 = 1 then sAfter else if n % 5 = 2 then sAround else if n % 5 = 3 then c else ⟨#[79, 84, 72, 69, 82]⟩
theorem objS_size (n : Int) : (objS n).size ≤ maxLen := by
  unfold objS maxLen
  split
  · decide
  split
  · decide
  split <;> decide
theorem qualS_size (n : Int) {c : ByteArray} (h : c.size ≤ maxLen) : (qualS n c).size ≤ maxLen := by
  unfold qualS
  split
  · unfold maxLen; decide
  split
  · unfold maxLen; decide
  split
  · unfold maxLen; decide
  split
  · exact h
  · unfold maxLen; decide

set_option maxHeartbeats 4000000 in
theorem object44 (n : Int) (w : World) (h : okByte n) : Calls Tryz.prog 44 #[.int .u8 n] w (RV (.string (objS n)) w) := by
  obtain ⟨h0, h1⟩ := h
  have hc : n % 4 = 0 ∨ n % 4 = 1 ∨ n % 4 = 2 ∨ n % 4 = 3 := by omega
  rcases hc with e | e | e | e
  · have HE : Hid (objS n = ⟨#[]⟩) := Lib.hid (by simp [objS, e])
    go_enter Tryz.func44, Tryz.ntmps44
    go_wp2
    go_ret
    exact ⟨by rw [HE.out]; rfl, below_one _ _⟩
  · have HE : Hid (objS n = ⟨#[49]⟩) := Lib.hid (by simp [objS, e])
    go_enter Tryz.func44, Tryz.ntmps44
    go_wp2
    go_ret
    exact ⟨by rw [HE.out]; rfl, below_one _ _⟩
  · have HE : Hid (objS n = ⟨#[50]⟩) := Lib.hid (by simp [objS, e])
    go_enter Tryz.func44, Tryz.ntmps44
    go_wp2
    go_ret
    exact ⟨by rw [HE.out]; rfl, below_one _ _⟩
  · have HE : Hid (objS n = ⟨#[65]⟩) := Lib.hid (by simp [objS, e])
    go_enter Tryz.func44, Tryz.ntmps44
    go_wp2
    go_ret
    exact ⟨by rw [HE.out]; rfl, below_one _ _⟩
set_option maxHeartbeats 4000000 in
theorem qualifier47 (n : Int) (c : ByteArray) (w : World) (h : okByte n) : Calls Tryz.prog 47 #[.int .u8 n, .string c] w (RV (.string (qualS n c)) w) := by
  obtain ⟨h0, h1⟩ := h
  have hc : n % 5 = 0 ∨ n % 5 = 1 ∨ n % 5 = 2 ∨ n % 5 = 3 ∨ n % 5 = 4 := by omega
  rcases hc with e | e | e | e | e
  · have HE : Hid (qualS n c = sBefore) := Lib.hid (by simp [qualS, e])
    go_enter Tryz.func47, Tryz.ntmps47
    go_wp2
    go_ret
    exact ⟨by rw [HE.out]; rfl, below_one _ _⟩
  · have HE : Hid (qualS n c = sAfter) := Lib.hid (by simp [qualS, e])
    go_enter Tryz.func47, Tryz.ntmps47
    go_wp2
    go_ret
    exact ⟨by rw [HE.out]; rfl, below_one _ _⟩
  · have HE : Hid (qualS n c = sAround) := Lib.hid (by simp [qualS, e])
    go_enter Tryz.func47, Tryz.ntmps47
    go_wp2
    go_ret
    exact ⟨by rw [HE.out]; rfl, below_one _ _⟩
  · have HE : Hid (qualS n c = c) := Lib.hid (by simp [qualS, e])
    go_enter Tryz.func47, Tryz.ntmps47
    go_wp2
    go_ret
    exact ⟨by rw [HE.out]; rfl, below_one _ _⟩
  · have HE : Hid (qualS n c = ⟨#[79, 84, 72, 69, 82]⟩) := Lib.hid (by simp [qualS, e])
    go_enter Tryz.func47, Tryz.ntmps47
    go_wp2
    go_ret
    exact ⟨by rw [HE.out]; rfl, below_one _ _⟩

set_option maxHeartbeats 4000000 in
theorem spec89 (sp : Spec) (cs : List Value) (w : World) (h : rSpec.K w sp cs) : Calls Tryz.prog 89 #[rSpec.val cs] w (R1 rSpec sp w) := by
  obtain ⟨rfl, h1, h2⟩ := h
  rw [rSpec_val]
  go_enter Tryz.func89, Tryz.ntmps89
  go_wp2
  refine bodyPost_ret (v := .agg #[.bool sp.eql, .int .i64 sp.cls, .string sp.obj]) (by simp [results, Tryz.results89, go_sem]) rfl ⟨[.bool sp.eql, .int .i64 sp.cls, .string sp.obj], rfl, ⟨rfl, h1, h2⟩, ?_⟩
  first
    | exact below_more (below_one _ _) _
    | exact below_set (below_set (below_set (below_more (below_one _ _) _) (by simp) _) (by simp) _) (by simp) _
end Go.Proofs.YtoncaejgflfhhaaGreatDoor
