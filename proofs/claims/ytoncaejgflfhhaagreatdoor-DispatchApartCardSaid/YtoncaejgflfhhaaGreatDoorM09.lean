/- The types of the program's maps: keys that are texts, numbers, and dispatch.key. -/
import Derived.Test.YtoncaejgflfhhaaGreatDoorM01
import Derived.Test.YtoncaejgflfhhaaGreatDoorProg
import Derived.DeepKeys5
import Derived.StringKeys
set_option linter.unusedVariables false
set_option linter.unusedSimpArgs false
namespace Go.Proofs.YtoncaejgflfhhaaGreatDoor
open Go.RowKit
open Go.Maps (Keyed)

def okStr (s : ByteArray) : Prop := s.size ≤ maxLen
theorem keysStr : Keys Tryz.prog 9 Value.string okStr where
  law := Maps.string_keyed Tryz.underlying9
  lit := fun _ h => ⟨_, Go.WideMaps.keyOf_string_mk Tryz.underlying9 h⟩
  inj := fun _ _ _ _ h => by cases h; rfl

theorem okInt_wf {n : Int} (h : Rp.okInt n) : (Lit.int .i64 n).wf = true := by
  have e1 : IntKind.i64.min = -9223372036854775808 := by decide
  have e2 : IntKind.i64.max = 9223372036854775807 := by decide
  unfold Rp.okInt at h
  simp [Lit.wf, e1, e2]
  omega
theorem keysInt : Keys Tryz.prog 3 (Value.int .i64) Rp.okInt where
  law := Maps.int_keyed Tryz.underlying3
  lit := fun _ h => ⟨_, Maps.keyOf_int_mk Tryz.underlying3 (okInt_wf h)⟩
  inj := fun _ _ _ _ h => by cases h; rfl

theorem keyCells_inj : ∀ {a b : Key}, keyCells a = keyCells b → a = b
  | [], [], _ => rfl
  | [], _ :: _, h => by simp [keyCells] at h
  | _ :: _, [], h => by simp [keyCells] at h
  | ⟨p, q, r⟩ :: a, ⟨p', q', r'⟩ :: b, h => by
    simp only [keyCells, List.cons.injEq, Value.int.injEq, Value.bool.injEq, Value.string.injEq, true_and] at h
    obtain ⟨rfl, rfl, rfl, h⟩ := h
    rw [keyCells_inj h]
theorem keyCells_length : ∀ k : Key, (keyCells k).length = k.length * 3
  | [] => rfl
  | _ :: r => by simp [keyCells, keyCells_length r, Nat.add_mul]

theorem key_row : (114 : TypeId) < Tryz.prog.types.size := of_decide_eq_true (by kernel_rfl)
theorem tryz_laid : laidOutB Tryz.prog = true := by kernel_rfl
theorem key_type : Tryz.prog.keyType 114 = true := by kernel_rfl
theorem types_small : Tryz.prog.types.size + 2 ≤ 10000 := of_decide_eq_true (by kernel_rfl)
theorem key_law : Keyed Tryz.prog 114 := Keyed.of_law (deep_law_gate tryz_laid types_small key_row key_type (by rw [Tryz.underlying114]))
theorem cells112 : Tryz.prog.cellsOf 112 = 3 := by kernel_rfl
theorem cells114 : Tryz.prog.cellsOf 114 = 24 := by kernel_rfl
theorem cells3 : Tryz.prog.cellsOf 3 = 1 := by kernel_rfl
theorem cells4 : Tryz.prog.cellsOf 4 = 1 := by kernel_rfl
theorem cells9 : Tryz.prog.cellsOf 9 = 1 := by kernel_rfl

theorem place_lits (D : Nat) (p : Place) (h1 : Rp.okInt p.cls) (h2 : p.obj.size ≤ maxLen) : ∃ l, Tryz.prog.keyLits (D + 2) 112 [.int .i64 p.cls, .bool p.told, .string p.obj] = some l := by
  refine ⟨[.int .i64 p.cls, .bool p.told, .string p.obj.data.toList], ?_⟩
  have := okInt_wf h1
  unfold Program.keyLits
  simp only [Tryz.underlying112, cells112]
  simp [Program.keyLits, Tryz.underlying3, Tryz.underlying4, Tryz.underlying9, cells3, cells4, cells9, this, h2, List.mapM_cons]

theorem types_size : ∃ D, Tryz.prog.types.size + 1 = D + 3 := ⟨Tryz.prog.types.size - 2, by have h : 114 < Tryz.prog.types.size := key_row; omega⟩

theorem key_drop : ∀ (k : Key) (i : Nat) (p : Place), k[i]? = some p → ((keyCells k).drop (i * 3)).take 3 = [.int .i64 p.cls, .bool p.told, .string p.obj]
  | [], _, _, h => by simp at h
  | q :: r, 0, p, h => by
    simp at h
    subst h
    simp [keyCells]
  | q :: r, i + 1, p, h => by
    have := key_drop r i p (by simpa using h)
    simpa [keyCells, Nat.add_mul] using this

theorem mapM_some {α β : Type} (f : α → Option β) : ∀ l : List α, (∀ x ∈ l, ∃ y, f x = some y) → ∃ r, l.mapM f = some r
  | [], _ => ⟨[], rfl⟩
  | x :: l, h => by
    obtain ⟨y, hy⟩ := h x (.head _)
    obtain ⟨r, hr⟩ := mapM_some f l fun z hz => h z (.tail _ hz)
    exact ⟨y :: r, by simp [List.mapM_cons, hy, hr]⟩

theorem keysKey : Keys Tryz.prog 114 keyVal okKey where
  law := key_law
  lit := fun k h => by
    obtain ⟨h8, hp⟩ := h
    obtain ⟨D, hD⟩ := types_size
    have hl : (keyCells k).length = 24 := by rw [keyCells_length, h8]
    have hf : (keyVal k).formed Tryz.prog 114 = true := by simp [keyVal, Value.formed, Tryz.underlying114, cells114, hl]
    unfold keyOf
    simp only [Tryz.underlying114, key_type, hf, Bool.and_self, if_true]
    rw [hD]
    unfold Program.keyLits
    simp only [Tryz.underlying114, cells114, cells112]
    rw [if_pos (by simp [keyVal, Value.cells, hl])]
    obtain ⟨r, hr⟩ := mapM_some (fun i => Tryz.prog.keyLits (D + 2) 112 (((keyVal k).cells.toList.drop (i * 3)).take 3)) (List.range 8) (fun i hi => by
      have hi' : i < k.length := by rw [h8]; exact List.mem_range.1 hi
      have hk := key_drop k i k[i] (by simp [hi'])
      simp only [keyVal, Value.cells]
      rw [hk]
      exact place_lits D _ (hp _ (List.getElem_mem _)).1 (hp _ (List.getElem_mem _)).2)
    rw [hr]
    exact ⟨_, rfl⟩
  inj := fun a b _ _ h => by
    simp only [keyVal, Value.agg.injEq] at h
    exact keyCells_inj (by simpa using congrArg Array.toList h)
end Go.Proofs.YtoncaejgflfhhaaGreatDoor
