/- The caches' maps in the program: maps.Clone, maps.DeleteFunc with Find's question, oldest. | maps.DeleteFunc with Find's question. -/
import Derived.Test.YtoncaejgflfhhaaGreatDoorM10
import Derived.Test.YtoncaejgflfhhaaGreatDoorM01
import Derived.Test.YtoncaejgflfhhaaGreatDoorM02
import Derived.Laws.Externs
set_option linter.unusedVariables false
set_option linter.unusedSimpArgs false
namespace Go.Proofs.YtoncaejgflfhhaaGreatDoor
open Go.RowKit

section
variable {P : Program} (w : World)
theorem run_equalIn_map_nil (d : Nat) (t k e : TypeId) (p : Option Nat) (h : P.underlying t = some (.map k e)) :
    (Op.equalIn (d + 1) t (.map p) (.map none)).run P w = .ok p.isNone w := by
  cases p <;> simp [Op.equalIn, run_underlying h]
theorem run_eql_map_nil (t k e : TypeId) (p : Option Nat) (h : P.underlying t = some (.map k e)) :
    (binOp .eql t (.map p) (.map none)).run P w = .ok (.bool p.isNone) w := by
  simp only [binOp]
  simp [show Op.equal t (.map p) (.map none) = Op.equalIn (9999 + 1) t (.map p) (.map none) from rfl, run_equalIn_map_nil w 9999 t k e p h]
theorem run_typeAssert_map (t xT k e : TypeId) (v : Value) (h : P.underlying t = some (.map k e)) : (Instr.typeAssert (.iface t v) xT t false).run P w = .ok v w := by
  simp [Instr.typeAssert, run_underlying h, go_sem, Result.andThen]
theorem run_maps_clone {r : Nat} {es : Array MapEntry} {clock : Nat} (t : TypeId) (hb : w.heap[r]? = some (.map es clock)) :
    (Extern.MapsClone.clone #[.iface t (.map (some r))]).run P w = .ok (.iface t (.map (some w.heap.size))) (w.alloc (.map es clock)) := by
  have e : Extern.MapsClone.clone #[.iface t (.map (some r))] = (getObj r >>= fun o => match o with
      | .map entries clock => (newObj (.map entries clock) >>= fun n => pure (.iface t (.map (some n))))
      | _ => stuck "maps.clone: a map expected") := rfl
  rw [e]
  simp [MapKept.run_getObj_map hb, Result.andThen, go_sem]
end

theorem MapIs.cloned {κ β : Type} {kv : κ → Value} {ok : κ → Prop} {d : Rp β} {w : World} {b : Nat} {l : List (κ × β)} {es : Array MapEntry} {clock : Nat} (hb : w.heap[b]? = some (.map es clock)) (h : MapIs kv ok d w b l) : MapIs kv ok d (w.alloc (.map es clock)) w.heap.size l := by
  obtain ⟨es', clock', h1, h2, h3⟩ := h
  rw [hb] at h1
  cases h1
  exact ⟨es, clock, (MapKept.heap_alloc w _).1, h2.mov (Same.alloc w _), h3⟩

set_option maxHeartbeats 1000000 in
set_option maxRecDepth 100000 in
theorem clone40 (l : List (Key × Ent)) (v : Value) (w : World) (h : rMap.K w l [v]) :
    Calls Tryz.prog 40 #[v] w fun e w' => ∃ v', e = .returned v' ∧ ((l = [] ∧ v' = .map none) ∨ ∃ b, v' = .map (some b) ∧ w.heap.size ≤ b ∧ CacheIs w' b l) ∧ Below w.heap.size w w' := by
  rcases rMap_iff.1 h with ⟨rfl, rfl⟩ | ⟨r, rfl, hM⟩
  · have hq := fun w => run_eql_map_nil (P := Tryz.prog) w 119 _ _ none Tryz.underlying119
    clear h
    go_enter Tryz.func40, Tryz.ntmps40
    go_wp2
    go_ret
    exact ⟨_, rfl, .inl ⟨trivial, rfl⟩, Below.refl _ _⟩
  · obtain ⟨es, clock, hb, _⟩ := id hM
    have hq := fun w => run_eql_map_nil (P := Tryz.prog) w 119 _ _ (some r) Tryz.underlying119
    clear h
    go_enter Tryz.func40, Tryz.ntmps40
    go_wp2
    rw [run_callFunc_extern Tryz.func87 (by kernel_rfl) (by kernel_rfl) (by kernel_rfl) (e := Extern.MapsClone.clone) (by kernel_rfl), run_maps_clone w 119 hb]
    simp only [Result.andThen]
    rw [Oper.upon_value]
    go_wp2
    rw [run_typeAssert_map _ 119 20 _ _ _ Tryz.underlying119]
    simp only [Result.andThen]
    rw [Oper.upon_value]
    go_wp2
    go_ret
    exact ⟨_, rfl, .inr ⟨_, rfl, Nat.le_refl _, hM.cloned hb⟩, below_one _ _⟩
end Go.Proofs.YtoncaejgflfhhaaGreatDoor
namespace Go.Proofs.YtoncaejgflfhhaaGreatDoor
open Go.RowKit

theorem siz114 : (Tryz.prog.info? 114).map (·.size) = some 24 := by kernel_rfl
theorem siz117 : (Tryz.prog.info? 117).map (·.size) = some 7 := by kernel_rfl
theorem siz48 : (Tryz.prog.info? 48).map (·.size) = some 5 := by kernel_rfl

theorem entK_form {w : World} {x : Ent} {cs : List Value} (h : rEnt.K w x cs) : ∃ a b c d, cs = [a, b, c, d, .string x.plan.op, .int .i64 x.stamp, .int .i64 x.used] ∧ sInt.K w x.plan.ar [a] ∧ sInt.K w x.plan.be [b] ∧ sInt.K w x.plan.pr [c] ∧ sInt.K w x.plan.af [d] := by
  obtain ⟨p, rfl, ⟨a, b, c, d, rfl, h1, h2, h3, h4, _⟩, _⟩ := h
  exact ⟨a, b, c, d, rfl, h1, h2, h3, h4⟩

theorem enters42 : Enters 42 := fun args w => by kernel_rfl
/-- Find's question of an entry: is it of other classes? -/
theorem stale42 (k : Key) (x : Ent) (cs : List Value) (b : Nat) (now : Int) (w : World) (h : rEnt.K w x cs) (hb : w.cell? ⟨b, 0, none⟩ = some (.int .i64 now)) :
    Calls Tryz.prog 42 #[keyVal k, rEnt.val cs, .pointer (some ⟨b, 0, none⟩)] w (RV (.bool (x.stamp != now)) w) := by
  obtain ⟨c0, c1, c2, c3, rfl, _⟩ := entK_form h
  rw [rEnt_val]
  have hlt := World.block_lt_of_cell? w _ hb
  obtain ⟨kc, hk⟩ : ∃ kc, kc = (keyCells k).toArray := ⟨_, rfl⟩
  unfold keyVal
  rw [← hk]
  clear h hk
  go_enter Tryz.func42, Tryz.ntmps42
  go_wp2
  go_ret
  exact ⟨rfl, below_more (below_one _ _) _⟩

/-- The entries that the classes still are. -/
def fresh (now : Int) (l : List (Key × Ent)) : List (Key × Ent) := l.filter fun p => !(p.2.stamp != now)

/-- What the round has left: those that are kept, or still to come. -/
def toGo {κ β : Type} [DecidableEq κ] (keep : κ × β → Bool) (l rest : List (κ × β)) : List (κ × β) := l.filter fun p => keep p || rest.any fun q => decide (q.1 = p.1)
section
variable {κ β : Type} [DecidableEq κ] {keep : κ × β → Bool} {l rest : List (κ × β)}
theorem toGo_all : toGo keep l l = l := by
  unfold toGo
  refine List.filter_eq_self.2 fun p hp => ?_
  rw [Bool.or_eq_true]
  exact .inr (List.any_eq_true.2 ⟨p, hp, by simp⟩)
theorem toGo_none : toGo keep l [] = l.filter keep := by
  unfold toGo
  simp
theorem any_erase {x : κ} {y : β} {i : Nat} (hn : (rest.map (·.1)).Nodup) (hi : rest[i]? = some (x, y)) (z : κ) : (rest.eraseIdx i).any (fun q => decide (q.1 = z)) = (rest.any (fun q => decide (q.1 = z)) && !decide (z = x)) := by
  rw [← adel_at hn hi]
  unfold adel
  rw [List.any_filter]
  by_cases hzx : z = x
  · subst hzx
    have e1 : (fun a : κ × β => !decide (a.1 = z) && decide (a.1 = z)) = fun _ => false := by
      funext a
      cases decide (a.1 = z) <;> rfl
    simp only [e1, decide_true, Bool.not_true, Bool.and_false]
    rw [List.any_eq_false]
    simp
  · have e1 : (fun a : κ × β => !decide (a.1 = x) && decide (a.1 = z)) = fun a => decide (a.1 = z) := by
      funext a
      by_cases ha : a.1 = z
      · simp [ha, hzx]
      · simp [ha]
    simp only [e1, decide_eq_false hzx, Bool.not_false, Bool.and_true]
theorem toGo_keep {x : κ} {y : β} {i : Nat} (hnl : (l.map (·.1)).Nodup) (hn : (rest.map (·.1)).Nodup) (hl : (x, y) ∈ l) (hi : rest[i]? = some (x, y)) (hk : keep (x, y) = true) : toGo keep l rest = toGo keep l (rest.eraseIdx i) := by
  unfold toGo
  refine List.filter_congr fun p hp => ?_
  rw [any_erase hn hi]
  by_cases hpx : p.1 = x
  · have : p = (x, y) := by
      obtain ⟨a, ha⟩ := List.getElem?_of_mem hp
      obtain ⟨b, hb⟩ := List.getElem?_of_mem hl
      have e1 := aget_at hnl (x := p.1) (v := p.2) ha
      have e2 := aget_at hnl hb
      rw [hpx, e2] at e1
      cases e1
      rw [← hpx]
    rw [this, hk]
    simp
  · simp [hpx]
theorem toGo_drop {x : κ} {y : β} {i : Nat} (hnl : (l.map (·.1)).Nodup) (hn : (rest.map (·.1)).Nodup) (hl : (x, y) ∈ l) (hi : rest[i]? = some (x, y)) (hk : keep (x, y) = false) : adel x (toGo keep l rest) = toGo keep l (rest.eraseIdx i) := by
  unfold toGo adel
  rw [List.filter_filter]
  refine List.filter_congr fun p hp => ?_
  rw [any_erase hn hi]
  by_cases hpx : p.1 = x
  · have : p = (x, y) := by
      obtain ⟨a, ha⟩ := List.getElem?_of_mem hp
      obtain ⟨b, hb⟩ := List.getElem?_of_mem hl
      have e1 := aget_at hnl (x := p.1) (v := p.2) ha
      have e2 := aget_at hnl hb
      rw [hpx, e2] at e1
      cases e1
      rw [← hpx]
    rw [this, hk]
    simp
  · simp [hpx]
theorem adel_erase {x : κ} {y : β} {i : Nat} (hn : (rest.map (·.1)).Nodup) (hi : rest[i]? = some (x, y)) : adel x (rest.eraseIdx i) = rest.eraseIdx i := by
  rw [← adel_at hn hi]
  unfold adel
  rw [List.filter_filter]
  simp
end
end Go.Proofs.YtoncaejgflfhhaaGreatDoor
