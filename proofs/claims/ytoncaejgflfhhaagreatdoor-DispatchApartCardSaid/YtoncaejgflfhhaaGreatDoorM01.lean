/- Ranging over a map (in whatever order), and the laws of Bm and of this text at the operations. No program here. | More words on boxes and rows: several cells at once, a row beside a row that grows, whole blocks loaded and stored. No program here. | dispatch's stamp of the classes. -/
import Derived.Test.YtoncaejgflfhhaaGreatDoorM00
import Derived.OwnWalk
import Derived.Deep.MidRow
import Derived.Test.YtoncaejgflfhhaaGreatDoorProg
import Derived.WalkSpells
set_option linter.unusedVariables false
set_option linter.unusedSimpArgs false
namespace Go.Proofs.YtoncaejgflfhhaaGreatDoor
open Go.RowKit Go.MapKept
open Go.ChangeMaps (setBlock heap_setBlock_same heap_setBlock_other)

section
variable {κ β : Type} {kv : κ → Value} {ok : κ → Prop} {d : Rp β} {P : Program} {k e t : TypeId} {w w' : World} {b r : Nat} {l rest : List (κ × β)}

theorem Ents.filter {f : κ × β → Bool} {g : MapEntry → Bool} (hfg : ∀ p x, EntIs kv ok d w p x → f p = g x) : ∀ {l : List (κ × β)} {es : List MapEntry}, Ents kv ok d w l es → Ents kv ok d w (l.filter f) (es.filter g)
  | [], _, h => by rw [show _ = [] from h]; rfl
  | p :: _, _, ⟨x, es', h, he, hr⟩ => by
    subst h
    rw [List.filter_cons, List.filter_cons, hfg p x he]
    split
    · exact ⟨x, _, rfl, he, Ents.filter hfg hr⟩
    · exact Ents.filter hfg hr

/-- Block r is an iterator over the map at b, which reads as l; rest is still to come. -/
def Ranging (kv : κ → Value) (ok : κ → Prop) (d : Rp β) (w : World) (r b : Nat) (l rest : List (κ × β)) : Prop :=
  ∃ es clock since seen c0, w.heap[b]? = some (.map es clock) ∧ Ents kv ok d w l es.toList ∧ Stamped es clock ∧ w.heap[r]? = some (.mapIter (some b) since seen c0) ∧
    (∀ x ∈ es.toList, x.born < since) ∧ since ≤ c0 ∧ since ≤ clock ∧ Ents kv ok d w rest (leftOf es seen).toList

theorem Ranging.map (h : Ranging kv ok d w r b l rest) : MapIs kv ok d w b l := by
  obtain ⟨es, clock, since, seen, c0, h1, h2, h3, _⟩ := h
  exact ⟨es, clock, h1, h2, h3⟩
theorem Ranging.ne (h : Ranging kv ok d w r b l rest) : r ≠ b := by
  obtain ⟨es, clock, since, seen, c0, h1, h2, h3, h4, _⟩ := h
  rintro rfl
  rw [h1] at h4
  cases h4
theorem Ranging.lt (h : Ranging kv ok d w r b l rest) : r < w.heap.size := by
  obtain ⟨es, clock, since, seen, c0, h1, h2, h3, h4, _⟩ := h
  exact heap_lt h4
theorem Ranging.left (h : Ranging kv ok d w r b l rest) : w.rangeLeft b r = rest.length := by
  obtain ⟨es, clock, since, seen, c0, h1, _, _, h4, _, _, _, h8⟩ := h
  simp only [World.rangeLeft, h1, h4]
  have := h8.length
  simpa using this
theorem Ranging.mov (hs : Same d.E w w') (hb : w'.heap[b]? = w.heap[b]?) (hr : w'.heap[r]? = w.heap[r]?) : Ranging kv ok d w r b l rest → Ranging kv ok d w' r b l rest
  | ⟨es, clock, since, seen, c0, h1, h2, h3, h4, h5, h6, h7, h8⟩ => ⟨es, clock, since, seen, c0, hb.trans h1, h2.mov hs, h3, hr.trans h4, h5, h6, h7, h8.mov hs⟩
theorem Ranging.below (hb : Below w.heap.size w w') (h : Ranging kv ok d w r b l rest) : Ranging kv ok d w' r b l rest := h.mov (Same.of_below hb) (hb.block b h.map.lt) (hb.block r h.lt)

theorem leftOf_toList (es : Array MapEntry) (seen : Array Nat) : (leftOf es seen).toList = es.toList.filter fun e => !seen.contains e.born := by
  unfold leftOf
  rw [Array.toList_filter]

/-- range m. -/
theorem MapIs.range (h : MapIs kv ok d w b l) (ht : P.underlying t = some (.map k e)) :
    ∃ w', (Instr.range t (.map (some b))).run P w = .ok (.pointer (some ⟨w.heap.size, 0, none⟩)) w' ∧ Ranging kv ok d w' w.heap.size b l l ∧ (∃ o, w' = w.alloc o ∧ otag o = 1001) := by
  obtain ⟨es, clock, hb, hE, hs⟩ := h
  refine ⟨_, run_range_map w t k e b es clock ht hb, ⟨es, clock, clock, #[], clock, ((MapKept.heap_alloc w _).2 b (heap_lt hb)).trans hb, hE.mov (Same.alloc w _), hs, (MapKept.heap_alloc w _).1, hs.1, Nat.le_refl _, Nat.le_refl _, ?_⟩, _, rfl, rfl⟩
  rw [leftOf_toList, List.filter_eq_self.2 (by simp)]
  exact hE.mov (Same.alloc w _)

/-- The step: nothing is left, or one of those that are, whichever. -/
theorem Ranging.step (h : Ranging kv ok d w r b l rest) (hE1 : d.E 1001 = false) (ty : TypeId) :
    (rest = [] ∧ (Instr.next (.pointer (some ⟨r, 0, none⟩)) false ty).run P w = .ok (.tuple #[.bool false]) w) ∨
    ∃ (i : Nat) (p : κ × β) (cs : List Value) (w' : World), rest[i]? = some p ∧ ok p.1 ∧ d.K w' p.2 cs ∧ (Instr.next (.pointer (some ⟨r, 0, none⟩)) false ty).run P w = .ok (.tuple #[.bool true, kv p.1, d.val cs]) w' ∧
      Ranging kv ok d w' r b l (rest.eraseIdx i) ∧ w.grownBy w' (some r) ∧ (∀ E : Nat → Bool, E 1001 = false → Same E w w') ∧ w'.heap.size = w.heap.size ∧ (Instr.entry (.pointer (some ⟨r, 0, none⟩))).run P w' = .ok (.tuple #[kv p.1, d.val cs]) w' := by
  have hne := h.ne
  obtain ⟨es, clock, since, seen, c0, hb, hEn, hs, hr, hold, hsc, hsk, hl⟩ := h
  rcases run_next_at (P := P) w ty r b since c0 seen es clock hr hb hold hsc with ⟨h0, hrun⟩ | ⟨x, hx, w1, hal, hrun⟩
  · refine .inl ⟨?_, hrun⟩
    have := hl.length
    simp [h0] at this
    exact List.eq_nil_of_length_eq_zero this.symm
  · obtain ⟨hxm, hxs⟩ := mem_left hx
    obtain ⟨i, hi⟩ := List.getElem?_of_mem hx
    obtain ⟨p, hp, hpe⟩ := hl.get i x hi
    have hr1 : w1.heap[r]? = some (.mapIter (some b) since seen c0) := by rcases hal with rfl | rfl <;> exact hr
    have hb1 : w1.heap[b]? = some (.map es clock) := by rcases hal with rfl | rfl <;> exact hb
    have hset := heap_set (o' := .mapIter (some b) since (seen.push x.born) clock) hr1
    have hb' : (setBlock w1 r (.mapIter (some b) since (seen.push x.born) clock)).heap[b]? = some (.map es clock) := (hset.2 b (fun e1 => hne e1.symm)).trans hb1
    have hsm : ∀ E : Nat → Bool, E 1001 = false → Same E w (setBlock w1 r (.mapIter (some b) since (seen.push x.born) clock)) := by
      intro E hE1 j o ho hj
      by_cases hjr : j = r
      · subst hjr
        rw [hr] at hj
        cases hj
        simp [otag, hE1] at ho
      · refine (hset.2 j hjr).trans ?_
        rcases hal with rfl | rfl <;> exact hj
    obtain ⟨hk, hok, cs, hv, hK⟩ := hpe
    have hnl : ((leftOf es seen).toList.map (·.born)).Nodup := by
      rw [leftOf_toList]
      exact ((List.filter_sublist).map _).nodup hs.2.1
    refine .inr ⟨i, p, cs, _, hp, hok, d.mov (hsm _ hE1) hK, by rw [← hk, ← hv]; exact hrun, ⟨es, clock, since, seen.push x.born, clock, hb', hEn.mov (hsm _ hE1), hs, hset.1, hold, hsk, hsk, ?_⟩, ?_, hsm, ?_, ?_⟩
    · have e1 : (leftOf es (seen.push x.born)).toList = (leftOf es seen).toList.eraseIdx i := by
        rw [← ChangeMaps.filter_eq_eraseIdx (fun y : MapEntry => y.born == x.born) (leftOf es seen).toList i x hi (by simp), leftOf_toList, leftOf_toList, List.filter_filter]
        · refine List.filter_congr fun y _ => ?_
          rw [contains_push]
          cases seen.contains y.born <;> cases (y.born == x.born) <;> rfl
        · have hn := List.pairwise_map.1 hnl
          refine hn.imp fun {a c} hne' hac => hne' ?_
          simp only [beq_iff_eq] at hac
          rw [hac.1, hac.2]
      rw [e1]
      exact (hl.mov (hsm _ hE1)).erase i
    · rcases hal with rfl | rfl <;> exact ⟨rfl, rfl, rfl, by simp [setBlock], fun j _ hj => hset.2 j (fun e1 => hj (by rw [e1]))⟩
    · rcases hal with rfl | rfl <;> simp [setBlock]
    · rw [← hk, ← hv]
      exact run_entry_at _ r b since seen es clock x hset.1 hb' hxm hs.2.1

section
variable [DecidableEq κ]
/-- delete(m, x) in the round. -/
theorem Ranging.drop (h : Ranging kv ok d w r b l rest) (K : Keys P k kv ok) (ht : P.underlying t = some (.map k e)) (hE : d.E 1000 = false) {x : κ} (hx : ok x) (ty : TypeId) :
    ∃ w', (Builtin.delete_ #[t, k] ty #[.map (some b), kv x]).run P w = .ok (.tuple #[]) w' ∧ Ranging kv ok d w' r b (adel x l) (adel x rest) ∧ w.grownBy w' (some b) ∧ (∀ E : Nat → Bool, E 1000 = false → Same E w w') ∧ w'.heap.size = w.heap.size := by
  have hne := h.ne
  obtain ⟨es, clock, since, seen, c0, hb, hEn, hs, hr, hold, hsc, hsk, hl⟩ := h
  obtain ⟨lx, hlx⟩ := K.lit x hx
  rcases find_list K hEn hs hx with ⟨h1, h2, h3⟩ | ⟨j, y, u, h1, h2, h3, h4, h5⟩
  · have hsm := fun (E : Nat → Bool) (hE' : E 1000 = false) => same_setBlock (w := w) (E := E) (es' := es) (c' := clock) hb hE'
    refine ⟨setBlock w b (.map es clock), ?_, ⟨es, clock, since, seen, c0, heap_setBlock_same hb _, ?_, hs, (heap_setBlock_other hb _ hne).trans hr, hold, hsc, hsk, ?_⟩, grown_setBlock hb, hsm, by simp [setBlock]⟩
    · simp [Builtin.delete_, run_underlying ht, MapKept.run_getObj_map hb, K.law.check w _ hlx, h1, MapKept.run_setObj_map _ hb, Result.andThen, setBlock]
    · rw [adel_none_of h2]
      exact hEn.mov (hsm _ hE)
    · rw [adel_none_of]
      · exact hl.mov (hsm _ hE)
      · intro p hp hpx
        obtain ⟨i, hi⟩ := List.getElem?_of_mem hp
        obtain ⟨z, hz, hze⟩ := hl.at i p hi
        exact h3 z (mem_left (List.mem_of_getElem? hz)).1 (by rw [hze.1, hpx])
  · have hjs : j < es.size := (Array.getElem?_eq_some_iff.1 h2).1
    have hsub : (es.eraseIdxIfInBounds j).toList = es.toList.eraseIdx j := by
      unfold Array.eraseIdxIfInBounds
      rw [dif_pos hjs]
      simp
    have hsm := fun (E : Nat → Bool) (hE' : E 1000 = false) => same_setBlock (w := w) (E := E) (es' := es.eraseIdxIfInBounds j) (c' := clock) hb hE'
    refine ⟨setBlock w b (.map (es.eraseIdxIfInBounds j) clock), ?_, ⟨es.eraseIdxIfInBounds j, clock, since, seen, c0, heap_setBlock_same hb _, ?_, stamped_erase hs j, (heap_setBlock_other hb _ hne).trans hr, ?_, hsc, hsk, ?_⟩, grown_setBlock hb, hsm, by simp [setBlock]⟩
    · simp [Builtin.delete_, run_underlying ht, MapKept.run_getObj_map hb, K.law.check w _ hlx, h1, MapKept.run_setObj_map _ hb, Result.andThen, setBlock]
    · rw [adel_at (hEn.nodup K hs.2.2) h4, hsub]
      exact (hEn.mov (hsm _ hE)).erase j
    · intro z hz
      rw [hsub] at hz
      exact hold z ((List.eraseIdx_sublist _ _).subset hz)
    · have hst := (stamped_iff es clock).1 hs
      have e1 : (leftOf (es.eraseIdxIfInBounds j) seen).toList = (leftOf es seen).toList.filter fun z => !(z.born == y.born) := by
        rw [leftOf_toList, leftOf_toList, hsub, ← ChangeMaps.filter_eq_eraseIdx (fun z : MapEntry => z.born == y.born) es.toList j y (by simpa using h2) (by simp), List.filter_filter, List.filter_filter]
        · refine List.filter_congr fun z _ => ?_
          exact Bool.and_comm _ _
        · have hn := List.pairwise_map.1 hs.2.1
          refine hn.imp fun {a c} hne' hac => hne' ?_
          simp only [beq_iff_eq] at hac
          rw [hac.1, hac.2]
      rw [e1]
      have hym : y ∈ es.toList := List.mem_of_getElem? (by simpa using h2)
      have aux : ∀ (m : List (κ × β)) (fs : List MapEntry), (∀ z ∈ fs, z ∈ es.toList) → Ents kv ok d w m fs → Ents kv ok d w (adel x m) (fs.filter fun z => !(z.born == y.born)) := by
        intro m
        induction m with
        | nil => intro fs _ hm; rw [show fs = [] from hm]; rfl
        | cons p m ih =>
          rintro fs hmem ⟨z, fs', rfl, he, hr'⟩
          have ihh := ih fs' (fun z hz => hmem z (.tail _ hz)) hr'
          have hzm := hmem z (.head _)
          by_cases hpx : p.1 = x
          · have hzy : z = y := entry_eq_of_key hst.2.2 hzm hym (by rw [he.1, h3, hpx])
            simp only [adel, List.filter_cons, hpx, decide_true, Bool.not_true, hzy, beq_self_eq_true, Bool.false_eq_true, if_false] at ihh ⊢
            exact ihh
          · have hzy : (z.born == y.born) = false := by
              rw [beq_eq_false_iff_ne]
              intro hb'
              have := born_inj hs.2.1 hzm hym hb'
              subst this
              exact hpx (K.inj _ _ he.2.1 hx (by rw [← he.1, h3]))
            simp only [adel, List.filter_cons, hpx, decide_false, Bool.not_false, hzy, if_true] at ihh ⊢
            exact ⟨z, _, rfl, he, ihh⟩
      exact (aux rest _ (fun z hz => (mem_left hz).1) hl).mov (hsm _ hE)
end

/-! ### At the operations -/
section
variable [DecidableEq κ] (w : World) {ops : Array Oper} {tl : List Oper} {o : Oper} {a : Act} {Q : Exit → Act → World → Prop}

theorem wp_map_store (hg : o.guard = none) (m x v : Operand) (t : TypeId) (hop : o.op = Op.mapUpdate t m x v) (K : Keys P k kv ok) (ht : P.underlying t = some (.map k e)) (hE : d.E 1000 = false)
    (hm : a.eval m = .map (some b)) (h : MapIs kv ok d w b l) {X : κ} (hx : a.eval x = kv X) (hX : ok X) {y : β} {cs : List Value} (hv : a.eval v = d.val cs) (hK : d.K w y cs)
    (hgo : ∀ w', MapIs kv ok d w' b (aput X y l) → w.grownBy w' (some b) → (∀ E : Nat → Bool, E 1000 = false → Same E w w') → w'.heap.size = w.heap.size → wpList P ops Q tl (a.put o.dst undef) w') :
    wpList P ops Q (o :: tl) a w := by
  refine wpList_plain hg fun K' hK' => ?_
  obtain ⟨w', hrun, r1, r2, r3, r4⟩ := h.store K ht hE hX hK
  unfold Oper.wp
  simp [execOp, hop, hm, hx, hv, hrun, Result.andThen]
  exact hK' _ _ (hgo w' r1 r2 r3 r4)

theorem wp_map_drop (hg : o.guard = none) (m x : Operand) (t k : TypeId) (hop : o.op = Op.call { callee := Callee.builtin Builtin.delete, args := #[m, x], argTypes := #[t, k] }) (K : Keys P k kv ok) (ht : P.underlying t = some (.map k e)) (hE : d.E 1000 = false)
    (hm : a.eval m = .map (some b)) (h : MapIs kv ok d w b l) {X : κ} (hx : a.eval x = kv X) (hX : ok X)
    (hgo : ∀ w', MapIs kv ok d w' b (adel X l) → w.grownBy w' (some b) → (∀ E : Nat → Bool, E 1000 = false → Same E w w') → w'.heap.size = w.heap.size → wpList P ops Q tl (a.put o.dst (.tuple #[])) w') :
    wpList P ops Q (o :: tl) a w := by
  refine wpList_plain hg fun K' hK' => ?_
  obtain ⟨w', hrun, r1, r2, r3, r4⟩ := h.drop K ht hE hX o.type
  unfold Oper.wp
  simp [execOp, hop, resolve, invoke, builtin, hm, hx, hrun, Result.andThen]
  exact hK' _ _ (hgo w' r1 r2 r3 r4)

theorem wp_range_drop (hg : o.guard = none) (m x : Operand) (t k : TypeId) (hop : o.op = Op.call { callee := Callee.builtin Builtin.delete, args := #[m, x], argTypes := #[t, k] }) (K : Keys P k kv ok) (ht : P.underlying t = some (.map k e)) (hE : d.E 1000 = false)
    (hm : a.eval m = .map (some b)) (h : Ranging kv ok d w r b l rest) {X : κ} (hx : a.eval x = kv X) (hX : ok X)
    (hgo : ∀ w', Ranging kv ok d w' r b (adel X l) (adel X rest) → w.grownBy w' (some b) → (∀ E : Nat → Bool, E 1000 = false → Same E w w') → w'.heap.size = w.heap.size → wpList P ops Q tl (a.put o.dst (.tuple #[])) w') :
    wpList P ops Q (o :: tl) a w := by
  refine wpList_plain hg fun K' hK' => ?_
  obtain ⟨w', hrun, r1, r2, r3, r4⟩ := h.drop K ht hE hX o.type
  unfold Oper.wp
  simp [execOp, hop, resolve, invoke, builtin, hm, hx, hrun, Result.andThen]
  exact hK' _ _ (hgo w' r1 r2 r3 r4)

omit [DecidableEq κ] in
theorem wp_map_range (hg : o.guard = none) (m : Operand) (t : TypeId) (hop : o.op = Op.range t m) (ht : P.underlying t = some (.map k e)) (hm : a.eval m = .map (some b)) (h : MapIs kv ok d w b l)
    (hgo : ∀ w', Ranging kv ok d w' w.heap.size b l l → (∃ o, w' = w.alloc o ∧ otag o = 1001) → wpList P ops Q tl (a.put o.dst (.pointer (some ⟨w.heap.size, 0, none⟩))) w') :
    wpList P ops Q (o :: tl) a w := by
  refine wpList_plain hg fun K' hK' => ?_
  obtain ⟨w', hrun, r1, r2⟩ := h.range ht
  unfold Oper.wp
  simp [execOp, hop, hm, hrun, Result.andThen]
  exact hK' _ _ (hgo w' r1 r2)

omit [DecidableEq κ] in
theorem wp_map_next (hg : o.guard = none) (it : Operand) (hop : o.op = Op.next it false) (hit : a.eval it = .pointer (some ⟨r, 0, none⟩)) (h : Ranging kv ok d w r b l rest) (hE1 : d.E 1001 = false)
    (hDone : rest = [] → wpList P ops Q tl (a.put o.dst (.tuple #[.bool false])) w)
    (hMore : ∀ (i : Nat) (x : κ) (y : β) (cs : List Value) (w' : World), rest[i]? = some (x, y) → ok x → d.K w' y cs → Ranging kv ok d w' r b l (rest.eraseIdx i) → w.grownBy w' (some r) → (∀ E : Nat → Bool, E 1001 = false → Same E w w') → w'.heap.size = w.heap.size →
      (Instr.entry (.pointer (some ⟨r, 0, none⟩))).run P w' = .ok (.tuple #[kv x, d.val cs]) w' → wpList P ops Q tl (a.put o.dst (.tuple #[.bool true, kv x, d.val cs])) w') :
    wpList P ops Q (o :: tl) a w := by
  refine wpList_plain hg fun K' hK' => ?_
  unfold Oper.wp
  rcases h.step (P := P) hE1 o.type with ⟨h0, hrun⟩ | ⟨i, ⟨x, y⟩, cs, w', h1, h2, h3, hrun, h4, h5, h6, h7, h8⟩
  · simp [execOp, hop, hit, hrun, Result.andThen]
    exact hK' _ _ (hDone h0)
  · simp [execOp, hop, hit, hrun, Result.andThen]
    exact hK' _ _ (hMore i x y cs w' h1 h2 h3 h4 h5 h6 h7 h8)

omit [DecidableEq κ] in
theorem wp_map_len (hg : o.guard = none) (m : Operand) (t : TypeId) (hop : o.op = Op.call { callee := Callee.builtin Builtin.len, args := #[m], argTypes := #[t] }) (ht : P.underlying t = some (.map k e)) (hm : a.eval m = .map (some b)) (h : MapIs kv ok d w b l)
    (hgo : wpList P ops Q tl (a.put o.dst (.int .i64 l.length)) w) : wpList P ops Q (o :: tl) a w := by
  refine wpList_plain hg fun K' hK' => ?_
  unfold Oper.wp
  simp [execOp, hop, resolve, invoke, builtin, hm, h.len ht o.type, Result.andThen]
  exact hK' _ _ hgo

theorem wp_map_look (hg : o.guard = none) (m x : Operand) (t : TypeId) (c : Bool) (hop : o.op = Op.lookup t m x c) (K : Keys P k kv ok) (ht : P.underlying t = some (.map k e)) {z : Value} (hz : (zeroValue e).run P w = .ok z w)
    (hm : a.eval m = .map (some b)) (h : MapIs kv ok d w b l) {X : κ} (hx : a.eval x = kv X) (hX : ok X)
    (hNo : aget X l = none → wpList P ops Q tl (a.put o.dst (if c then .tuple #[z, .bool false] else z)) w)
    (hYes : ∀ v cs, aget X l = some v → d.K w v cs → wpList P ops Q tl (a.put o.dst (if c then .tuple #[d.val cs, .bool true] else d.val cs)) w) :
    wpList P ops Q (o :: tl) a w := by
  refine wpList_plain hg fun K' hK' => ?_
  unfold Oper.wp
  rcases h.look K ht hz hX c with ⟨h1, hrun⟩ | ⟨v, cs, h1, h2, hrun⟩
  · simp [execOp, hop, hm, hx, hrun, Result.andThen]
    exact hK' _ _ (by have := hNo h1; simpa using this)
  · simp [execOp, hop, hm, hx, hrun, Result.andThen]
    exact hK' _ _ (by have := hYes v cs h1 h2; simpa using this)
theorem wp_map_found (hg : o.guard = none) (m x : Operand) (t : TypeId) (c : Bool) (hop : o.op = Op.lookup t m x c) (K : Keys P k kv ok) (ht : P.underlying t = some (.map k e)) {z : Value} (hz : (zeroValue e).run P w = .ok z w)
    (hm : a.eval m = .map (some b)) (h : MapIs kv ok d w b l) {X : κ} (hx : a.eval x = kv X) (hX : ok X) {v : β} (ha : aget X l = some v)
    (hgo : ∀ cs, d.K w v cs → wpList P ops Q tl (a.put o.dst (if c then .tuple #[d.val cs, .bool true] else d.val cs)) w) :
    wpList P ops Q (o :: tl) a w :=
  wp_map_look w hg m x t c hop K ht hz hm h hx hX (fun h => by rw [ha] at h; cases h) (fun v' cs h => by rw [ha] at h; cases h; exact hgo cs)

theorem wp_map_missing (hg : o.guard = none) (m x : Operand) (t : TypeId) (c : Bool) (hop : o.op = Op.lookup t m x c) (K : Keys P k kv ok) (ht : P.underlying t = some (.map k e)) {z : Value} (hz : (zeroValue e).run P w = .ok z w)
    (hm : a.eval m = .map (some b)) (h : MapIs kv ok d w b l) {X : κ} (hx : a.eval x = kv X) (hX : ok X) (ha : aget X l = none)
    (hgo : wpList P ops Q tl (a.put o.dst (if c then .tuple #[z, .bool false] else z)) w) :
    wpList P ops Q (o :: tl) a w :=
  wp_map_look w hg m x t c hop K ht hz hm h hx hX (fun _ => hgo) (fun v' cs h => by rw [ha] at h; cases h)
end
end
end Go.Proofs.YtoncaejgflfhhaaGreatDoor
namespace Go.Proofs.YtoncaejgflfhhaaGreatDoor
open Go.RowKit

theorem Box.six {w : World} {b t : Nat} {a0 a1 a2 a3 a4 a5 : Value} (h : Box w b t [a0, a1, a2, a3, a4, a5]) :
    w.cell? ⟨b, 0, none⟩ = some a0 ∧ w.cell? ⟨b, 1, none⟩ = some a1 ∧ w.cell? ⟨b, 2, none⟩ = some a2 ∧ w.cell? ⟨b, 3, none⟩ = some a3 ∧ w.cell? ⟨b, 4, none⟩ = some a4 ∧ w.cell? ⟨b, 5, none⟩ = some a5 ∧ (∀ j, w.frozen? ⟨b, j, none⟩ = false) ∧ b < w.heap.size :=
  ⟨h.cell 0 _ rfl, h.cell 1 _ rfl, h.cell 2 _ rfl, h.cell 3 _ rfl, h.cell 4 _ rfl, h.cell 5 _ rfl, h.free, h.lt⟩
theorem Box.five {w : World} {b t : Nat} {a0 a1 a2 a3 a4 : Value} (h : Box w b t [a0, a1, a2, a3, a4]) :
    w.cell? ⟨b, 0, none⟩ = some a0 ∧ w.cell? ⟨b, 1, none⟩ = some a1 ∧ w.cell? ⟨b, 2, none⟩ = some a2 ∧ w.cell? ⟨b, 3, none⟩ = some a3 ∧ w.cell? ⟨b, 4, none⟩ = some a4 ∧ (∀ j, w.frozen? ⟨b, j, none⟩ = false) ∧ b < w.heap.size :=
  ⟨h.cell 0 _ rfl, h.cell 1 _ rfl, h.cell 2 _ rfl, h.cell 3 _ rfl, h.cell 4 _ rfl, h.free, h.lt⟩
theorem Box.four {w : World} {b t : Nat} {a0 a1 a2 a3 : Value} (h : Box w b t [a0, a1, a2, a3]) :
    w.cell? ⟨b, 0, none⟩ = some a0 ∧ w.cell? ⟨b, 1, none⟩ = some a1 ∧ w.cell? ⟨b, 2, none⟩ = some a2 ∧ w.cell? ⟨b, 3, none⟩ = some a3 ∧ (∀ j, w.frozen? ⟨b, j, none⟩ = false) ∧ b < w.heap.size :=
  ⟨h.cell 0 _ rfl, h.cell 1 _ rfl, h.cell 2 _ rfl, h.cell 3 _ rfl, h.free, h.lt⟩
theorem Box.three {w : World} {b t : Nat} {a0 a1 a2 : Value} (h : Box w b t [a0, a1, a2]) :
    w.cell? ⟨b, 0, none⟩ = some a0 ∧ w.cell? ⟨b, 1, none⟩ = some a1 ∧ w.cell? ⟨b, 2, none⟩ = some a2 ∧ (∀ j, w.frozen? ⟨b, j, none⟩ = false) ∧ b < w.heap.size :=
  ⟨h.cell 0 _ rfl, h.cell 1 _ rfl, h.cell 2 _ rfl, h.free, h.lt⟩
theorem Box.two {w : World} {b t : Nat} {a0 a1 : Value} (h : Box w b t [a0, a1]) :
    w.cell? ⟨b, 0, none⟩ = some a0 ∧ w.cell? ⟨b, 1, none⟩ = some a1 ∧ (∀ j, w.frozen? ⟨b, j, none⟩ = false) ∧ b < w.heap.size :=
  ⟨h.cell 0 _ rfl, h.cell 1 _ rfl, h.free, h.lt⟩
theorem Box.single {w : World} {b t : Nat} {a0 : Value} (h : Box w b t [a0]) :
    w.cell? ⟨b, 0, none⟩ = some a0 ∧ (∀ j, w.frozen? ⟨b, j, none⟩ = false) ∧ b < w.heap.size :=
  ⟨h.cell 0 _ rfl, h.free, h.lt⟩

theorem Rp.cell1 {α : Type} {d : Rp α} {w : World} {x : α} {c : List Value} (h : d.K w x c) (hs : d.sz = 1) : ∃ u, c = [u] := by
  have := d.len h
  rw [hs] at this
  match c, this with
  | [u], _ => exact ⟨u, rfl⟩
/-- Element i of a row of one's own, whose elements are of one cell. -/
theorem Own.get1 {α : Type} {e base g cap n : Nat} {d : Rp α} {w : World} {xs : List α} (h : Own e d base w (.slice (some ⟨g, 0, none⟩) n cap) xs) (hn : n = xs.length) (hs : d.sz = 1) (i : Nat) (hi : i < n) :
    ∃ u, w.cell? ⟨g, i, none⟩ = some u ∧ (∀ j, w.frozen? ⟨g, j, none⟩ = false) ∧ g < w.heap.size ∧ d.K w (xs[i]'(by omega)) [u] := by
  subst hn
  obtain ⟨c, hk, hc, hf⟩ := h.get i hi
  obtain ⟨u, rfl⟩ := Rp.cell1 hk hs
  have := hc 0 u rfl
  rw [hs, Nat.mul_one, Nat.add_zero] at this
  exact ⟨u, this, hf, (h.ge _ rfl).2, hk⟩
/-- .. written anew. -/
theorem Own.put1 {α : Type} {e base g cap n : Nat} {d : Rp α} {w : World} {xs : List α} (h : Own e d base w (.slice (some ⟨g, 0, none⟩) n cap) xs) (hn : n = xs.length) (hs : d.sz = 1) {i : Nat} (hi : i < n) {x : α} {u : Value} (hk : d.K w x [u]) (hE : d.E e = false) :
    Own e d base (w.setCell ⟨g, i, none⟩ u) (.slice (some ⟨g, 0, none⟩) n cap) (xs.set i x) ∧ w.grownBy (w.setCell ⟨g, i, none⟩ u) (some g) ∧ ∀ E : Nat → Bool, E e = false → Same E w (w.setCell ⟨g, i, none⟩ u) := by
  subst hn
  have := h.put hi hk hE
  rw [hs, Nat.mul_one] at this
  exact this
/-- A slice's length, as a loop's measure reads it. -/
def lenAt (w : World) (b o : Nat) : Nat := match w.cell? ⟨b, o, none⟩ with | some (.slice _ n _) => n | _ => 0
theorem lenAt_of {w : World} {b o n c : Nat} {A : Option Addr} (h : w.cell? ⟨b, o, none⟩ = some (.slice A n c)) : lenAt w b o = n := by
  unfold lenAt
  rw [h]

/-- Rows of two types are not one. -/
theorem Own.ne_own {α β : Type} {e e' base base' : Nat} {d : Rp α} {d' : Rp β} {w : World} {v v' : Value} {xs : List α} {ys : List β} (h : Own e d base w v xs) (h' : Own e' d' base' w v' ys) (hne : e ≠ e') : ∀ g, v.ownBlock = some g → v'.ownBlock ≠ some g := by
  intro g hg hg'
  rcases h.block with ⟨rfl, _⟩ | ⟨g1, cap, cur, rfl, _, hh, _⟩
  · simp [Value.ownBlock] at hg
  · rcases h'.block with ⟨rfl, _⟩ | ⟨g2, cap', cur', rfl, _, hh', _⟩
    · simp [Value.ownBlock] at hg'
    · have e1 : g1 = g := by simpa [Value.ownBlock] using hg
      have e2 : g2 = g := by simpa [Value.ownBlock] using hg'
      subst e1
      subst e2
      rw [hh] at hh'
      cases hh'
      exact hne rfl
/-- A row beside one of another type to which an element is appended. -/
theorem Apd.beside {α β : Type} {e e' base base' : Nat} {d : Rp α} {d' : Rp β} {w w1 : World} {o : Obj} {v v1 v' : Value} {xs ys : List α} {zs : List β} (h : Apd e d base (w.alloc o) w1 v v1 xs ys) (ho : Own e d base w v xs)
    (h' : Own e' d' base' w v' zs) (hne : e' ≠ e) (hE : d'.E e = false) : Own e' d' base' w1 v' zs :=
  (h'.alloc o).move (h.same _ hE) fun g hg => h.grown.block g ((h'.alloc o).ge g hg).2 (fun he => h'.ne_own ho hne g hg he.symm)
/-- The same by where they lie. -/
theorem Apd.beside_lt {α β : Type} {e e' base base' : Nat} {d : Rp α} {d' : Rp β} {w w1 : World} {o : Obj} {v v1 v' : Value} {xs ys : List α} {zs : List β} (h : Apd e d base (w.alloc o) w1 v v1 xs ys)
    (h' : Own e' d' base' w v' zs) (hne : ∀ g, v'.ownBlock = some g → v.ownBlock ≠ some g) (hs : Same d'.E w w1) : Own e' d' base' w1 v' zs :=
  h'.move hs fun g hg => ((h.grown.block g ((h'.alloc o).ge g hg).2 (fun he => hne g hg he.symm))).trans (below_one w o |>.block g (h'.ge g hg).2)

/-- Block b, whose tag is t, has changed, and nothing else. -/
structure Chg (b t : Nat) (w w' : World) : Prop where
  was : ∃ o, w.heap[b]? = some o ∧ otag o = t
  grown : w.grownBy w' (some b)
  same : ∀ E : Nat → Bool, E t = false → Same E w w'
  size : w'.heap.size = w.heap.size
namespace Chg
variable {b t : Nat} {w w' : World}
theorem of_box {cs : List Value} (h : Box w b t cs) (hg : w.grownBy w' (some b)) (hz : w'.heap.size = w.heap.size) : Chg b t w w' :=
  ⟨⟨_, h, rfl⟩, hg, fun _ hE => Same.grown hg h hE, hz⟩
theorem lt (h : Chg b t w w') : b < w.heap.size := by
  obtain ⟨o, ho, _⟩ := h.was
  exact heap_lt ho
theorem below (h : Chg b t w w') {w0 : World} (hb : Below w0.heap.size w0 w) (hl : w0.heap.size ≤ b) : Below w0.heap.size w0 w' :=
  hb.grown h.grown hb.size fun k hk => by cases hk; exact hl
theorem box (h : Chg b t w w') {c t' : Nat} {cs : List Value} (hc : Box w c t' cs) (hne : c ≠ b) : Box w' c t' cs := hc.grown h.grown fun he => hne (by cases he; rfl)
theorem box_ty (h : Chg b t w w') {c t' : Nat} {cs : List Value} (hc : Box w c t' cs) (hne : t' ≠ t) : Box w' c t' cs := h.box hc fun he => by
  obtain ⟨o, ho, ht⟩ := h.was
  subst he
  rw [show w.heap[c]? = _ from hc] at ho
  cases ho
  exact hne ht
theorem K (h : Chg b t w w') {α : Type} {d : Rp α} {x : α} {cs : List Value} (hE : d.E t = false) (hk : d.K w x cs) : d.K w' x cs := d.mov (h.same _ hE) hk
theorem own (h : Chg b t w w') {α : Type} {e base : Nat} {d : Rp α} {v : Value} {xs : List α} (ho : Own e d base w v xs) (hne : e ≠ t) (hE : d.E t = false) : Own e d base w' v xs :=
  ho.move (h.same _ hE) fun g hg => h.grown.block g (ho.ge g hg).2 fun he => by
    cases he
    obtain ⟨o, hob, ht⟩ := h.was
    rcases ho.block with ⟨rfl, _⟩ | ⟨g1, cap, cur, rfl, _, hh, _⟩
    · simp [Value.ownBlock] at hg
    · have : g1 = b := by simpa [Value.ownBlock] using hg
      subst this
      rw [hob] at hh
      cases hh
      exact hne ht
/-- The same by where the block lies: a row from base on, a block below it. -/
theorem own_lt (h : Chg b t w w') {α : Type} {e base : Nat} {d : Rp α} {v : Value} {xs : List α} (ho : Own e d base w v xs) (hlt : b < base) (hs : Same d.E w w') : Own e d base w' v xs :=
  ho.move hs fun g hg => h.grown.block g (ho.ge g hg).2 fun he => by cases he; have := (ho.ge b hg).1; omega
theorem map (h : Chg b t w w') {κ β : Type} {kv : κ → Value} {ok : κ → Prop} {d : Rp β} {c : Nat} {l : List (κ × β)} (hm : MapIs kv ok d w c l) (ht : t ≠ 1000) (hE : d.E t = false) : MapIs kv ok d w' c l :=
  hm.mov (h.same _ hE) (h.grown.block c hm.lt fun he => by
    cases he
    obtain ⟨o, ho, hto⟩ := h.was
    obtain ⟨es, clock, hb, _⟩ := hm
    rw [hb] at ho
    cases ho
    exact ht hto.symm)
theorem ranging (h : Chg b t w w') {κ β : Type} {kv : κ → Value} {ok : κ → Prop} {d : Rp β} {c r : Nat} {l rest : List (κ × β)} (hm : Ranging kv ok d w r c l rest) (ht : t ≠ 1000) (ht2 : t ≠ 1001) (hE : d.E t = false) : Ranging kv ok d w' r c l rest :=
  hm.mov (h.same _ hE) (h.grown.block c hm.map.lt fun he => by
    cases he
    obtain ⟨o, ho, hto⟩ := h.was
    obtain ⟨es, clock, hb, _⟩ := hm.map
    rw [hb] at ho
    cases ho
    exact ht hto.symm) (h.grown.block r hm.lt fun he => by
    cases he
    obtain ⟨o, ho, hto⟩ := h.was
    obtain ⟨es, clock, _, _, _, _, _, _, hr, _⟩ := hm
    rw [hr] at ho
    cases ho
    exact ht2 hto.symm)
end Chg

theorem Box.chg {w : World} {b t : Nat} {cs : List Value} (h : Box w b t cs) (j : Nat) (u : Value) : Chg b t w (w.setCell ⟨b, j, none⟩ u) :=
  .of_box h ⟨rfl, rfl, rfl, by simp [World.setCell], fun i _ hi => Below.heap_setCell w _ u i (fun e => hi (by rw [e]))⟩ (by simp [World.setCell])
/-- A map has been written. -/
theorem Chg.of_map {b : Nat} {w w' : World} {κ β : Type} {kv : κ → Value} {ok : κ → Prop} {d : Rp β} {l : List (κ × β)} (hm : MapIs kv ok d w b l) (hg : w.grownBy w' (some b)) (hs : ∀ E : Nat → Bool, E 1000 = false → Same E w w') (hz : w'.heap.size = w.heap.size) : Chg b 1000 w w' := by
  obtain ⟨es, clock, hb, _⟩ := hm
  exact ⟨⟨_, hb, rfl⟩, hg, hs, hz⟩
theorem Chg.of_iter {b r : Nat} {w w' : World} {κ β : Type} {kv : κ → Value} {ok : κ → Prop} {d : Rp β} {l rest : List (κ × β)} (hm : Ranging kv ok d w r b l rest) (hg : w.grownBy w' (some r)) (hs : ∀ E : Nat → Bool, E 1001 = false → Same E w w') (hz : w'.heap.size = w.heap.size) : Chg r 1001 w w' := by
  obtain ⟨es, clock, _, _, _, _, _, _, hr, _⟩ := hm
  exact ⟨⟨_, hr, rfl⟩, hg, hs, hz⟩

section
variable {P : Program} {w : World} {ops : Array Oper} {rest : List Oper} {o : Oper} {a : Act} {Q : Exit → Act → World → Prop} {b t : Nat}
/-- A whole struct or array stored into a block of its own. -/
theorem wp_box_store (hgd : o.guard = none) (ty : TypeId) (x y : Operand) (ho : o.op = .store ty x y) {us old : List Value} (hx : a.eval x = .pointer (some ⟨b, 0, none⟩)) (hy : a.eval y = .agg us.toArray) (hb : Box w b t old)
    (hi : (P.info? ty).map (·.size) = some us.length) (hl : old.length = us.length) (h1 : ∀ u ∈ us, u.oneCell' = true)
    (h : ∀ w', Box w' b t us → Chg b t w w' → wpList P ops Q rest (a.put o.dst undef) w') : wpList P ops Q (o :: rest) a w := by
  refine wpList_store_row hgd ty x y ho b us.toArray hx hy t old.toArray hb (by simpa using hi) (by simpa using hl) (by rw [Array.all_eq_true_iff_forall_mem]; intro u hu; exact h1 u (by simpa using hu)) ?_
  have hlt := hb.lt
  have hset : (w.setRow b us.toArray).heap[b]? = some (.cells us.toArray t (0, 0)) := by
    simp only [World.setRow, Array.getElem?_modify, if_true]
    rw [show w.heap[b]? = _ from hb]
    simp
  have hz : (w.setRow b us.toArray).heap.size = w.heap.size := by simp [World.setRow]
  refine h _ hset (.of_box hb ⟨rfl, rfl, rfl, by rw [hz]; exact Nat.le_refl _, fun i _ hi => ?_⟩ hz)
  simp only [World.setRow, Array.getElem?_modify]
  rw [if_neg (fun e => hi (by rw [e]))]
/-- One cell of a block of its own. -/
theorem wp_box_set (hgd : o.guard = none) (ty : TypeId) (x y : Operand) (ho : o.op = .store ty x y) {j : Nat} {u v : Value} {cs : List Value} (hx : a.eval x = .pointer (some ⟨b, j, none⟩)) (hy : a.eval y = u) (hb : Box w b t cs) (hv : cs[j]? = some v)
    (hc : u.cells = #[u]) (h1 : u.oneCell' = true) (hi : (P.info? ty).map (·.size) = some 1) (h : ∀ w', Box w' b t (cs.set j u) → Chg b t w w' → wpList P ops Q rest (a.put o.dst undef) w') : wpList P ops Q (o :: rest) a w := by
  refine wpList_plain hgd fun K hK => ?_
  have hrun : (storeVar ty ⟨b, j, none⟩ u).run P w = .ok () (w.setCell ⟨b, j, none⟩ u) := by
    have := run_storeCells_cells (P := P) b j [u] 0 w (fun k hk => by
      have : k = 0 := by simpa using hk
      subst this
      show (w.cell? ⟨b, j, none⟩).isSome = true
      rw [hb.cell j v hv]
      rfl) (fun k hk => hb.free _) (fun z hz => by rw [List.mem_singleton.1 hz]; exact h1)
    cases hq : P.info? ty with
    | none => simp [hq] at hi
    | some i =>
      have hs : i.size = 1 := by simpa [hq] using hi
      simp only [Nat.add_zero] at this
      simp [storeVar, sizeOf, typeInfo, hq, hc, hs, this, World.setCells]
  unfold Oper.wp execOp
  simp only [ho, hx, hy, Instr.storeAt, Instr.sureAddr, Sem.run_bind, Sem.run_pure, Result.andThen_ok, hrun]
  exact hK _ _ (h _ (hb.set j u) (hb.chg j u))
/-- A whole struct or array loaded from a block of its own. -/
theorem wp_box_load (hgd : o.guard = none) (ty : TypeId) (x : Operand) (ho : o.op = .load ty x) {cs : List Value} (hx : a.eval x = .pointer (some ⟨b, 0, none⟩)) (hb : Box w b t cs) {d : TypeDesc} (hu : P.underlying ty = some d)
    (hd : (match d with | .struct _ | .array _ _ => true | _ => false) = true) (hi : (P.info? ty).map (·.size) = some cs.length)
    (h : wpList P ops Q rest (a.put o.dst (.agg cs.toArray)) w) : wpList P ops Q (o :: rest) a w :=
  wpList_load_row hgd ty x ho b hx t cs.toArray (0, 0) d hb hu hd (by simpa using hi) h
end

theorem setCells_put (b : Nat) : ∀ (us : List Value) (w : World) (j : Nat), w.setCells b j us = putCells w b j us
  | [], _, _ => rfl
  | _ :: r, w, j => setCells_put b r _ (j + 1)
theorem size_put (b : Nat) : ∀ (us : List Value) (w : World) (j : Nat), (putCells w b j us).heap.size = w.heap.size
  | [], _, _ => rfl
  | _ :: r, w, j => by
    rw [putCells, size_put b r _ (j + 1)]
    simp [World.setCell]
theorem Own.chg {α : Type} {e base g cap : Nat} {d : Rp α} {w w' : World} {n : Nat} {xs : List α} (h : Own e d base w (.slice (some ⟨g, 0, none⟩) n cap) xs) (hg : w.grownBy w' (some g)) (hs : ∀ E : Nat → Bool, E e = false → Same E w w') (hz : w'.heap.size = w.heap.size) : Chg g e w w' := by
  rcases h.block with ⟨h, _⟩ | ⟨g1, cap1, cur, hv, _, hh, _⟩
  · cases h
  · cases hv
    exact ⟨⟨_, hh, rfl⟩, hg, hs, hz⟩

section
variable {P : Program} {w : World} {ops : Array Oper} {rest : List Oper} {o : Oper} {a : Act} {Q : Exit → Act → World → Prop} {α : Type} {e base g cap : Nat} {d : Rp α} {xs : List α}
/-- A whole struct stored as element i of a row of one's own. -/
theorem wp_own_store (hgd : o.guard = none) (ty : TypeId) (x y : Operand) (ho : o.op = .store ty x y) {us : List Value} {i sz n : Nat} (hx : a.eval x = .pointer (some ⟨g, i * sz, none⟩)) (hy : a.eval y = .agg us.toArray)
    (hO : Own e d base w (.slice (some ⟨g, 0, none⟩) n cap) xs) (hn : n = xs.length) (hlt : i < n) {z : α} (hk : d.K w z us) (hE : d.E e = false) (hsz : d.sz = sz) (hi : (P.info? ty).map (·.size) = some us.length)
    (h : ∀ w', Own e d base w' (.slice (some ⟨g, 0, none⟩) n cap) (xs.set i z) → Chg g e w w' → wpList P ops Q rest (a.put o.dst undef) w') : wpList P ops Q (o :: rest) a w := by
  subst hn
  subst hsz
  have hlen := d.len hk
  obtain ⟨c, hc, hcell, hfr⟩ := hO.get i hlt
  have hcl := d.len hc
  refine wpList_store_mid hgd ty x y ho g (i * d.sz) us.toArray hx hy (fun j hj => ?_) (by simpa using hi) (by rw [Array.all_eq_true_iff_forall_mem]; intro u hu; exact d.one hk u (by simpa using hu)) ?_
  · have hj' : j < c.length := by simp at hj; omega
    exact ⟨by rw [hcell j c[j] (by simp [hj'])]; rfl, hfr _⟩
  · obtain ⟨h1, h2, h3⟩ := hO.put hlt hk hE
    rw [show (us.toArray).toList = us from rfl, setCells_put]
    exact h _ h1 (hO.chg h2 h3 (size_put ..))
end

/-! ### As steps of a region that draws -/
section
variable {P : Program} {w : World} {ops : Array Oper} {o : Oper} {a : Act} {K : Act → World → Prop} {Q : Exit → Act → World → Prop} {F : Prop} {b t : Nat}
theorem step_box_load (hgd : o.guard = none) (ty : TypeId) (x : Operand) (ho : o.op = .load ty x) {cs : List Value} (hx : a.eval x = .pointer (some ⟨b, 0, none⟩)) (hb : Box w b t cs) {d : TypeDesc} (hu : P.underlying ty = some d)
    (hd : (match d with | .struct _ | .array _ _ => true | _ => false) = true) (hi : (P.info? ty).map (·.size) = some cs.length)
    (h : K (a.put o.dst (.agg cs.toArray)) w) : if Region.wanted o (yielded ops a.tmps) = true then Oper.wp P o a w K Q else F := by
  have hw : Region.wanted o (yielded ops a.tmps) = true := by simp [Region.wanted, hgd]
  rw [if_pos hw]
  exact wp_load_row ty x ho b hx t cs.toArray (0, 0) d hb hu hd (by simpa using hi) h
theorem step_box_store (hgd : o.guard = none) (ty : TypeId) (x y : Operand) (ho : o.op = .store ty x y) {us old : List Value} (hx : a.eval x = .pointer (some ⟨b, 0, none⟩)) (hy : a.eval y = .agg us.toArray) (hb : Box w b t old)
    (hi : (P.info? ty).map (·.size) = some us.length) (hl : old.length = us.length) (h1 : ∀ u ∈ us, u.oneCell' = true)
    (h : ∀ w', Box w' b t us → Chg b t w w' → K (a.put o.dst undef) w') : if Region.wanted o (yielded ops a.tmps) = true then Oper.wp P o a w K Q else F := by
  have hw : Region.wanted o (yielded ops a.tmps) = true := by simp [Region.wanted, hgd]
  rw [if_pos hw]
  refine wp_store_row ty x y ho b us.toArray hx hy t old.toArray hb (by simpa using hi) (by simpa using hl) (by rw [Array.all_eq_true_iff_forall_mem]; intro u hu; exact h1 u (by simpa using hu)) ?_
  have hset : (w.setRow b us.toArray).heap[b]? = some (.cells us.toArray t (0, 0)) := by
    simp only [World.setRow, Array.getElem?_modify, if_true]
    rw [show w.heap[b]? = _ from hb]
    simp
  have hz : (w.setRow b us.toArray).heap.size = w.heap.size := by simp [World.setRow]
  refine h _ hset (.of_box hb ⟨rfl, rfl, rfl, by rw [hz]; exact Nat.le_refl _, fun i _ hi => ?_⟩ hz)
  simp only [World.setRow, Array.getElem?_modify]
  rw [if_neg (fun e => hi (by rw [e]))]
end
end Go.Proofs.YtoncaejgflfhhaaGreatDoor
namespace Go.Proofs.YtoncaejgflfhhaaGreatDoor
open Go.RowKit

theorem siz108 : (Tryz.prog.info? 108).map (·.size) = some 5 := by kernel_rfl
/-- Bounds on the classes. -/
def okCS (s : CS) : Prop := s.classes.length ≤ 100000 ∧ ∀ x ∈ s.classes, 0 ≤ x.version ∧ x.version ≤ 1000000
def stampS (s : CS) : Int := s.classes.length + (s.classes.map (·.version)).sum
theorem sum_take {l : List Int} (h : ∀ x ∈ l, 0 ≤ x ∧ x ≤ 1000000) : ∀ j, j ≤ l.length → 0 ≤ (l.take j).sum ∧ (l.take j).sum ≤ 1000000 * j
  | 0, _ => by simp
  | j + 1, hj => by
    have ih := sum_take h j (by omega)
    have hx := h l[j] (List.getElem_mem _)
    rw [List.take_succ_eq_append_getElem (by omega), List.sum_append]
    simp
    omega
theorem sum_snoc (l : List Int) (j : Nat) (h : j < l.length) : (l.take (j + 1)).sum = (l.take j).sum + l[j] := by
  rw [List.take_succ_eq_append_getElem h, List.sum_append]
  simp

set_option maxRecDepth 100000 in
theorem stamp34 (s : CS) (cs : List Value) (w : World) (h : rCS.K w s cs) (hok : okCS s) : Calls Tryz.prog 34 #[rCS.val cs] w (RV (.int .i64 (stampS s)) w) := by
  obtain ⟨u, l, rfl, h1, h2⟩ := h
  rw [rCS_val]
  have HU := Lib.hid h1
  obtain ⟨A, k, rfl⟩ := slice_form h1
  obtain ⟨hlen, hver⟩ := hok
  have hs : ∀ x ∈ s.classes.map (·.version), 0 ≤ x ∧ x ≤ 1000000 := by
    intro x hx
    obtain ⟨c, hc, rfl⟩ := List.mem_map.1 hx
    exact hver c hc
  have HS := Lib.hid (sum_take hs)
  have HV := Lib.hid hver
  obtain ⟨B, m, rfl⟩ := slice_form h2
  clear h1 h2 hver hs
  unfold stampS
  go_enter Tryz.func34, Tryz.ntmps34
  go_wp2
  go_loopw [3, 12] (fun n i wr => ∃ j : Nat, j ≤ s.classes.length ∧ i = .int .i64 j ∧ n = .int .i64 ((s.classes.length : Int) + ((s.classes.map (·.version)).take j).sum) ∧ Below w.heap.size w wr) (fun _ i _ => s.classes.length - (intOf i).toNat)
  case atStart => exact ⟨0, Nat.zero_le _, rfl, by simp, below_one _ _⟩
  case round =>
    obtain ⟨j, hj, rfl, rfl, hB⟩ := hrel
    by_cases hlt : j < s.classes.length
    · obtain ⟨b, off, c, hA, hbl, hk, hcell⟩ := Rp.Row_get (Rp.Row_mov (Same.of_below hB) (by obtain ⟨A', c', h, _, _, _, hr⟩ := HU.out; cases h; exact hr)) j hlt
      subst hA
      have hv := HV.out _ (List.getElem_mem hlt)
      have hb1 := HS.out j (by simp; omega)
      have hsn := Lib.hid (sum_snoc (s.classes.map (·.version)) j (by simp; omega))
      obtain ⟨v1, v2, rfl, hk1, hk2, _⟩ := hk
      obtain ⟨A1, k1, rfl⟩ := slice_form hk1
      obtain ⟨A2, k2, rfl⟩ := slice_form hk2
      clear hk1 hk2
      have c0 : wr.cell? ⟨b, off + j * 5, none⟩ = some _ := hcell 0 _ rfl
      have c1 : wr.cell? ⟨b, off + j * 5 + 1, none⟩ = some _ := hcell 1 _ rfl
      have c2 : wr.cell? ⟨b, off + j * 5 + 2, none⟩ = some _ := hcell 2 _ rfl
      have c3 : wr.cell? ⟨b, off + j * 5 + 3, none⟩ = some _ := hcell 3 _ rfl
      have c4 : wr.cell? ⟨b, off + j * 5 + 4, none⟩ = some _ := hcell 4 _ rfl
      clear hcell
      go_wp2
      go_roundw
      case rel =>
        refine ⟨j + 1, by omega, by go_num, ?_, ?_⟩
        · rw [hsn.out]
          simp only [List.getElem_map]
          congr 1
          omega
        · exact below_more hB _
      case measure => simp [intOf]; omega
    · go_wp2
      go_ret
      have hjj : j = s.classes.length := by omega
      exact ⟨by rw [hjj, List.take_of_length_le (by simp)]; rfl, hB⟩
end Go.Proofs.YtoncaejgflfhhaaGreatDoor
