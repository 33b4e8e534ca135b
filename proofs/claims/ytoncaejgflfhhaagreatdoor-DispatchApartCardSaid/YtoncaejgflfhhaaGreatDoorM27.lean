/- dispatch's oldest. -/
import Derived.Test.YtoncaejgflfhhaaGreatDoorM26
import Derived.Deep.RegionHeld3
set_option linter.unusedVariables false
set_option linter.unusedSimpArgs false
namespace Go.Proofs.YtoncaejgflfhhaaGreatDoor
open Go.RowKit

def zeroKey : Key := List.replicate 8 ⟨0, false, ⟨#[]⟩⟩
theorem zeroCells_key : keyCells zeroKey = zeroCells := rfl
theorem key_eight {x : Key} (h : x.length = 8) : ∃ p0 p1 p2 p3 p4 p5 p6 p7, x = [p0, p1, p2, p3, p4, p5, p6, p7] := by
  match x, h with
  | [p0, p1, p2, p3, p4, p5, p6, p7], _ => exact ⟨_, _, _, _, _, _, _, _, rfl⟩
theorem enters88 : Enters 88 := fun args w => by kernel_rfl

/-- What oldest has found of those that have come. -/
def Least (l rest : List (Key × Ent)) (k : Key) (n : Int) : Prop :=
  (n = -1 ∧ rest = l) ∨ ∃ x, (k, x) ∈ l ∧ x.used = n ∧ ∀ q ∈ l, q ∈ rest ∨ n ≤ q.2.used

theorem mem_erase {α : Type} {l : List α} {i : Nat} {x q : α} (hi : l[i]? = some x) (hq : q ∈ l) : q ∈ l.eraseIdx i ∨ q = x := by
  obtain ⟨j, hj⟩ := List.getElem?_of_mem hq
  by_cases hij : j = i
  · subst hij
    rw [hi] at hj
    cases hj
    exact .inr rfl
  · exact .inl (List.mem_eraseIdx_iff_getElem?.2 ⟨j, hij, hj⟩)
theorem least_new {l rest : List (Key × Ent)} {k k' : Key} {n : Int} {y : Ent} {i : Nat} (h : Least l rest k n) (hi : rest[i]? = some (k', y)) (hl : (k', y) ∈ l) (hlt : n < 0 ∨ y.used < n) (hpos : ∀ p ∈ l, 0 ≤ p.2.used) : Least l (rest.eraseIdx i) k' y.used := by
  refine .inr ⟨y, hl, rfl, fun q hq => ?_⟩
  rcases h with ⟨_, hr⟩ | ⟨x, hx, hxn, hall⟩
  · rw [hr] at hi ⊢
    rcases mem_erase hi hq with h | h
    · exact .inl h
    · exact .inr (by rw [h]; exact Int.le_refl _)
  · rcases hall q hq with h | h
    · rcases mem_erase hi h with h | h
      · exact .inl h
      · exact .inr (by rw [h]; exact Int.le_refl _)
    · refine .inr ?_
      rcases hlt with h0 | h0
      · have := hpos _ hx
        simp only [hxn] at this
        omega
      · omega
theorem least_old {l rest : List (Key × Ent)} {k k' : Key} {n : Int} {y : Ent} {i : Nat} (h : Least l rest k n) (hi : rest[i]? = some (k', y)) (h0 : ¬ n < 0) (hlt : ¬ y.used < n) : Least l (rest.eraseIdx i) k n := by
  rcases h with ⟨hn, _⟩ | ⟨x, hx, hxn, hall⟩
  · omega
  · refine .inr ⟨x, hx, hxn, fun q hq => ?_⟩
    rcases hall q hq with h | h
    · rcases mem_erase hi h with h | h
      · exact .inl h
      · exact .inr (by rw [h]; show n ≤ y.used; omega)
    · exact .inr h

/-- An entry of which nothing is read but its own cells. -/
def rEntW : Rp Ent where
  agg := true
  sz := 7
  E := fun _ => false
  K := fun _ x cs => ∃ A0 n0 k0 A1 n1 k1 A2 n2 k2 A3 n3 k3, cs = [.slice A0 n0 k0, .slice A1 n1 k1, .slice A2 n2 k2, .slice A3 n3 k3, .string x.plan.op, .int .i64 x.stamp, .int .i64 x.used]
  len := by rintro w x cs ⟨_, _, _, _, _, _, _, _, _, _, _, _, rfl⟩; rfl
  one := by
    rintro w x cs ⟨_, _, _, _, _, _, _, _, _, _, _, _, rfl⟩ u hu
    simp at hu
    rcases hu with rfl | rfl | rfl | rfl | rfl | rfl | rfl <;> rfl
  mov := fun _ h => h
theorem MapIs.weaken {κ β : Type} {kv : κ → Value} {ok : κ → Prop} {d d' : Rp β} {w : World} {b : Nat} {l : List (κ × β)} (hv : ∀ cs, d'.val cs = d.val cs) (hk : ∀ x cs, d.K w x cs → d'.K w x cs) : MapIs kv ok d w b l → MapIs kv ok d' w b l
  | ⟨es, clock, h1, h2, h3⟩ => ⟨es, clock, h1, aux h2, h3⟩
where aux : ∀ {l : List (κ × β)} {es : List MapEntry}, Ents kv ok d w l es → Ents kv ok d' w l es
  | [], _, h => h
  | _ :: _, _, ⟨e, es', h, ⟨h1, h2, cs, h3, h4⟩, hr⟩ => ⟨e, es', h, ⟨h1, h2, cs, by rw [hv]; exact h3, hk _ _ h4⟩, aux hr⟩
theorem entW {w : World} (x : Ent) (cs : List Value) (h : rEnt.K w x cs) : rEntW.K w x cs := by
  obtain ⟨a, b, c, d, rfl, h0, h1, h2, h3⟩ := entK_form h
  obtain ⟨A0, k0, rfl⟩ := slice_form h0
  obtain ⟨A1, k1, rfl⟩ := slice_form h1
  obtain ⟨A2, k2, rfl⟩ := slice_form h2
  obtain ⟨A3, k3, rfl⟩ := slice_form h3
  exact ⟨_, _, _, _, _, _, _, _, _, _, _, _, rfl⟩
@[go_sem] theorem rEntW_val (a b c d e f g : Value) : rEntW.val [a, b, c, d, e, f, g] = .agg #[a, b, c, d, e, f, g] := rfl

theorem wp_map_range_at {κ β : Type} {kv : κ → Value} {ok : κ → Prop} {d : Rp β} {P : Program} {k e : TypeId} {b : Nat} {l : List (κ × β)} (w : World) {ops : Array Oper} {tl : List Oper} {o : Oper} {a : Act} {Q : Exit → Act → World → Prop} (r : Nat) (hr : w.heap.size = r) (hg : o.guard = none) (m : Operand) (t : TypeId) (hop : o.op = Op.range t m) (ht : P.underlying t = some (.map k e)) (hm : a.eval m = .map (some b)) (h : MapIs kv ok d w b l)
    (hgo : ∀ w', Ranging kv ok d w' r b l l → (∃ o, w' = w.alloc o ∧ otag o = 1001) → wpList P ops Q tl (a.put o.dst (.pointer (some ⟨r, 0, none⟩))) w') :
    wpList P ops Q (o :: tl) a w := by
  subst hr
  exact wp_map_range w hg m t hop ht hm h hgo

set_option maxHeartbeats 4000000 in
set_option maxRecDepth 100000 in
theorem oldest43 (l : List (Key × Ent)) (b : Nat) (w : World) (hM : CacheIs w b l) (hpos : ∀ p ∈ l, 0 ≤ p.2.used) :
    Calls Tryz.prog 43 #[.map (some b)] w fun e w' => ∃ k, e = .returned (keyVal k) ∧ okKey k ∧ (l ≠ [] → ∃ x, (k, x) ∈ l ∧ ∀ q ∈ l, x.used ≤ q.2.used) ∧ Below w.heap.size w w' := by
  have hM := MapIs.weaken (d := rEnt) (d' := rEntW) (fun _ => rfl) entW hM
  have he := enters88
  unfold Enters at he
  have hbl := hM.lt
  have HP := Lib.hid hpos
  clear hpos
  obtain ⟨W0, hW0⟩ : ∃ W, W = ((w.alloc (.cells zeroCells.toArray 114)).alloc (.cells zeroCells.toArray 114)).alloc (.cells #[.int .i64 (-1)] 3) := ⟨_, rfl⟩
  have hB0 : Below w.heap.size w W0 := hW0 ▸ below_more (below_more (below_one _ _) _) _
  have b0 : Box W0 w.heap.size 114 zeroCells := hW0 ▸ ((Box.mk_ _ rfl rfl).alloc _).alloc _
  have b1 : Box W0 (w.heap.size + 1) 114 zeroCells := hW0 ▸ (Box.mk_ _ (by simp) rfl).alloc _
  have b2 : Box W0 (w.heap.size + 1 + 1) 3 [.int .i64 (-1)] := hW0 ▸ Box.mk_ _ (by simp) rfl
  have hMW := hM.below hB0
  have HW0 := Lib.hid hW0
  clear hW0
  go_enter Tryz.func43, Tryz.ntmps43
  go_wp2_with (first
    | (at_range; refine wp_map_range_at _ (w.heap.size + 1 + 1 + 1) (by simp) rfl _ 119 rfl Tryz.underlying119 rfl (HW0.out ▸ hMW) ?_; rintro w0 hrg0 ⟨o0, hw0, _⟩; have hw1 : w0 = W0.alloc o0 := hw0.trans (by rw [HW0.out]; rfl); have hrg1 : Ranging keyVal okKey rEntW w0 (w.heap.size + 1 + 1 + 1) b l l := hrg0; have hX : Below W0.heap.size W0 w0 := (by rw [hw1]; exact below_one _ _); clear hw0 hw1 hrg0)
    | go_in)
  go_frame
  have a0 := b0.later hX
  have a1 := b1.later hX
  have a2 := b2.later hX
  have hB1 := below_to hB0 hX
  clear b0 b1 b2 hMW hX
  go_loopw [11] (fun _ wr => ∃ (rest : List (Key × Ent)) (k : Key) (n : Int), Ranging keyVal okKey rEntW wr (w.heap.size + 1 + 1 + 1) b l rest ∧ rest.Sublist l ∧ Box wr w.heap.size 114 zeroCells ∧ Box wr (w.heap.size + 1) 114 (keyCells k) ∧ Box wr (w.heap.size + 1 + 1) 3 [.int .i64 n] ∧ Least l rest k n ∧ okKey k ∧ Below w.heap.size w wr)
    (fun _ wr => wr.rangeLeft b (w.heap.size + 1 + 1 + 1))
  case atStart => exact ⟨l, zeroKey, -1, hrg1, List.Sublist.refl _, a0, a1, a2, .inl ⟨rfl, rfl⟩, ⟨rfl, fun p hp => by rw [List.eq_of_mem_replicate hp]; exact ⟨⟨by decide, by decide⟩, Nat.zero_le _⟩⟩, hB1⟩
  case round =>
    obtain ⟨rest, k, n, hrg, hsub, x0, x1, x2, hL, hok0, hB⟩ := hrel
    clear a0 a1 a2 hB1 hrg1
    go_wp2_with (first
      | (at_next; refine wp_map_next _ rfl _ rfl rfl hrg rfl ?_ ?_)
      | go_in)
    · rintro rfl
      have hl24 : (keyCells k).length = 24 := by rw [keyCells_length, hok0.1]
      have hks : (Tryz.prog.info? 114).map (·.size) = some (keyCells k).length := by rw [hl24]; exact siz114
      go_wp2_with (first
        | (refine wp_box_load rfl 114 _ rfl rfl x1 Tryz.underlying114 rfl hks ?_)
        | (refine wp_box_store rfl 114 _ _ rfl (us := keyCells k) rfl rfl x0 hks hl24.symm (keyCells_one k) ?_; intro w2 y0 hc2)
        | go_in)
      refine bodyPost_ret (v := .agg (keyCells k).toArray) (results_cell_row Tryz.results43 _ _ w.heap.size 114 (keyCells k).toArray (0, 0) _ rfl y0 Tryz.underlying114 rfl (by simpa using hks)) rfl ⟨k, rfl, hok0, fun hne => ?_, hc2.below hB (Nat.le_refl _)⟩
      rcases hL with ⟨_, h⟩ | ⟨x, hx, hxn, hall⟩
      · exact absurd h.symm hne
      · exact ⟨x, hx, fun q hq => by rcases hall q hq with h | h; simp at h; rw [hxn]; exact h⟩
    · intro i x y cs w1 hi hok hK hrg1 hg1 hs1 hz1 hen
      have hc1 := Chg.of_iter hrg hg1 hs1 hz1
      have hB1 := hc1.below hB (by omega)
      have a0 := hc1.box_ty x0 (by decide)
      have a1 := hc1.box_ty x1 (by decide)
      have a2 := hc1.box_ty x2 (by decide)
      have hl24 : (keyCells x).length = 24 := by rw [keyCells_length, hok.1]
      have hl24' : (keyCells k).length = 24 := by rw [keyCells_length, hok0.1]
      obtain ⟨A0, n0, k0, A1, n1, k1, A2, n2, k2, A3, n3, k3, rfl⟩ := hK
      rw [rEntW_val] at hen ⊢
      obtain ⟨kc, hkc⟩ : ∃ kc, kc = keyCells x := ⟨_, rfl⟩
      have hkv : keyVal x = .agg kc.toArray := by rw [hkc]; rfl
      rw [hkv] at hen ⊢
      have hkk : kc = keyCells x := hkc
      have hkl : kc.length = 24 := by rw [hkc]; exact hl24
      have hks : (Tryz.prog.info? 114).map (·.size) = some kc.length := by rw [hkl]; exact siz114
      have hk1 : ∀ u ∈ kc, u.oneCell' = true := by
        rw [hkc]
        exact keyCells_one x
      have hE1 : ∀ u ∈ [Value.slice A0 n0 k0, .slice A1 n1 k1, .slice A2 n2 k2, .slice A3 n3 k3, .string y.plan.op, .int .i64 y.stamp, .int .i64 y.used], u.oneCell' = true := by simp [Value.oneCell']
      have HZ := Lib.hid (And.intro hz1 (And.intro hkk (And.intro hi (And.intro hok (And.intro hc1 (And.intro hkl hl24'))))))
      have hlt1 := hrg1.lt
      clear hz1 hkc hc1 hg1 hi hok hkk hl24'
      have z1 : Box ((w1.alloc (.cells zeroCells.toArray 114)).alloc (.cells #[.slice none 0 0, .slice none 0 0, .slice none 0 0, .slice none 0 0, .string ⟨#[]⟩, .int .i64 0, .int .i64 0] 117)) w1.heap.size 114 zeroCells := (Box.mk_ _ rfl rfl).alloc _
      have z2 : Box ((w1.alloc (.cells zeroCells.toArray 114)).alloc (.cells #[.slice none 0 0, .slice none 0 0, .slice none 0 0, .slice none 0 0, .string ⟨#[]⟩, .int .i64 0, .int .i64 0] 117)) (w1.heap.size + 1) 117 [.slice none 0 0, .slice none 0 0, .slice none 0 0, .slice none 0 0, .string ⟨#[]⟩, .int .i64 0, .int .i64 0] := Box.mk_ _ (by simp) rfl
      have hX0 := below_more (below_one w1 (.cells zeroCells.toArray 114)) (.cells #[.slice none 0 0, .slice none 0 0, .slice none 0 0, .slice none 0 0, .string ⟨#[]⟩, .int .i64 0, .int .i64 0] 117)
      have HQ := Lib.hid (fun w' (b2 : Box w' (w.heap.size + 1 + 1) 3 [.int .i64 n]) => older88 (w.heap.size + 1 + 1) y.used n w' (b2.cell 0 _ rfl))
      go_wp2_with (first
        | (refine wp_box_store rfl 114 _ _ rfl (us := kc) rfl rfl z1 hks hkl.symm hk1 ?_; intro w2 y1 hc2; have y2 := hc2.box_ty z2 (by decide); have hX2 := hc2.below hX0 (Nat.le_refl _))
        | (refine wp_box_store rfl 117 _ _ rfl (us := [.slice A0 n0 k0, .slice A1 n1 k1, .slice A2 n2 k2, .slice A3 n3 k3, .string y.plan.op, .int .i64 y.stamp, .int .i64 y.used]) rfl rfl y2 siz117 rfl hE1 ?_; intro w3 q2 hc3; have q1 := hc3.box_ty y1 (by decide); have hX3 := hc3.below hX2 (by omega); have d2 := a2.later hX3; have e6 := q2.cell 6 _ rfl; have ql := q2.lt)
        | (refine (HQ.out _ d2).mono ?_; rintro e w4 ⟨rfl, hB4⟩; have hX4 := below_to hX3 hB4; have u0 := a0.later hX4; have u1 := a1.later hX4; have u2 := a2.later hX4; have v1 := q1.later hB4; have v2 := q2.later hB4; have hrg4 := (hc3.ranging (hc2.ranging (hrg1.below hX0) (by decide) (by decide) rfl) (by decide) (by decide) rfl).below hB4; clear e6 ql d2; have v6 := v2.cell 6 _ rfl; have v2l := v2.lt; have w2c := u2.cell 0 _ rfl; have w2f := u2.free 0; have w2l := u2.lt)
        | go_in)
      · have hne1 : ¬ w1.heap.size = w.heap.size + 1 := by have := a1.lt; omega
        have hne2 : ¬ w1.heap.size + 1 = w.heap.size + 1 := by have := a1.lt; omega
        have hne3 : ¬ w1.heap.size + 1 = w.heap.size + 1 + 1 := by have := a2.lt; omega
        have hne4 : ¬ w1.heap.size = w.heap.size + 1 + 1 := by have := a2.lt; omega
        have hl1 : (keyCells k).length = kc.length := by rw [hkl, HZ.out.2.2.2.2.2.2]
        have U114 := Tryz.underlying114
        refine wp_region_held_drew (S := fun w' => Box w' w1.heap.size 114 kc ∧ Box w' (w1.heap.size + 1) 117 [.slice A0 n0 k0, .slice A1 n1 k1, .slice A2 n2 k2, .slice A3 n3 k3, .string y.plan.op, .int .i64 y.stamp, .int .i64 y.used]) (by kernel_rfl) ⟨v1.drew, v2.drew⟩ (fun hHeld => ?_)
        refine wpAnyH_take (i := 0) (v := .agg kc.toArray) rfl (by kernel_rfl) (by kernel_rfl) (by kernel_rfl) (fun _ _ _ h => h) (yieldsIf_load_mid (by rfl) _ _ rfl _ _ rfl kc _ (fun w' hS j v hv => by rw [Nat.zero_add]; exact hS.1.cell j v hv) U114 rfl hks) hHeld ?_
        simp only [Act.put, List.setIfInBounds_toArray, List.set_cons_zero, List.set_cons_succ]
        refine wpAnyH_take (i := 1) (v := .pointer (some ⟨w1.heap.size + 1, 6, none⟩)) rfl (by kernel_rfl) (by kernel_rfl) (by kernel_rfl) (fun _ _ _ h => h) (Or.inl ⟨by rfl, fun w' _ => by go_simp⟩) hHeld ?_
        simp only [Act.put, List.setIfInBounds_toArray, List.set_cons_zero, List.set_cons_succ]
        refine wpAnyH_take (i := 2) (v := .int .i64 y.used) rfl (by kernel_rfl) (by kernel_rfl) (by kernel_rfl) (fun _ _ _ h => h) (Or.inl ⟨by rfl, fun w' hS => by have := hS.2.cell 6 _ rfl; go_simp⟩) hHeld ?_
        simp only [Act.put, List.setIfInBounds_toArray, List.set_cons_zero, List.set_cons_succ]
        refine wpAnyH_ready (rs := [3]) (by kernel_rfl) (by simp) ?_
        refine AllReadyH.cons rfl (fun K' hK => ?_) AllReadyH.nil
        refine step_box_store (by rfl) 114 _ _ (by rfl) (us := kc) (by rfl) (by rfl) u1.drew hks hl1 hk1 ?_
        intro w5 t1 hc5
        refine hK.out _ _ ⟨hc5.box v1.drew hne1, hc5.box_ty v2.drew (by decide)⟩ (fun hHeld2 => ?_)
        clear hK K'
        simp only [Act.put, List.setIfInBounds_toArray, List.set_cons_zero, List.set_cons_succ]
        have t2 := hc5.box_ty u2.drew (by decide)
        have t2c := t2.cell 0 _ rfl
        have t2f := t2.free 0
        have t2l := t2.lt
        refine wpAnyH_ready (rs := [4]) (by kernel_rfl) (by simp) ?_
        refine AllReadyH.cons rfl (fun K' hK => ?_) AllReadyH.nil
        rw [if_pos (by rfl)]
        go_simp
        have c6 := t2.chg 0 (.int .i64 y.used)
        refine hK.out _ _ ⟨c6.box_ty hHeld2.1 (by decide), c6.box_ty hHeld2.2 (by decide)⟩ (fun _ => ?_)
        clear hK K'
        try simp only [Act.put, List.setIfInBounds_toArray, List.set_cons_zero, List.set_cons_succ]
        refine wpAnyH_done (by kernel_rfl) ?_ _
        have hrg6 := c6.ranging (hc5.ranging (hrg4.below (below_drew _)) (by decide) (by decide) rfl) (by decide) (by decide) rfl
        have hB6 := c6.below (hc5.below ((below_to hB1 hX4).drew) (by omega)) (by omega)
        have s0 := c6.box (hc5.box u0.drew (by omega)) (by omega)
        have s1 := c6.box t1 (by omega)
        have s2 := t2.set 0 (.int .i64 y.used)
        have hir := HZ.out.2.2.1
        have hlt : i < rest.length := (List.getElem?_eq_some_iff.1 hir).1
        have hml : (x, y) ∈ l := hsub.subset (List.mem_of_getElem? hir)
        have hLn : Least l (rest.eraseIdx i) x y.used := least_new hL hir hml (by assumption) HP.out
        go_roundw
        case rel => (repeat apply Exists.intro); exact ⟨⟨rest.eraseIdx i, x, y.used, hrg6, (List.eraseIdx_sublist rest i).trans hsub, s0, HZ.out.2.1 ▸ s1, s2, hLn, HZ.out.2.2.2.1, hB6⟩, rfl⟩
        case measure => rw [hrg6.left, hrg.left, List.length_eraseIdx_of_lt hlt]; omega
      · have hir := HZ.out.2.2.1
        have hlt : i < rest.length := (List.getElem?_eq_some_iff.1 hir).1
        have hno : 0 ≤ n ∧ n ≤ y.used := by assumption
        exact ⟨⟨rest.eraseIdx i, k, n, hrg4, (List.eraseIdx_sublist rest i).trans hsub, u0, u1, u2, least_old hL hir (by omega) (by omega), hok0, below_to hB1 hX4⟩, by rw [hrg4.left, hrg.left, List.length_eraseIdx_of_lt hlt]; omega⟩
end Go.Proofs.YtoncaejgflfhhaaGreatDoor
