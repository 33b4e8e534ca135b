/- Four rows whose headers lie in one block, one of which grows; a map from numbers to pointers into that block. | slices.Reverse. | slices.Reverse of nothing; the range of what Applicable returns. | dispatch's looks: its question. -/
import Derived.Test.YtoncaejgflfhhaaGreatDoorM23
import Derived.Test.YtoncaejgflfhhaaGreatDoorM08
import Derived.Test.YtoncaejgflfhhaaGreatDoorM17
import Derived.Test.YtoncaejgflfhhaaGreatDoorM04
import Derived.Test.YtoncaejgflfhhaaGreatDoorM01
import Derived.Deep.QuietTactic
import Derived.BigQuiet
set_option linter.unusedVariables false
set_option linter.unusedSimpArgs false
namespace Go.Proofs.YtoncaejgflfhhaaGreatDoor
open Go.RowKit

/-- A pointer, of what it points to it says nothing. -/
def Rp.ptr : Rp (Nat × Nat) := Rp.scalar (fun p => Value.pointer (some ⟨p.1, p.2, none⟩)) (fun _ => True) (fun _ => rfl)
theorem zero148 (w : World) : (zeroValue 148).run Tryz.prog w = .ok (.pointer none) w := by kernel_rfl

section
variable {κ β : Type} {kv : κ → Value} {ok : κ → Prop} {d : Rp β} {P : Program} {k e : TypeId} {b : Nat} {l : List (κ × β)} [DecidableEq κ] (w : World) {ops : Array Oper} {tl : List Oper} {o : Oper} {a : Act} {Q : Exit → Act → World → Prop}
/-- An element of a map that is written out. -/
theorem wp_map_insert (hg : o.guard = none) (m x v : Operand) (t : TypeId) (hop : o.op = Op.insert t m x v) (K : Keys P k kv ok) (ht : P.underlying t = some (.map k e)) (hE : d.E 1000 = false)
    (hm : a.eval m = .map (some b)) (h : MapIs kv ok d w b l) {X : κ} (hx : a.eval x = kv X) (hX : ok X) {y : β} {cs : List Value} (hv : a.eval v = d.val cs) (hK : d.K w y cs)
    (hgo : ∀ w', MapIs kv ok d w' b (aput X y l) → w.grownBy w' (some b) → (∀ E : Nat → Bool, E 1000 = false → Same E w w') → w'.heap.size = w.heap.size → wpList P ops Q tl (a.put o.dst undef) w') :
    wpList P ops Q (o :: tl) a w := by
  refine wpList_plain hg fun K' hK' => ?_
  obtain ⟨w', hrun, r1, r2, r3, r4⟩ := h.store K ht hE hX hK
  unfold Oper.wp
  simp [execOp, hop, hm, hx, hv, hrun, Result.andThen]
  exact hK' _ _ (hgo w' r1 r2 r3 r4)
end

def planL (p : Plan) : Nat → List Int
  | 0 => p.ar
  | 1 => p.be
  | 2 => p.pr
  | _ => p.af
theorem four_cases {i : Nat} (h : i < 4) : i = 0 ∨ i = 1 ∨ i = 2 ∨ i = 3 := by omega
theorem planL_add (p : Plan) (x : Int) {t i : Nat} (ht : t < 4) (hi : i < 4) : planL (planAdd p ((t : Int) + 1) x) i = if i = t then planL p i ++ [x] else planL p i := by
  rcases four_cases ht with rfl | rfl | rfl | rfl <;> rcases four_cases hi with rfl | rfl | rfl | rfl <;> rfl
theorem planAdd_op (p : Plan) (r x : Int) : (planAdd p r x).op = p.op := by
  unfold planAdd
  split
  · rfl
  split
  · rfl
  split <;> rfl

/-- Four rows of numbers, each of its own. -/
def Four (base : Nat) (w : World) (f : Nat → Value) (p : Plan) : Prop :=
  (∀ i, i < 4 → Own 3 Rp.int base w (f i) (planL p i)) ∧ ∀ i j, i < 4 → j < 4 → i ≠ j → ∀ g, (f i).ownBlock = some g → (f j).ownBlock ≠ some g
def putF (f : Nat → Value) (t : Nat) (v : Value) : Nat → Value := fun i => if i = t then v else f i
def fourCells (f : Nat → Value) : List Value := [f 0, f 1, f 2, f 3, .string ⟨#[]⟩]
theorem fourCells_set (f : Nat → Value) {t : Nat} (ht : t < 4) (v : Value) : (fourCells f).set t v = fourCells (putF f t v) := by
  rcases four_cases ht with rfl | rfl | rfl | rfl <;> rfl
theorem fourCells_get (f : Nat → Value) {t : Nat} (ht : t < 4) : (fourCells f)[t]? = some (f t) := by
  rcases four_cases ht with rfl | rfl | rfl | rfl <;> rfl
namespace Four
variable {base : Nat} {w w1 : World} {f : Nat → Value} {p : Plan}
theorem start (base : Nat) (w : World) : Four base w (fun _ => .slice none 0 0) emptyPlan :=
  ⟨fun i hi => by rcases four_cases hi with rfl | rfl | rfl | rfl <;> exact Own.nil _ _ _ _, fun i j _ _ _ g h => by simp [Value.ownBlock] at h⟩
theorem below (h : Four base w f p) (hb : Below w.heap.size w w1) : Four base w1 f p := ⟨fun i hi => (h.1 i hi).below hb, h.2⟩
theorem push (h : Four base w f p) {t : Nat} (ht : t < 4) {o : Obj} {v1 : Value} {x : Int} (hA : Apd 3 Rp.int base (w.alloc o) w1 (f t) v1 (planL p t) [x]) : Four base w1 (putF f t v1) (planAdd p ((t : Int) + 1) x) := by
  refine ⟨fun i hi => ?_, fun i j hi hj hne g hg => ?_⟩
  · rw [planL_add p x ht hi]
    unfold putF
    by_cases hit : i = t
    · rw [if_pos hit, if_pos hit, hit]
      exact hA.own
    · rw [if_neg hit, if_neg hit]
      exact hA.beside_lt (h.1 i hi) (fun g hg => h.2 i t hi ht hit g hg) (fun _ _ h _ => by cases h)
  · unfold putF at hg ⊢
    by_cases hit : i = t
    · have hjt : ¬ j = t := fun e => hne (hit.trans e.symm)
      rw [if_pos hit] at hg
      rw [if_neg hjt]
      intro hj'
      have hl : g < (w.alloc o).heap.size := (((h.1 j hj).alloc o).ge g hj').2
      rcases hA.at_ with h1 | h1
      · exact h.2 j t hj ht hjt g hj' (h1 ▸ hg)
      · rw [h1] at hg
        cases hg
        omega
    · rw [if_neg hit] at hg
      by_cases hjt : j = t
      · rw [if_pos hjt]
        exact hA.ne (((h.1 i hi).alloc o).ge g hg).2 (h.2 i t hi ht hit g hg)
      · rw [if_neg hjt]
        exact h.2 i j hi hj hne g hg
theorem set_box (h : Four base w f p) {b : Nat} {cs : List Value} (hb : Box w b 48 cs) (j : Nat) (u : Value) : Four base (w.setCell ⟨b, j, none⟩ u) f p :=
  ⟨fun i hi => (h.1 i hi).set_box hb (by decide) rfl j u, h.2⟩
theorem K (h : Four base w f p) (op : ByteArray) (hop : op.size ≤ maxLen) : rPlan.K w { p with op := op } [f 0, f 1, f 2, f 3, .string op] :=
  ⟨_, _, _, _, rfl, (h.1 0 (by omega)).read, (h.1 1 (by omega)).read, (h.1 2 (by omega)).read, (h.1 3 (by omega)).read, hop⟩
end Four

/-- The pointers to the four headers, by roles. -/
def roleMap (b : Nat) : List (Int × (Nat × Nat)) := [(1, (b, 0)), (2, (b, 1)), (3, (b, 2)), (4, (b, 3))]
theorem roleMap_get (b : Nat) {t : Nat} (ht : t < 4) : aget ((t : Int) + 1) (roleMap b) = some (b, t) := by
  rcases four_cases ht with rfl | rfl | rfl | rfl <;> rfl
theorem roleMap_zero (b : Nat) : aget (0 : Int) (roleMap b) = none := rfl
theorem role_range (c : ByteArray) (q : List ByteArray) : roleS c q = 0 ∨ ∃ t : Nat, t < 4 ∧ roleS c q = (t : Int) + 1 := by
  have ite : ∀ (c : Prop) [Decidable c] (a b : Int), (a = 0 ∨ a = 1 ∨ a = 2 ∨ a = 3 ∨ a = 4) → (b = 0 ∨ b = 1 ∨ b = 2 ∨ b = 3 ∨ b = 4) → ((if c then a else b) = 0 ∨ (if c then a else b) = 1 ∨ (if c then a else b) = 2 ∨ (if c then a else b) = 3 ∨ (if c then a else b) = 4) := fun c _ a b ha hb => by
    by_cases h : c
    · rw [if_pos h]; exact ha
    · rw [if_neg h]; exact hb
  have : roleS c q = 0 ∨ roleS c q = 1 ∨ roleS c q = 2 ∨ roleS c q = 3 ∨ roleS c q = 4 := by
    match q with
    | [] => exact ite _ _ _ (by omega) (by omega)
    | [x] => exact ite _ _ _ (by omega) (ite _ _ _ (ite _ _ _ (by omega) (ite _ _ _ (by omega) (by omega))) (ite _ _ _ (by omega) (by omega)))
    | _ :: _ :: _ => exact .inl rfl
  rcases this with h | h | h | h | h
  · exact .inl h
  · exact .inr ⟨0, by omega, h⟩
  · exact .inr ⟨1, by omega, h⟩
  · exact .inr ⟨2, by omega, h⟩
  · exact .inr ⟨3, by omega, h⟩
theorem emptyPlan_K (w : World) : rPlan.K w emptyPlan [.slice none 0 0, .slice none 0 0, .slice none 0 0, .slice none 0 0, .string ⟨#[]⟩] :=
  ⟨_, _, _, _, rfl, nil_K _ _ w, nil_K _ _ w, nil_K _ _ w, nil_K _ _ w, Nat.zero_le _⟩

/-- How many functions a plan has, at most. -/
def planN (p : Plan) : Nat := p.ar.length + p.be.length + p.pr.length + p.af.length
theorem planN_add (p : Plan) (r x : Int) : planN (planAdd p r x) = planN p + 1 := by
  unfold planAdd planN
  split
  · simp; omega
  split
  · simp; omega
  split <;> simp <;> omega
theorem planL_le (p : Plan) (t : Nat) : (planL p t).length ≤ planN p := by
  unfold planN
  match t with
  | 0 => simp [planL]; omega
  | 1 => simp [planL]; omega
  | 2 => simp [planL]; omega
  | _ + 3 => simp [planL]
theorem planGo_snoc (g : Gen) : ∀ (l : List Int) (i : Int) (p : Plan) (m : Meth), g.meths[i.toNat]? = some m → planGo g (l ++ [i]) p = (planGo g l p).bind fun q => if roleS g.comb m.quals = 0 then none else some (planAdd q (roleS g.comb m.quals) m.fn)
  | [], i, p, m, h => by
    simp only [List.nil_append, planGo, h, Option.bind_some]
  | j :: r, i, p, m, h => by
    rw [List.cons_append, planGo, planGo]
    split
    · rfl
    · split
      · rfl
      · exact planGo_snoc g r i _ m h
theorem planGo_none (g : Gen) : ∀ (l r : List Int) (p : Plan), planGo g l p = none → planGo g (l ++ r) p = none
  | [], _, _, h => by cases h
  | j :: l, r, p, h => by
    rw [List.cons_append, planGo]
    rw [planGo] at h
    split
    · rfl
    · rename_i m hm
      rw [hm] at h
      simp only at h
      split
      · rfl
      · rename_i h0
        rw [if_neg h0] at h
        exact planGo_none g l r _ h
end Go.Proofs.YtoncaejgflfhhaaGreatDoor
namespace Go.Proofs.YtoncaejgflfhhaaGreatDoor
open Go.RowKit

set_option maxHeartbeats 4000000 in
set_option maxRecDepth 100000 in
theorem reverse57 (L : List Int) (N g cap base : Nat) (w : World) (hN : N = L.length) (hm : N ≤ 1000000) (hO : Own 3 Rp.int base w (.slice (some ⟨g, 0, none⟩) N cap) L) :
    Calls Tryz.prog 57 #[.slice (some ⟨g, 0, none⟩) N cap] w fun e w' => e = .returned (.tuple #[]) ∧ Own 3 Rp.int base w' (.slice (some ⟨g, 0, none⟩) N cap) L.reverse ∧ w.grownBy w' (some g) := by
  have hL := Lib.hid hN
  have HO := Lib.hid hO
  clear hN hO
  go_enter Tryz.func57, Tryz.ntmps57
  go_wp2
  go_loopw [2, 3] (fun va vb wr => ∃ (i : Nat) (k : Int) (P M S : List Int), va = .int .i64 i ∧ vb = .int .i64 k ∧ k + i + 1 = N ∧ i ≤ N ∧ Own 3 Rp.int base wr (.slice (some ⟨g, 0, none⟩) N cap) (S.reverse ++ (M ++ P.reverse)) ∧ Hid (L = P ++ (M ++ S) ∧ P.length = i ∧ S.length = i) ∧ w.grownBy wr (some g)) (fun va _ _ => N - (intOf va).toNat)
  case atStart => exact ⟨0, (N : Int) - 1, [], L, [], rfl, rfl, by omega, Nat.zero_le _, by simpa using HO.out, Lib.hid ⟨by simp, rfl, rfl⟩, World.grownBy.refl w (some g)⟩
  case round =>
    obtain ⟨i, k, P, M, S, rfl, rfl, hk, hi, hO, HH, hg⟩ := hrel
    by_cases hlt : (i : Int) < k
    · obtain ⟨j, rfl⟩ : ∃ j : Nat, k = j := ⟨k.toNat, by omega⟩
      have hlen : N = P.length + (M.length + S.length) := by rw [hL.out, HH.out.1, List.length_append, List.length_append]
      have hM2 : 2 ≤ M.length := by have := HH.out.2; omega
      obtain ⟨x, M1, rfl⟩ : ∃ x M1, M = x :: M1 := by
        cases M with
        | nil => simp at hM2
        | cons x r => exact ⟨x, r, rfl⟩
      obtain ⟨Z, y, hc⟩ : ∃ Z y, M1 = Z ++ [y] := by
        rcases List.eq_nil_or_concat M1 with rfl | ⟨Z, y, h⟩
        · simp at hM2
        · exact ⟨Z, y, by rw [h, List.concat_eq_append]⟩
      subst hc
      have l1 : S.reverse.length = i := by rw [List.length_reverse]; exact HH.out.2.2
      have l2 : (S.reverse ++ (x :: Z)).length = j := by
        have := HH.out.2
        simp only [List.length_append, List.length_reverse, List.length_cons, List.length_nil] at hlen ⊢
        omega
      have f1 : S.reverse ++ ((x :: (Z ++ [y])) ++ P.reverse) = S.reverse ++ x :: (Z ++ (y :: P.reverse)) := by simp
      have f2 : S.reverse ++ ((x :: (Z ++ [y])) ++ P.reverse) = (S.reverse ++ (x :: Z)) ++ y :: P.reverse := by simp
      have f3 : ((S.reverse ++ ((x :: (Z ++ [y])) ++ P.reverse)).set i y).set j x = (y :: S).reverse ++ (Z ++ (P ++ [x]).reverse) := by
        rw [f1, set_mid _ _ _ _ _ l1]
        rw [show S.reverse ++ y :: (Z ++ (y :: P.reverse)) = (S.reverse ++ (y :: Z)) ++ y :: P.reverse from by simp, set_mid _ _ _ _ _ (by simpa using l2)]
        simp
      have hn : N = (S.reverse ++ ((x :: (Z ++ [y])) ++ P.reverse)).length := by
        rw [hL.out, HH.out.1]
        simp
        omega
      obtain ⟨c1, cf, cl, o1, b1⟩ := hO.at1 hn (i := i) (x := x) (by rw [f1]; exact get_mid _ _ _ _ l1)
      obtain ⟨c2, _, _, o2, b2⟩ := hO.at1 hn (i := j) (x := y) (by rw [f2]; exact get_mid _ _ _ _ l2)
      have HF := Lib.hid (And.intro f3 (And.intro hn (And.intro o1 o2)))
      have hne : ¬ i = j := by omega
      have hne' : ¬ j = i := by omega
      have k3 : (i : Int) < N := by omega
      have k4 : (j : Int) < N := by omega
      clear hlen hM2 l1 l2 f1 f2 f3 hn o1 o2
      go_wp2
      go_region
      obtain ⟨s1, r1⟩ := hO.set1 HF.out.2.1 (i := i) (by omega) HF.out.2.2.2
      obtain ⟨s2, r2⟩ := s1.set1 (by rw [List.length_set]; exact HF.out.2.1) (i := j) (by omega) HF.out.2.2.1
      rw [HF.out.1] at s2
      have r3 := (hg.trans r1).trans r2
      have HS := Lib.hid (And.intro s2 r3)
      clear s1 r1 s2 r2 r3
      go_wp2
      exact ⟨⟨i + 1, (j : Int) - 1, P ++ [x], Z, y :: S, by go_num, rfl, by omega, by omega, HS.out.1.drew, Lib.hid ⟨by rw [HH.out.1]; simp, by rw [List.length_append, HH.out.2.1]; rfl, by rw [List.length_cons, HH.out.2.2]⟩, grown_below HS.out.2 (below_drew _)⟩, by simp [intOf]; omega⟩
    · have hlen : N = P.length + (M.length + S.length) := by rw [hL.out, HH.out.1, List.length_append, List.length_append]
      have hM1 : M.length ≤ 1 := by have := HH.out.2; omega
      have hr : M.reverse = M := by
        match M, hM1 with
        | [], _ => rfl
        | [_], _ => rfl
      have e : L.reverse = S.reverse ++ (M ++ P.reverse) := by rw [HH.out.1]; simp [hr]
      rw [← e] at hO
      clear hlen hM1 hr e
      go_wp2
      go_end0
      exact ⟨rfl, hO, hg⟩
end Go.Proofs.YtoncaejgflfhhaaGreatDoor
namespace Go.Proofs.YtoncaejgflfhhaaGreatDoor
open Go.RowKit

set_option maxHeartbeats 4000000 in
theorem reverse57_nil (w : World) : Calls Tryz.prog 57 #[.slice none 0 0] w fun e w' => e = .returned (.tuple #[]) ∧ w = w' := by
  go_enter Tryz.func57, Tryz.ntmps57
  go_wp2
  go_loopw [2, 3] (fun va vb wr => va = .int .i64 0 ∧ vb = .int .i64 (-1) ∧ w = wr) (fun _ _ _ => 0)
  case atStart => exact ⟨rfl, rfl, rfl⟩
  case round =>
    obtain ⟨rfl, rfl, rfl⟩ := hrel
    go_wp2
    go_end0
    exact ⟨rfl, rfl⟩

/-- slices.Reverse of a row of one's own. -/
theorem rev57 (L : List Int) (v : Value) (base : Nat) (w : World) (hm : L.length ≤ 1000000) (hO : Own 3 Rp.int base w v L) :
    Calls Tryz.prog 57 #[v] w fun e w' => e = .returned (.tuple #[]) ∧ Own 3 Rp.int base w' v L.reverse ∧ w.grownBy w' v.ownBlock := by
  rcases hO.block with ⟨rfl, rfl⟩ | ⟨g, cap, cur, rfl, _⟩
  · refine (reverse57_nil w).mono ?_
    rintro e w' ⟨rfl, rfl⟩
    exact ⟨rfl, Own.nil _ _ _ _, World.grownBy.refl w _⟩
  · exact reverse57 L L.length g cap base w rfl hm hO

theorem appl_mem (s : CS) (g : Gen) (args : List Arg) : ∀ x ∈ (applS s g args).1, 0 ≤ x ∧ x < g.meths.length := by
  intro x hx
  unfold applS at hx
  split at hx
  · cases hx
  split at hx
  · have := (sortR_spec (rk := rkS g.meths args (listsS s args)) (hits_sorted args (listsS s args) g.meths 0)).2.mem_iff.1 hx
    have := hits_range _ _ _ _ _ this
    omega
  · cases hx
theorem appl_length (s : CS) (g : Gen) (args : List Arg) : (applS s g args).1.length ≤ g.meths.length := by
  unfold applS
  split
  · exact Nat.zero_le _
  split
  · have := (sortR_spec (rk := rkS g.meths args (listsS s args)) (hits_sorted args (listsS s args) g.meths 0)).2.length_eq
    show (sortR _ _).length ≤ _
    rw [this]
    exact hits_length _ _ _ _
  · exact Nat.zero_le _
end Go.Proofs.YtoncaejgflfhhaaGreatDoor
namespace Go.Proofs.YtoncaejgflfhhaaGreatDoor
open Go.RowKit

/-- Has the method's specializer number i this object? -/
def toldM (i : Nat) (o : ByteArray) (x : Meth) : Bool := match x.specs[i]? with | some s => s.eql && decide (s.obj = o) | none => false
theorem enters81 : Enters 81 := fun args w => by kernel_rfl

set_option maxRecDepth 100000 in
theorem pred81 (b1 b2 : Nat) (i : Nat) (cl : Value) (o : ByteArray) (w : World) (xs : List Meth) (c1 : w.cell? ⟨b1, 0, none⟩ = some (.int .i64 i)) (c2 : w.cell? ⟨b2, 0, none⟩ = some cl) (c3 : w.cell? ⟨b2, 1, none⟩ = some (.string o)) :
    Pred rMeth 81 #[.pointer (some ⟨b1, 0, none⟩), .pointer (some ⟨b2, 0, none⟩)] w xs (toldM i o) := by
  intro x _ cs w' hb hx
  obtain ⟨xq, xs, rfl, h1, h2, h3⟩ := hx
  have d1 := cell_later hb c1
  have d2 := cell_later hb c2
  have d3 := cell_later hb c3
  have l1 := World.block_lt_of_cell? w' _ d1
  have l2 := World.block_lt_of_cell? w' _ d2
  rw [rMeth_val]
  obtain ⟨A1, k1, rfl⟩ := slice_form h1
  unfold toldM
  obtain ⟨A2, k2, hxs, _, _, _, hrow⟩ := h2
  cases hxs
  clear h1 h3 c1 c2 c3 hb
  by_cases hi : i < x.specs.length
  · obtain ⟨b, off, c, hA, hbl, hk, hcell⟩ := Rp.Row_get hrow i hi
    subst hA
    obtain ⟨rfl, _⟩ := hk
    have e0 : w'.cell? ⟨b, off + i * 3, none⟩ = some _ := hcell 0 _ rfl
    have e1 : w'.cell? ⟨b, off + i * 3 + 1, none⟩ = some _ := hcell 1 _ rfl
    have e2 : w'.cell? ⟨b, off + i * 3 + 2, none⟩ = some _ := hcell 2 _ rfl
    rw [List.getElem?_eq_getElem hi]
    simp only []
    clear hcell hrow
    cases he : x.specs[i].eql with
    | false =>
      rw [he] at e0
      clear he
      go_enter Tryz.func81, Tryz.ntmps81
      go_wp2
      go_quiet (fail)
      go_wp2
      go_ret

      exact ⟨rfl, (below_one _ _).dN _⟩
    | true =>
      rw [he] at e0
      clear he
      rw [Bool.true_and, ← str_beq]
      go_enter Tryz.func81, Tryz.ntmps81
      go_wp2
      go_quiet (fail)
      go_wp2
      go_ret
      exact ⟨rfl, (below_one _ _).dN _⟩
  · rw [List.getElem?_eq_none (by omega)]
    go_enter Tryz.func81, Tryz.ntmps81
    go_wp2
    go_quiet (fail)
    go_wp2
    go_ret
    exact ⟨rfl, (below_one _ _).dN _⟩
end Go.Proofs.YtoncaejgflfhhaaGreatDoor
