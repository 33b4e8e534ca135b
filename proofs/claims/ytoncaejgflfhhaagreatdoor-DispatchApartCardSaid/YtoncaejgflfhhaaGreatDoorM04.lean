/- cmp.Compare, slices.Compare of ints; the methods' has and the closures that ask it. | The methods' has, and the closures that ask it; dispatch.Index. -/
import Derived.Test.YtoncaejgflfhhaaGreatDoorM03
import Derived.Test.YtoncaejgflfhhaaGreatDoorM00
set_option linter.unusedVariables false
set_option linter.unusedSimpArgs false
namespace Go.Proofs.YtoncaejgflfhhaaGreatDoor
open Go.RowKit

def cmpI (a b : Int) : Int := if a < b then -1 else if b < a then 1 else 0
def cmpL : List Int → List Int → Int
  | [], [] => 0
  | [], _ :: _ => -1
  | _ :: _, [] => 1
  | a :: r, b :: s => if cmpI a b = 0 then cmpL r s else cmpI a b

theorem cmp142 (a b : Int) (w : World) : Calls Tryz.prog 142 #[.int .i64 a, .int .i64 b] w fun e w' => e = .returned (.int .i64 (cmpI a b)) ∧ w = w' := by
  unfold cmpI
  by_cases h1 : a < b
  · rw [if_pos h1]
    have g : decide (a < b) = true := decide_eq_true h1
    go_enter Tryz.func142, Tryz.ntmps142
    go_wp2
    go_ret
    exact ⟨rfl, rfl⟩
  · rw [if_neg h1]
    have g : decide (a < b) = false := decide_eq_false h1
    by_cases h2 : b < a
    · rw [if_pos h2]
      have g2 : decide (b < a) = true := decide_eq_true h2
      clear h1 h2
      go_enter Tryz.func142, Tryz.ntmps142
      go_wp2
      go_ret
      exact ⟨rfl, rfl⟩
    · rw [if_neg h2]
      have g2 : decide (b < a) = false := decide_eq_false h2
      clear h1 h2
      go_enter Tryz.func142, Tryz.ntmps142
      go_wp2
      go_ret
      exact ⟨rfl, rfl⟩

theorem cmpL_drop {xs ys : List Int} {j : Nat} (h1 : j < xs.length) (h2 : j < ys.length) : cmpL (xs.drop j) (ys.drop j) = if cmpI xs[j] ys[j] = 0 then cmpL (xs.drop (j + 1)) (ys.drop (j + 1)) else cmpI xs[j] ys[j] := by
  rw [List.drop_eq_getElem_cons h1, List.drop_eq_getElem_cons h2, cmpL]

set_option maxRecDepth 100000 in
theorem compare108 (e e' : Option Nat) (xs ys : List Int) (v v' : Value) (w : World) (h : (Rp.slice e Rp.int).K w xs [v]) (k : (Rp.slice e' Rp.int).K w ys [v']) :
    Calls Tryz.prog 108 #[v, v'] w (RV (.int .i64 (cmpL xs ys)) w) := by
  obtain ⟨A, c, hv, h1, h2, h3, h4⟩ := h
  obtain ⟨B, d, kv, k1, k2, k3, k4⟩ := k
  cases hv
  cases kv
  have hm : xs.length ≤ 9223372036854775807 := by unfold maxLen at h2; omega
  have hm' : ys.length ≤ 9223372036854775807 := by unfold maxLen at k2; omega
  have H4 := Lib.hid h4
  have K4 := Lib.hid k4
  clear h1 h2 h3 h4 k1 k2 k3 k4
  go_enter Tryz.func108, Tryz.ntmps108
  go_wp2
  go_loopw [4, 5, 6, 7, 8, 11] (fun r i a b c k wr => ∃ j : Nat, j ≤ xs.length ∧ j ≤ ys.length ∧ k = .int .i64 j ∧ Below w.heap.size w wr ∧ Hid (cmpL xs ys = cmpL (xs.drop j) (ys.drop j))) (fun r i a b c k _ => xs.length - (intOf k).toNat)
  case atStart => exact ⟨0, Nat.zero_le _, Nat.zero_le _, rfl, Below.refl _ _, Lib.hid rfl⟩
  case round =>
    obtain ⟨j, hj, hj', rfl, hB, HP⟩ := hrel
    by_cases hlt : j < xs.length
    · obtain ⟨b, off, cs, hA, hbl, ⟨rfl, hk⟩, hcell⟩ := Rp.Row_get (Rp.Row_mov (Same.of_below hB) H4.out) j hlt
      subst hA
      obtain ⟨x, hx⟩ : ∃ x, x = xs[j] := ⟨_, rfl⟩
      rw [← hx] at hcell
      have HX := Lib.hid hx
      have c0 : wr.cell? ⟨b, off + j, none⟩ = some (.int .i64 x) := by have := hcell 0 _ rfl; simpa [Rp.int, Rp.scalar, ← HX.out] using this
      clear hcell hk hx
      by_cases hlt' : j < ys.length
      · obtain ⟨b', off', cs', hA', hbl', ⟨rfl, hk'⟩, hcell'⟩ := Rp.Row_get (Rp.Row_mov (Same.of_below hB) K4.out) j hlt'
        subst hA'
        obtain ⟨y, hy⟩ : ∃ y, y = ys[j] := ⟨_, rfl⟩
        rw [← hy] at hcell'
        have HY := Lib.hid hy
        have c1 : wr.cell? ⟨b', off' + j, none⟩ = some (.int .i64 y) := by have := hcell' 0 _ rfl; simpa [Rp.int, Rp.scalar, ← HY.out] using this
        clear hcell' hk' hy
        have HD := Lib.hid (cmpL_drop hlt hlt')
        have HC := Lib.hid (cmp142 x y wr)
        obtain ⟨z, hz⟩ : ∃ z, z = cmpI x y := ⟨_, rfl⟩
        rw [← hz] at HC
        have HZ := Lib.hid hz
        clear hz
        by_cases hz0 : z = 0
        · have g : (z == 0) = true := by simpa using hz0
          have hn : (z != 0) = false := by simpa using hz0
          have H0 := Lib.hid hz0
          clear hz0
          go_wp2_with (refine HC.out.mono ?_; rintro e w' ⟨rfl, rfl⟩)
          go_roundw
          case rel => exact ⟨j + 1, by omega, by omega, by go_num, hB, Lib.hid (by rw [HP.out, HD.out, if_pos (by rw [← HX.out, ← HY.out, ← HZ.out]; exact H0.out)])⟩
          case measure => simp [intOf]; omega
        · have hn : (z != 0) = true := by simpa using hz0
          have H0 := Lib.hid hz0
          clear hz0
          go_wp2_with (refine HC.out.mono ?_; rintro e w' ⟨rfl, rfl⟩)
          go_ret
          exact ⟨by rw [HP.out, HD.out, if_neg (by rw [← HX.out, ← HY.out, ← HZ.out]; exact H0.out), ← HX.out, ← HY.out, ← HZ.out]; rfl, hB⟩
      · have hle : ys.length ≤ j := by omega
        go_wp2
        go_ret
        exact ⟨by rw [HP.out, List.drop_of_length_le hle, List.drop_eq_getElem_cons hlt]; rfl, hB⟩
    · have hle : xs.length ≤ j := by omega
      have hje : j = xs.length := by omega
      by_cases hlt' : j < ys.length
      · have hll : xs.length < ys.length := by omega
        go_wp2
        go_ret
        exact ⟨by rw [HP.out, List.drop_of_length_le hle, List.drop_eq_getElem_cons hlt']; rfl, hB⟩
      · have hll : ¬ xs.length < ys.length := by omega
        go_wp2
        go_ret
        exact ⟨by rw [HP.out, List.drop_of_length_le hle, List.drop_of_length_le (by omega)]; rfl, hB⟩
end Go.Proofs.YtoncaejgflfhhaaGreatDoor
namespace Go.Proofs.YtoncaejgflfhhaaGreatDoor
open Go.RowKit

def hasM (m : Meth) (q : List ByteArray) (s : List Spec) : Bool := decide (m.quals = q) && decide (m.specs = s)
theorem has79 (e e' : Option Nat) (m : Meth) (cs : List Value) (q : List ByteArray) (s : List Spec) (vq vs : Value) (w : World) (hm : rMeth.K w m cs) (hq : (Rp.slice e Rp.str).K w q [vq]) (hs : (Rp.slice e' rSpec).K w s [vs]) :
    Calls Tryz.prog 79 #[rMeth.val cs, vq, vs] w (RV (.bool (hasM m q s)) w) := by
  obtain ⟨mq, ms, rfl, h1, h2, _⟩ := hm
  simp only [Rp.val, rMeth, if_true]
  unfold hasM
  have H1 := Lib.hid (fun w' (hb : Below w.heap.size w w') => equal114 (some 9) e m.quals q mq vq w' (K_below h1 hb) (K_below hq hb))
  have H2 := Lib.hid (fun w' (hb : Below w.heap.size w w') => equal124 (some 36) e' m.specs s ms vs w' (K_below h2 hb) (K_below hs hb))
  clear h1 h2 hq hs
  cases hp : decide (m.quals = q) with
  | true =>
    rw [hp] at H1
    clear hp
    go_enter Tryz.func79, Tryz.ntmps79
    go_wp2_with (first | (go_at_call 114; refine (H1.out _ (below_one _ _)).mono ?_; rintro e w1 ⟨rfl, hB1⟩; have hb1 := below_to (below_one _ _) hB1; obtain ⟨hc, hf⟩ := bcell hB1) | (go_at_call 124; refine (H2.out _ hb1).mono ?_; rintro e w2 ⟨rfl, hB2⟩))
    go_ret
    exact ⟨by simp, below_to hb1 hB2⟩
  | false =>
    rw [hp] at H1
    clear hp
    go_enter Tryz.func79, Tryz.ntmps79
    go_wp2_with (first | (go_at_call 114; refine (H1.out _ (below_one _ _)).mono ?_; rintro e w1 ⟨rfl, hB1⟩; have hb1 := below_to (below_one _ _) hB1; obtain ⟨hc, hf⟩ := bcell hB1) | (go_at_call 124; refine (H2.out _ hb1).mono ?_; rintro e w2 ⟨rfl, hB2⟩))
    go_ret
    exact ⟨by simp, hb1⟩

theorem enters78 : Enters 78 := fun args w => by kernel_rfl
theorem enters90 : Enters 90 := fun args w => by kernel_rfl
theorem enters72 : Enters 72 := fun args w => by kernel_rfl

/-- Add's question: has x the qualifiers and specializers of m, which lies at block b? -/
theorem pred78 (b : Nat) (m : Meth) (mq ms mf : Value) (w : World) (xs : List Meth) (c0 : w.cell? ⟨b, 0, none⟩ = some mq) (c1 : w.cell? ⟨b, 1, none⟩ = some ms) (c2 : w.cell? ⟨b, 2, none⟩ = some mf)
    (hq : sStr.K w m.quals [mq]) (hs : sSpec.K w m.specs [ms]) : Pred rMeth 78 #[.pointer (some ⟨b, 0, none⟩)] w xs (fun x => hasM x m.quals m.specs) := by
  intro x _ cs w' hb hx
  obtain ⟨xq, xs, rfl, h1, h2, h3⟩ := hx
  have d0 := cell_later hb c0
  have d1 := cell_later hb c1
  have d2 := cell_later hb c2
  have l0 := World.block_lt_of_cell? w' _ d0
  have H1 := Lib.hid (fun w'' (hb' : Below w'.heap.size w' w'') => has79 (some 9) (some 36) x [xq, xs, .int .i64 x.fn] m.quals m.specs mq ms w'' ⟨xq, xs, rfl, K_below h1 hb', K_below h2 hb', h3⟩ (K_below (K_below hq hb) hb') (K_below (K_below hs hb) hb'))
  simp only [Rp.val, rMeth, if_true] at H1 ⊢
  clear h1 h2 h3 hq hs c0 c1 c2 hb
  go_enter Tryz.func78, Tryz.ntmps78
  go_wp2_with (go_at_call 79; refine (H1.out _ (below_one _ _)).mono ?_; rintro e w1 ⟨rfl, hB1⟩)
  go_ret
  exact ⟨rfl, below_to (below_one _ _) hB1⟩

/-- Remove's question. -/
theorem pred90 (b b' : Nat) (q : List ByteArray) (s : List Spec) (e e' : Option Nat) (vq vs : Value) (w : World) (xs : List Meth) (c0 : w.cell? ⟨b, 0, none⟩ = some vq) (c1 : w.cell? ⟨b', 0, none⟩ = some vs)
    (hq : (Rp.slice e Rp.str).K w q [vq]) (hs : (Rp.slice e' rSpec).K w s [vs]) : Pred rMeth 90 #[.pointer (some ⟨b, 0, none⟩), .pointer (some ⟨b', 0, none⟩)] w xs (fun x => hasM x q s) := by
  intro x _ cs w' hb hx
  obtain ⟨xq, xs, rfl, h1, h2, h3⟩ := hx
  have d0 := cell_later hb c0
  have d1 := cell_later hb c1
  have l0 := World.block_lt_of_cell? w' _ d0
  have l1 := World.block_lt_of_cell? w' _ d1
  have H1 := Lib.hid (fun w'' (hb' : Below w'.heap.size w' w'') => has79 e e' x [xq, xs, .int .i64 x.fn] q s vq vs w'' ⟨xq, xs, rfl, K_below h1 hb', K_below h2 hb', h3⟩ (K_below (K_below hq hb) hb') (K_below (K_below hs hb) hb'))
  simp only [Rp.val, rMeth, if_true] at H1 ⊢
  clear h1 h2 h3 hq hs c0 c1 hb
  go_enter Tryz.func90, Tryz.ntmps90
  go_wp2_with (go_at_call 79; refine (H1.out _ (below_one _ _)).mono ?_; rintro e w1 ⟨rfl, hB1⟩)
  go_ret
  exact ⟨rfl, below_to (below_one _ _) hB1⟩

theorem pred72 (b : Nat) (nm : ByteArray) (w : World) (xs : List Gen) (c0 : w.cell? ⟨b, 0, none⟩ = some (.string nm)) : Pred rGen 72 #[.pointer (some ⟨b, 0, none⟩)] w xs (fun x => decide (x.name = nm)) := by
  intro x _ cs w' hb hx
  obtain ⟨xm, rfl, h1, h3⟩ := hx
  have d0 := cell_later hb c0
  have l0 := World.block_lt_of_cell? w' _ d0
  simp only [Rp.val, rGen, if_true]
  rw [← str_beq]
  clear h1 h3 c0 hb
  go_enter Tryz.func72, Tryz.ntmps72
  go_wp2
  go_ret
  exact ⟨rfl, below_one _ _⟩

/-- dispatch.Index: the number, or 0 and ErrNone. -/
def indexSt (gs : List Gen) (nm : ByteArray) : Int × Int := if fidx (fun x => decide (x.name = nm)) gs < 0 then (0, 5) else (fidx (fun x => decide (x.name = nm)) gs, 0)
theorem index28 (s : St) (cs : List Value) (nm : ByteArray) (w : World) (h : rSt.K w s cs) :
    Calls Tryz.prog 28 #[rSt.val cs, .string nm] w (RV (.tuple #[.int .i64 (indexSt s.gens nm).1, .int .i64 (indexSt s.gens nm).2]) w) := by
  obtain ⟨g, c, rfl, hg, hc, _⟩ := h
  simp only [Rp.val, rSt, if_true]
  have H := Lib.hid (fun w' (hb : Below w.heap.size w w') b (hn : w'.cell? ⟨b, 0, none⟩ = some (.string nm)) => ifn71 rGen rfl rfl (some 80) s.gens g 72 #[.pointer (some ⟨b, 0, none⟩)] _ w' (K_below hg hb) enters72 (pred72 b nm w' s.gens hn))
  unfold indexSt
  clear hg hc
  generalize fidx (fun x => decide (x.name = nm)) s.gens = z at *
  by_cases hz : z < 0
  · rw [if_pos hz]
    go_enter Tryz.func28, Tryz.ntmps28
    go_wp2_with (go_at_call 71; refine (H.out _ (below_more (below_one _ _) _) _ (by simp)).mono ?_; rintro e w1 ⟨rfl, hB1⟩)
    go_ret2
    exact ⟨rfl, below_to (below_more (below_one _ _) _) hB1⟩
  · rw [if_neg hz]
    go_enter Tryz.func28, Tryz.ntmps28
    go_wp2_with (go_at_call 71; refine (H.out _ (below_more (below_one _ _) _) _ (by simp)).mono ?_; rintro e w1 ⟨rfl, hB1⟩)
    go_ret2
    exact ⟨rfl, below_to (below_more (below_one _ _) _) hB1⟩
end Go.Proofs.YtoncaejgflfhhaaGreatDoor
