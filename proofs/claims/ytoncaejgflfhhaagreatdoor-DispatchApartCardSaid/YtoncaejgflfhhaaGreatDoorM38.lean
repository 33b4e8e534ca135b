/- method's combinations and Make. -/
import Derived.Test.YtoncaejgflfhhaaGreatDoorM09
import Derived.Test.YtoncaejgflfhhaaGreatDoorM06
import Derived.Carry
set_option linter.unusedVariables false
set_option linter.unusedSimpArgs false
namespace Go.Proofs.YtoncaejgflfhhaaGreatDoor
open Go.RowKit

def combs : List ByteArray := [⟨#[83, 84, 65, 78, 68, 65, 82, 68]⟩, ⟨#[80, 82, 79, 71, 78]⟩, ⟨#[65, 78, 68]⟩, ⟨#[79, 82]⟩, ⟨#[76, 73, 83, 84]⟩, ⟨#[65, 80, 80, 69, 78, 68]⟩, ⟨#[78, 67, 79, 78, 67]⟩, ⟨#[43]⟩, ⟨#[77, 65, 88]⟩, ⟨#[77, 73, 78]⟩]
def combMap (k : Nat) : List (ByteArray × Bool) := (combs.take k).map fun s => (s, true)
theorem combMap_succ (k : Nat) (hk : k < 10) : aput (combs.getD k ⟨#[]⟩) true (combMap k) = combMap (k + 1) := by
  have : k = 0 ∨ k = 1 ∨ k = 2 ∨ k = 3 ∨ k = 4 ∨ k = 5 ∨ k = 6 ∨ k = 7 ∨ k = 8 ∨ k = 9 := by omega
  rcases this with rfl | rfl | rfl | rfl | rfl | rfl | rfl | rfl | rfl | rfl <;> decide
theorem combs_ok (k : Nat) (hk : k < 10) : okStr (combs.getD k ⟨#[]⟩) := by
  have : k = 0 ∨ k = 1 ∨ k = 2 ∨ k = 3 ∨ k = 4 ∨ k = 5 ∨ k = 6 ∨ k = 7 ∨ k = 8 ∨ k = 9 := by omega
  unfold okStr maxLen
  rcases this with rfl | rfl | rfl | rfl | rfl | rfl | rfl | rfl | rfl | rfl <;> decide

set_option maxRecDepth 100000 in
theorem combinations73 (w : World) : Calls Tryz.prog 73 #[] w fun e w' => ∃ b, e = .returned (.map (some b)) ∧ w.heap.size ≤ b ∧ MapIs Value.string okStr Rp.bool w' b (combMap 10) ∧ Below w.heap.size w w' := by
  have hmm := @run_makeMap Tryz.prog
  go_enter Tryz.func73, Tryz.ntmps73
  go_wp2
  go_loopw [7] (fun i wr => ∃ k : Nat, k ≤ 10 ∧ i = .int .i64 k ∧ MapIs Value.string okStr Rp.bool wr w.heap.size (combMap k) ∧ Below w.heap.size w wr ∧ ∀ j, j < 10 → wr.cell? ⟨w.heap.size + 1, j, none⟩ = some (.string (combs.getD j ⟨#[]⟩)))
    (fun i _ => 10 - (intOf i).toNat)
  case atStart =>
    refine ⟨0, Nat.zero_le _, rfl, (MapIs.made w).below (below_one _ _), below_more (below_one _ _) _, fun j hj => ?_⟩
    have : j = 0 ∨ j = 1 ∨ j = 2 ∨ j = 3 ∨ j = 4 ∨ j = 5 ∨ j = 6 ∨ j = 7 ∨ j = 8 ∨ j = 9 := by omega
    rcases this with rfl | rfl | rfl | rfl | rfl | rfl | rfl | rfl | rfl | rfl <;> go_simp <;> rfl
  case round =>
    obtain ⟨k, hk, rfl, hM, hB, hc⟩ := hrel
    by_cases hlt : k < 10
    · have c0 := hc k hlt
      have hok := combs_ok k hlt
      have hput := combMap_succ k hlt
      obtain ⟨s, hs⟩ : ∃ s, s = combs.getD k ⟨#[]⟩ := ⟨_, rfl⟩
      rw [← hs] at c0 hok hput
      have HH := Lib.hid (And.intro hc (And.intro hput hs))
      clear hc hput hs
      go_wp2_with (first | (at_mapUpdate; refine wp_map_store _ rfl _ _ _ 177 rfl keysStr Tryz.underlying177 rfl rfl hM (X := s) rfl hok (y := true) (cs := [.bool true]) rfl ⟨rfl, trivial⟩ ?_; intro w1 hM1 hg1 hs1 hz1) | go_in)
      go_roundw
      case rel => exact ⟨k + 1, by omega, by go_num, by rw [← HH.out.2.1]; exact hM1, hB.grown hg1 hB.size (fun j hj => by cases hj; exact Nat.le_refl _), fun j hj => by
        have e := HH.out.1 j hj
        rw [World.cell?_of_block (w := wr) (w' := w1) (a := ⟨w.heap.size + 1, j, none⟩) (hg1.block _ (World.block_lt_of_cell? wr _ e) (by simp))]
        exact e⟩
      case measure => simp [intOf]; omega
    · have : k = 10 := by omega
      subst this
      go_wp2
      go_ret
      exact ⟨_, rfl, Nat.le_refl _, hM, hB⟩

theorem aget_comb (c : ByteArray) : ∀ l : List ByteArray, aget c (l.map fun s => (s, true)) = none ∨ aget c (l.map fun s => (s, true)) = some true
  | [] => .inl rfl
  | s :: r => by
    rw [List.map_cons, aget]
    by_cases h : s = c
    · rw [if_pos h]; exact .inr rfl
    · rw [if_neg h]; exact aget_comb c r
def isComb (c : ByteArray) : Bool := (aget c (combMap 10)).isSome
theorem comb_yes {c : ByteArray} (h : isComb c = true) : aget c (combMap 10) = some true := by
  rcases aget_comb c combs with e | e
  · rw [isComb, show combMap 10 = combs.map fun s => (s, true) from rfl, e] at h; cases h
  · exact e
theorem comb_no {c : ByteArray} (h : isComb c = false) : aget c (combMap 10) = none := by
  rcases aget_comb c combs with e | e
  · exact e
  · rw [isComb, show combMap 10 = combs.map fun s => (s, true) from rfl, e] at h; cases h

/-- method.Make. -/
def makeG (n c : ByteArray) (r : Int) : Gen × Int :=
  if isComb c then if r < 0 ∨ 8 < r then (emptyGen, 3) else (⟨n, c, r, []⟩, 0) else (emptyGen, 292)

theorem zero4 (w : World) : (zeroValue 4).run Tryz.prog w = .ok (.bool false) w := by kernel_rfl

set_option maxRecDepth 100000 in
theorem make29 (n c : ByteArray) (r : Int) (w : World) (hn : n.size ≤ maxLen) (hc : c.size ≤ maxLen) (hr : Rp.okInt r) :
    Calls Tryz.prog 29 #[.string n, .string c, .int .i64 r] w (RE rGen (makeG n c r) w) := by
  have H := Lib.hid (fun w' => combinations73 w')
  unfold makeG
  cases hm : isComb c with
  | true =>
    have ha := comb_yes hm
    rw [if_pos rfl]
    by_cases h1 : r < 0
    · rw [if_pos (.inl h1)]
      clear hm hr hn
      go_enter Tryz.func29, Tryz.ntmps29
      go_wp2_with (first
        | (go_at_call 73; refine (H.out _).mono ?_; rintro e w1 ⟨b, rfl, hbb, hM, hB⟩; have hT := below_to (below_one _ _) hB; have bx := (Box.mk_ w (b := w.heap.size) rfl rfl).later hB; have f0 := bx.free 0; have f1 := bx.free 1; have f2 := bx.free 2; have f3 := bx.free 3; have c0 := bx.cell 0 _ rfl; have c1 := bx.cell 1 _ rfl; have c2 := bx.cell 2 _ rfl; have c3 := bx.cell 3 _ rfl; have lt := bx.lt)
        | (at_lookup; refine wp_map_found _ rfl _ _ 177 false rfl keysStr Tryz.underlying177 (zero4 _) rfl hM rfl hc ha ?_; rintro cs ⟨rfl, _⟩)
        | go_in)
      go_wp2
      have hb := below_put (by simp) [.string ⟨#[]⟩, .string ⟨#[]⟩, .int .i64 0, .slice none 0 0] 0 hT (b := w.heap.size)
      exact bodyPost_ret (v := .tuple #[.agg #[.string ⟨#[]⟩, .string ⟨#[]⟩, .int .i64 0, .slice none 0 0], .int .i64 _]) (by simp [results, Tryz.results29, go_sem, c0, c1, c2, c3]) rfl ⟨_, rfl, emptyGen_K _, hb⟩
    · by_cases h2 : 8 < r
      · rw [if_pos (.inr h2)]
        clear hm hr hn
        go_enter Tryz.func29, Tryz.ntmps29
        go_wp2_with (first
          | (go_at_call 73; refine (H.out _).mono ?_; rintro e w1 ⟨b, rfl, hbb, hM, hB⟩; have hT := below_to (below_one _ _) hB; have bx := (Box.mk_ w (b := w.heap.size) rfl rfl).later hB; have f0 := bx.free 0; have f1 := bx.free 1; have f2 := bx.free 2; have f3 := bx.free 3; have c0 := bx.cell 0 _ rfl; have c1 := bx.cell 1 _ rfl; have c2 := bx.cell 2 _ rfl; have c3 := bx.cell 3 _ rfl; have lt := bx.lt)
          | (at_lookup; refine wp_map_found _ rfl _ _ 177 false rfl keysStr Tryz.underlying177 (zero4 _) rfl hM rfl hc ha ?_; rintro cs ⟨rfl, _⟩)
          | go_in)
        go_wp2
        have hb := below_put (by simp) [.string ⟨#[]⟩, .string ⟨#[]⟩, .int .i64 0, .slice none 0 0] 0 hT (b := w.heap.size)
        exact bodyPost_ret (v := .tuple #[.agg #[.string ⟨#[]⟩, .string ⟨#[]⟩, .int .i64 0, .slice none 0 0], .int .i64 _]) (by simp [results, Tryz.results29, go_sem, c0, c1, c2, c3]) rfl ⟨_, rfl, emptyGen_K _, hb⟩
      · rw [if_neg (by omega)]
        clear hm
        go_enter Tryz.func29, Tryz.ntmps29
        go_wp2_with (first
          | (go_at_call 73; refine (H.out _).mono ?_; rintro e w1 ⟨b, rfl, hbb, hM, hB⟩; have hT := below_to (below_one _ _) hB; have bx := (Box.mk_ w (b := w.heap.size) rfl rfl).later hB; have f0 := bx.free 0; have f1 := bx.free 1; have f2 := bx.free 2; have f3 := bx.free 3; have c0 := bx.cell 0 _ rfl; have c1 := bx.cell 1 _ rfl; have c2 := bx.cell 2 _ rfl; have c3 := bx.cell 3 _ rfl; have lt := bx.lt)
          | (at_lookup; refine wp_map_found _ rfl _ _ 177 false rfl keysStr Tryz.underlying177 (zero4 _) rfl hM rfl hc ha ?_; rintro cs ⟨rfl, _⟩)
          | go_in)
        go_wp2
        have hb := below_put (by simp) [.string n, .string c, .int .i64 r, .slice none 0 0] 0 hT (b := w.heap.size)
        exact bodyPost_ret (v := .tuple #[.agg #[.string n, .string c, .int .i64 r, .slice none 0 0], .int .i64 0]) (by simp [results, Tryz.results29, go_sem, c0, c1, c2, c3]) rfl ⟨_, rfl, ⟨_, rfl, ⟨none, 0, rfl, Nat.le_refl _, Nat.zero_le _, fun _ => rfl, .inl rfl⟩, hr, hn, hc⟩, hb⟩
  | false =>
    have ha := comb_no hm
    rw [if_neg (by decide)]
    clear hm hr hn
    go_enter Tryz.func29, Tryz.ntmps29
    go_wp2_with (first
      | (go_at_call 73; refine (H.out _).mono ?_; rintro e w1 ⟨b, rfl, hbb, hM, hB⟩; have hT := below_to (below_one _ _) hB; have bx := (Box.mk_ w (b := w.heap.size) rfl rfl).later hB; have f0 := bx.free 0; have f1 := bx.free 1; have f2 := bx.free 2; have f3 := bx.free 3; have c0 := bx.cell 0 _ rfl; have c1 := bx.cell 1 _ rfl; have c2 := bx.cell 2 _ rfl; have c3 := bx.cell 3 _ rfl; have lt := bx.lt)
      | (at_lookup; refine wp_map_missing _ rfl _ _ 177 false rfl keysStr Tryz.underlying177 (zero4 _) rfl hM rfl hc ha ?_)
      | go_in)
    go_wp2
    have hb := below_put (by simp) [.string ⟨#[]⟩, .string ⟨#[]⟩, .int .i64 0, .slice none 0 0] 0 hT (b := w.heap.size)
    exact bodyPost_ret (v := .tuple #[.agg #[.string ⟨#[]⟩, .string ⟨#[]⟩, .int .i64 0, .slice none 0 0], .int .i64 _]) (by simp [results, Tryz.results29, go_sem, c0, c1, c2, c3]) rfl ⟨_, rfl, emptyGen_K _, hb⟩
end Go.Proofs.YtoncaejgflfhhaaGreatDoor
