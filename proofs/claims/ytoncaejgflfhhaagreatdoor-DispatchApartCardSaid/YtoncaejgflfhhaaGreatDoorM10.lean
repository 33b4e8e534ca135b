/- The caches' maps in the words of Bm. | dispatch's New, Entries. | slices.Index, Contains and Compare of numbers leave the world as it is. | method's rank of one specializer. -/
import Derived.Test.YtoncaejgflfhhaaGreatDoorM09
import Derived.Test.YtoncaejgflfhhaaGreatDoorM08
import Derived.Maps.OwnSet
import Derived.Test.YtoncaejgflfhhaaGreatDoorM04
import Derived.Test.YtoncaejgflfhhaaGreatDoorM03
import Derived.Test.YtoncaejgflfhhaaGreatDoorM00
set_option linter.unusedVariables false
set_option linter.unusedSimpArgs false
namespace Go.Proofs.YtoncaejgflfhhaaGreatDoor
open Go.RowKit Go.MapKept

abbrev CacheIs (w : World) (r : Nat) (l : List (Key × Ent)) : Prop := MapIs keyVal okKey rEnt w r l

theorem entsOf_iff {w : World} : ∀ {l : List (Key × Ent)} {es : List MapEntry}, EntsOf w l es ↔ Ents keyVal okKey rEnt w l es
  | [], _ => Iff.rfl
  | (k, x) :: r, es => by
    constructor
    · rintro ⟨e, es', h1, h2, h3, h4, h5⟩
      exact ⟨e, es', h1, ⟨h2, h3, h4⟩, entsOf_iff.1 h5⟩
    · rintro ⟨e, es', h1, ⟨h2, h3, h4⟩, h5⟩
      exact ⟨e, es', h1, h2, h3, h4, entsOf_iff.2 h5⟩

theorem ents_keys {w : World} : ∀ {l : List (Key × Ent)} {es : List MapEntry}, Ents keyVal okKey rEnt w l es → es.map (·.key) = l.map (fun p => keyVal p.1)
  | [], es, h => by rw [show es = [] from h]; rfl
  | p :: r, es, ⟨e, es', h, he, hr⟩ => by rw [h, List.map_cons, List.map_cons, ents_keys hr, he.1]

theorem mapAt_iff {w : World} {r : Nat} {l : List (Key × Ent)} : MapAt w r l ↔ CacheIs w r l := by
  constructor
  · rintro ⟨es, clock, h1, h2, ⟨h3, h4⟩, h5⟩
    have hE := entsOf_iff.1 h2
    refine ⟨es, clock, h1, hE, h4, h3, ?_⟩
    rw [ents_keys hE]
    have hk := hE.okAll
    clear h1 h2 h3 h4 hE
    induction l with
    | nil => simp
    | cons p r ih =>
      rw [List.map_cons, List.nodup_cons] at h5 ⊢
      refine ⟨fun hm => h5.1 ?_, ih h5.2 (fun q hq => hk q (.tail _ hq))⟩
      obtain ⟨q, hq, hqk⟩ := List.mem_map.1 hm
      have := keysKey.inj q.1 p.1 (hk q (.tail _ hq)) (hk p (.head _)) hqk
      exact List.mem_map.2 ⟨q, hq, this⟩
  · rintro ⟨es, clock, h1, h2, h3, h4, h5⟩
    exact ⟨es, clock, h1, entsOf_iff.2 h2, ⟨h4, h3⟩, h2.nodup keysKey h5⟩

theorem rMap_iff {w : World} {l : List (Key × Ent)} {v : Value} : rMap.K w l [v] ↔ (v = .map none ∧ l = []) ∨ ∃ r, v = .map (some r) ∧ CacheIs w r l := by
  constructor
  · rintro (⟨h, rfl⟩ | ⟨r, h, hm⟩)
    · exact .inl ⟨by cases h; rfl, rfl⟩
    · exact .inr ⟨r, by cases h; rfl, mapAt_iff.1 hm⟩
  · rintro (⟨rfl, rfl⟩ | ⟨r, rfl, hm⟩)
    · exact .inl ⟨rfl, rfl⟩
    · exact .inr ⟨r, rfl, mapAt_iff.2 hm⟩
end Go.Proofs.YtoncaejgflfhhaaGreatDoor
namespace Go.Proofs.YtoncaejgflfhhaaGreatDoor
open Go.RowKit

def newS (most : Int) : St := { emptySt with most := min (max most 0) 1000 }
theorem okZero : Rp.okInt 0 := ⟨by decide, by decide⟩
theorem newS_K (m k : Int) (h : min (max m 0) 1000 = k) (w : World) : rSt.K w (newS m) [.slice none 0 0, .int .i64 0, .int .i64 0, .slice none 0 0, .int .i64 k, .int .i64 0] :=
  ⟨_, _, by rw [← h]; rfl, nil_K _ _ w, nil_K _ _ w, okZero, okZero, (by unfold newS; exact ⟨by simp; omega, by simp; omega⟩), okZero⟩
theorem new10 (m : Int) (w : World) : Calls Tryz.prog 10 #[.int .i64 m] w (R1 rSt (newS m) w) := by
  go_enter Tryz.func10, Tryz.ntmps10
  go_wp2
  · refine bodyPost_ret (v := .agg #[.slice none 0 0, .int .i64 0, .int .i64 0, .slice none 0 0, .int .i64 0, .int .i64 0]) (by simp [results, Tryz.results10, go_sem]) rfl ⟨[.slice none 0 0, .int .i64 0, .int .i64 0, .slice none 0 0, .int .i64 0, .int .i64 0], rfl, newS_K m 0 (by omega) _, below_one _ _⟩
  · refine bodyPost_ret (v := .agg #[.slice none 0 0, .int .i64 0, .int .i64 0, .slice none 0 0, .int .i64 1000, .int .i64 0]) (by simp [results, Tryz.results10, go_sem]) rfl ⟨[.slice none 0 0, .int .i64 0, .int .i64 0, .slice none 0 0, .int .i64 1000, .int .i64 0], rfl, newS_K m 1000 (by omega) _, below_one _ _⟩
  · refine bodyPost_ret (v := .agg #[.slice none 0 0, .int .i64 0, .int .i64 0, .slice none 0 0, .int .i64 m, .int .i64 0]) (by simp [results, Tryz.results10, go_sem]) rfl ⟨[.slice none 0 0, .int .i64 0, .int .i64 0, .slice none 0 0, .int .i64 m, .int .i64 0], rfl, newS_K m m (by omega) _, below_one _ _⟩

/-- How many entries a generic function has. -/
def entriesS (s : St) (i : Int) : Int := if 0 ≤ i ∧ i < s.gens.length then (s.caches.getD i.toNat []).length else 0
set_option maxRecDepth 100000 in
theorem entries19 (s : St) (cs : List Value) (i : Int) (w : World) (h : rSt.K w s cs) :
    Calls Tryz.prog 19 #[rSt.val cs, .int .i64 i] w (RV (.int .i64 (entriesS s i)) w) := by
  have H := Lib.hid (fun w' (hb : Below w.heap.size w w') => is31 s cs i w' (K_below h hb))
  obtain ⟨sg, sc, rfl, h1, h2, h3⟩ := h
  obtain ⟨A0, k0, rfl⟩ := slice_form h1
  obtain ⟨B0, m0, rfl⟩ := slice_form h2
  rw [rSt_val] at H ⊢
  by_cases hi : 0 ≤ i ∧ i < s.gens.length
  · rw [show inSt s i = true from by unfold inSt; simp [hi.1, hi.2]] at H
    unfold entriesS
    rw [if_pos hi]
    obtain ⟨n, rfl⟩ : ∃ n : Nat, i = n := ⟨i.toNat, by omega⟩
    rw [Int.toNat_natCast]
    by_cases hc : n < s.caches.length
    · obtain ⟨A, c, hv, _, _, _, hr⟩ := h2
      cases hv
      obtain ⟨b, off, us, rfl, hbl, hk, hcell⟩ := Rp.Row_get hr n hc
      obtain ⟨u, rfl⟩ := Rp.cell1 hk rfl
      have c0 : w.cell? ⟨b, off + n, none⟩ = some u := by have := hcell 0 u rfl; simpa [rMap] using this
      rw [show s.caches.getD n [] = s.caches[n] from by rw [List.getD_eq_getElem?_getD, List.getElem?_eq_getElem hc]; rfl]
      generalize s.caches[n] = l at *
      clear h1 h3 hr hcell
      rcases rMap_iff.1 hk with ⟨rfl, rfl⟩ | ⟨r, rfl, hM⟩
      · clear hk
        go_enter Tryz.func19, Tryz.ntmps19
        go_wp2_with (go_at_call 31; refine (H.out _ (below_one _ _)).mono ?_; rintro e w1 ⟨rfl, hB1⟩; have bx := (Box.mk_ w (b := w.heap.size) rfl rfl).later hB1; obtain ⟨p0, p1, p2, p3, p4, p5, pf, pl⟩ := bx.six; have c1 := cell_later (below_to (below_one _ _) hB1) c0)
        go_ret
        exact ⟨rfl, below_to (below_one _ _) hB1⟩
      · clear hk
        go_enter Tryz.func19, Tryz.ntmps19
        go_wp2_with (first
          | (go_at_call 31; refine (H.out _ (below_one _ _)).mono ?_; rintro e w1 ⟨rfl, hB1⟩; have bx := (Box.mk_ w (b := w.heap.size) rfl rfl).later hB1; obtain ⟨p0, p1, p2, p3, p4, p5, pf, pl⟩ := bx.six; have c1 := cell_later (below_to (below_one _ _) hB1) c0)
          | (refine wp_map_len _ rfl _ 119 rfl Tryz.underlying119 rfl (hM.below (below_to (below_one _ _) hB1)) ?_)
          | go_in)
        go_ret
        exact ⟨rfl, below_to (below_one _ _) hB1⟩
    · rw [show s.caches.getD n [] = [] from by rw [List.getD_eq_getElem?_getD, List.getElem?_eq_none (by omega)]; rfl]
      clear h1 h2 h3
      go_enter Tryz.func19, Tryz.ntmps19
      go_wp2_with (go_at_call 31; refine (H.out _ (below_one _ _)).mono ?_; rintro e w1 ⟨rfl, hB1⟩; have bx := (Box.mk_ w (b := w.heap.size) rfl rfl).later hB1; obtain ⟨p0, p1, p2, p3, p4, p5, pf, pl⟩ := bx.six)
      go_ret
      exact ⟨rfl, below_to (below_one _ _) hB1⟩
  · rw [show inSt s i = false from by unfold inSt; simp; omega] at H
    unfold entriesS
    rw [if_neg hi]
    clear h1 h2 h3 hi
    go_enter Tryz.func19, Tryz.ntmps19
    go_wp2_with (go_at_call 31; refine (H.out _ (below_one _ _)).mono ?_; rintro e w1 ⟨rfl, hB1⟩)
    go_ret
    exact ⟨rfl, below_to (below_one _ _) hB1⟩
end Go.Proofs.YtoncaejgflfhhaaGreatDoor
namespace Go.Proofs.YtoncaejgflfhhaaGreatDoor
open Go.RowKit

set_option maxRecDepth 100000 in
theorem index128q (e : Option Nat) (xs : List Int) (v : Value) (y : Int) (w : World) (h : (Rp.slice e Rp.int).K w xs [v]) :
    Calls Tryz.prog 128 #[v, .int .i64 y] w fun e w' => e = .returned (.int .i64 (fidx (fun x => y == x) xs)) ∧ w = w' := by
  obtain ⟨A, c, hv, h1, h2, h3, h4⟩ := h
  cases hv
  have hm : xs.length ≤ 9223372036854775807 := by unfold maxLen at h2; omega
  have H4 := Lib.hid h4
  clear h1 h2 h3 h4
  go_enter Tryz.func128, Tryz.ntmps128
  go_wp2
  go_loopw [4, 5, 8] (fun r i k wr => ∃ j : Nat, j ≤ xs.length ∧ k = .int .i64 j ∧ w = wr ∧ ∀ m (hm : m < xs.length), m < j → (y == xs[m]) = false) (fun r i k _ => xs.length - (intOf k).toNat)
  case atStart => exact ⟨0, Nat.zero_le _, rfl, rfl, fun m _ h => absurd h (Nat.not_lt_zero _)⟩
  case round =>
    obtain ⟨j, hj, rfl, rfl, hprev⟩ := hrel
    have HP := Lib.hid hprev
    clear hprev
    by_cases hlt : j < xs.length
    · obtain ⟨b, off, cs, hA, hbl, ⟨rfl, hk⟩, hcell⟩ := Rp.Row_get H4.out j hlt
      subst hA
      have c0 : w.cell? ⟨b, off + j, none⟩ = some (.int .i64 xs[j]) := by have := hcell 0 _ rfl; simpa [Rp.int, Rp.scalar] using this
      obtain ⟨x, hx⟩ : ∃ x, x = xs[j] := ⟨_, rfl⟩
      rw [← hx] at c0
      have HX := Lib.hid hx
      clear hcell hk hx
      cases hp : (y == x) with
      | true =>
        go_wp2
        go_ret
        exact ⟨by rw [fidx_some hlt (by rw [← HX.out]; exact hp) (fun m hm => HP.out m (by omega) hm)]; rfl, by first | rfl | trivial⟩
      | false =>
        go_wp2
        go_roundw
        case rel => exact ⟨j + 1, by omega, by go_num, by first | rfl | trivial, fun m hm hmj => by
          rcases Nat.lt_succ_iff_lt_or_eq.1 hmj with h | h
          · exact HP.out m hm h
          · subst h; rw [← HX.out]; exact hp⟩
        case measure => simp [intOf]; omega
    · go_wp2
      go_ret
      have hjj : j = xs.length := by omega
      exact ⟨by rw [fidx_none (fun m hm => HP.out m hm (by omega))]; rfl, by first | rfl | trivial⟩

theorem contains134q (e : Option Nat) (xs : List Int) (v : Value) (y : Int) (w : World) (h : (Rp.slice e Rp.int).K w xs [v]) :
    Calls Tryz.prog 134 #[v, .int .i64 y] w fun e w' => e = .returned (.bool (xs.contains y)) ∧ w = w' := by
  have H := Lib.hid (index128q e xs v y w h)
  have H2 := Lib.hid (fidx_any (fun x => y == x) xs)
  rw [show xs.contains y = xs.any (fun x => y == x) from by rw [List.contains_eq_any_beq]]
  clear h
  generalize fidx (fun x => y == x) xs = z at *
  go_enter Tryz.func134, Tryz.ntmps134
  go_wp2_with (refine H.out.mono ?_; rintro e w' ⟨rfl, rfl⟩)
  go_ret
  exact ⟨by rw [← H2.out]; rfl, by first | rfl | trivial⟩

set_option maxRecDepth 100000 in
theorem compare108q (e e' : Option Nat) (xs ys : List Int) (v v' : Value) (w : World) (h : (Rp.slice e Rp.int).K w xs [v]) (k : (Rp.slice e' Rp.int).K w ys [v']) :
    Calls Tryz.prog 108 #[v, v'] w fun e w' => e = .returned (.int .i64 (cmpL xs ys)) ∧ w = w' := by
  obtain ⟨A, c, hv, h1, h2, h3, h4⟩ := h
  obtain ⟨B, d, kv, k1, k2, k3, k4⟩ := k
  cases hv
  cases kv
  have hm : xs.length ≤ 9223372036854775807 := by unfold maxLen at h2; omega
  have hm' : ys.length ≤ 9223372036854775807 := by unfold maxLen at k2; omega
  have H4 := Lib.hid h4
  have K4 := Lib.hid k4
  clear h1 h2 h3 h4 k1 k2 k3 k4
  go_enter Tryz.func108, Tryz.ntmps108
  go_wp2
  go_loopw [4, 5, 6, 7, 8, 11] (fun r i a b c k wr => ∃ j : Nat, j ≤ xs.length ∧ j ≤ ys.length ∧ k = .int .i64 j ∧ w = wr ∧ Hid (cmpL xs ys = cmpL (xs.drop j) (ys.drop j))) (fun r i a b c k _ => xs.length - (intOf k).toNat)
  case atStart => exact ⟨0, Nat.zero_le _, Nat.zero_le _, rfl, rfl, Lib.hid rfl⟩
  case round =>
    obtain ⟨j, hj, hj', rfl, rfl, HP⟩ := hrel
    by_cases hlt : j < xs.length
    · obtain ⟨b, off, cs, hA, hbl, ⟨rfl, hk⟩, hcell⟩ := Rp.Row_get H4.out j hlt
      subst hA
      obtain ⟨x, hx⟩ : ∃ x, x = xs[j] := ⟨_, rfl⟩
      rw [← hx] at hcell
      have HX := Lib.hid hx
      have c0 : w.cell? ⟨b, off + j, none⟩ = some (.int .i64 x) := by have := hcell 0 _ rfl; simpa [Rp.int, Rp.scalar, ← HX.out] using this
      clear hcell hk hx
      by_cases hlt' : j < ys.length
      · obtain ⟨b', off', cs', hA', hbl', ⟨rfl, hk'⟩, hcell'⟩ := Rp.Row_get K4.out j hlt'
        subst hA'
        obtain ⟨y, hy⟩ : ∃ y, y = ys[j] := ⟨_, rfl⟩
        rw [← hy] at hcell'
        have HY := Lib.hid hy
        have c1 : w.cell? ⟨b', off' + j, none⟩ = some (.int .i64 y) := by have := hcell' 0 _ rfl; simpa [Rp.int, Rp.scalar, ← HY.out] using this
        clear hcell' hk' hy
        have HD := Lib.hid (cmpL_drop hlt hlt')
        have HC := Lib.hid (cmp142 x y w)
        obtain ⟨z, hz⟩ : ∃ z, z = cmpI x y := ⟨_, rfl⟩
        rw [← hz] at HC
        have HZ := Lib.hid hz
        clear hz
        by_cases hz0 : z = 0
        · have g : (z == 0) = true := by simpa using hz0
          have hn : (z != 0) = false := by simpa using hz0
          have H0 := Lib.hid hz0
          clear hz0
          go_wp2_with (refine HC.out.mono ?_; rintro e w' ⟨rfl, rfl⟩)
          go_roundw
          case rel => exact ⟨j + 1, by omega, by omega, by go_num, by first | rfl | trivial, Lib.hid (by rw [HP.out, HD.out, if_pos (by rw [← HX.out, ← HY.out, ← HZ.out]; exact H0.out)])⟩
          case measure => simp [intOf]; omega
        · have hn : (z != 0) = true := by simpa using hz0
          have H0 := Lib.hid hz0
          clear hz0
          go_wp2_with (refine HC.out.mono ?_; rintro e w' ⟨rfl, rfl⟩)
          go_ret
          exact ⟨by rw [HP.out, HD.out, if_neg (by rw [← HX.out, ← HY.out, ← HZ.out]; exact H0.out), ← HX.out, ← HY.out, ← HZ.out]; rfl, by first | rfl | trivial⟩
      · have hle : ys.length ≤ j := by omega
        go_wp2
        go_ret
        exact ⟨by rw [HP.out, List.drop_of_length_le hle, List.drop_eq_getElem_cons hlt]; rfl, by first | rfl | trivial⟩
    · have hle : xs.length ≤ j := by omega
      have hje : j = xs.length := by omega
      by_cases hlt' : j < ys.length
      · have hll : xs.length < ys.length := by omega
        go_wp2
        go_ret
        exact ⟨by rw [HP.out, List.drop_of_length_le hle, List.drop_eq_getElem_cons hlt']; rfl, by first | rfl | trivial⟩
      · have hll : ¬ xs.length < ys.length := by omega
        go_wp2
        go_ret
        exact ⟨by rw [HP.out, List.drop_of_length_le hle, List.drop_of_length_le (by omega)]; rfl, by first | rfl | trivial⟩
end Go.Proofs.YtoncaejgflfhhaaGreatDoor
namespace Go.Proofs.YtoncaejgflfhhaaGreatDoor
open Go.RowKit

/-- How near one specializer stands to an argument. -/
def rankS (sp : Spec) (x : Arg) (sup : List Int) : Int × Bool := if sp.eql then (-1, decide (sp.obj = x.obj)) else (fidx (fun y => sp.cls == y) sup, decide (0 ≤ fidx (fun y => sp.cls == y) sup))

set_option maxHeartbeats 4000000 in
theorem rank105 (sp : Spec) (x : Arg) (sup : List Int) (a b : List Value) (v : Value) (e : Option Nat) (w : World) (h1 : rSpec.K w sp a) (h2 : rArg.K w x b) (h3 : (Rp.slice e Rp.int).K w sup [v]) :
    Calls Tryz.prog 105 #[rSpec.val a, rArg.val b, v] w fun e w' => e = .returned (.tuple #[.int .i64 (rankS sp x sup).1, .bool (rankS sp x sup).2]) ∧ Below w.heap.size w w' := by
  have H := Lib.hid (fun w' (hb : Below w.heap.size w w') => index128q e sup v sp.cls w' (K_below h3 hb))
  obtain ⟨rfl, o1, o2⟩ := h1
  obtain ⟨rfl, o3⟩ := h2
  rw [rSpec_val, rArg_val]
  unfold rankS
  have hb : Below w.heap.size w ((w.alloc (.cells #[.bool sp.eql, .int .i64 sp.cls, .string sp.obj] 36)).alloc (.cells #[.int .i64 x.cls, .string x.obj] 52)) := below_more (below_one _ _) _
  have b0 : Box ((w.alloc (.cells #[.bool sp.eql, .int .i64 sp.cls, .string sp.obj] 36)).alloc (.cells #[.int .i64 x.cls, .string x.obj] 52)) w.heap.size 36 [.bool sp.eql, .int .i64 sp.cls, .string sp.obj] := (Box.mk_ _ rfl rfl).alloc _
  have b1 : Box ((w.alloc (.cells #[.bool sp.eql, .int .i64 sp.cls, .string sp.obj] 36)).alloc (.cells #[.int .i64 x.cls, .string x.obj] 52)) (w.heap.size + 1) 52 [.int .i64 x.cls, .string x.obj] := Box.mk_ _ (by simp) rfl
  have HI := Lib.hid (H.out _ hb)
  have HB := Lib.hid hb
  obtain ⟨W, hW⟩ : ∃ W, W = ((w.alloc (.cells #[.bool sp.eql, .int .i64 sp.cls, .string sp.obj] 36)).alloc (.cells #[.int .i64 x.cls, .string x.obj] 52)) := ⟨_, rfl⟩
  have c0 := b0.cell 0 _ rfl
  have c1 := b0.cell 1 _ rfl
  have c2 := b0.cell 2 _ rfl
  have d1 := b1.cell 1 _ rfl
  have l0 := b0.lt
  have l1 := b1.lt
  clear H h3 hb b0 b1 hW W
  cases he : sp.eql with
  | true =>
    rw [if_pos rfl]
    rw [he] at c0 HB
    go_enter Tryz.func105, Tryz.ntmps105
    go_wp2
    go_quiet (fail)
    go_wp2
    exact bodyPost_ret (v := .tuple #[.int .i64 (-1), .bool (sp.obj.toList == x.obj.toList)]) (by simp [results, Tryz.results105, go_sem]) rfl ⟨by rw [str_beq], ⟨HB.out.os, HB.out.tape, HB.out.output, HB.out.size, HB.out.block⟩⟩
  | false =>
    rw [if_neg (by decide)]
    rw [he] at c0 HI HB
    obtain ⟨n, hn⟩ : ∃ n, n = fidx (fun y => sp.cls == y) sup := ⟨_, rfl⟩
    rw [← hn] at HI ⊢
    clear hn
    by_cases h0 : 0 ≤ n
    · go_enter Tryz.func105, Tryz.ntmps105
      go_wp2_with (first
        | (go_at_call 128; refine HI.out.mono ?_; rintro e w1 ⟨rfl, rfl⟩)
        | go_in)
      exact bodyPost_ret (v := .tuple #[.int .i64 n, .bool true]) (by simp [results, Tryz.results105, go_sem]) rfl ⟨by simp [h0], HB.out⟩
    · go_enter Tryz.func105, Tryz.ntmps105
      go_wp2_with (first
        | (go_at_call 128; refine HI.out.mono ?_; rintro e w1 ⟨rfl, rfl⟩)
        | go_in)
      exact bodyPost_ret (v := .tuple #[.int .i64 n, .bool false]) (by simp [results, Tryz.results105, go_sem]; omega) rfl ⟨by simp [h0], HB.out⟩
end Go.Proofs.YtoncaejgflfhhaaGreatDoor
