/- dispatch's looks. -/
import Derived.Test.YtoncaejgflfhhaaGreatDoorM24
import Derived.Test.YtoncaejgflfhhaaGreatDoorM27
set_option linter.unusedVariables false
set_option linter.unusedSimpArgs false
namespace Go.Proofs.YtoncaejgflfhhaaGreatDoor
open Go.RowKit

def noPlace : Place := ⟨0, false, ⟨#[]⟩⟩
def placeOf (g : Gen) (args : List Arg) (i : Nat) : Place := match args[i]? with
  | some a => if (i : Int) < g.req then ⟨a.cls, g.meths.any (toldM i a.obj), if g.meths.any (toldM i a.obj) then a.obj else ⟨#[]⟩⟩ else noPlace
  | none => noPlace
/-- What arguments look like, as far as place j. -/
def looksTo (g : Gen) (args : List Arg) (j : Nat) : Key := (List.range 8).map fun i => if i < j then placeOf g args i else noPlace
def looksS (g : Gen) (args : List Arg) : Key := looksTo g args 8
theorem looksTo_length (g : Gen) (args : List Arg) (j : Nat) : (looksTo g args j).length = 8 := by simp [looksTo]
theorem looksTo_zero (g : Gen) (args : List Arg) : looksTo g args 0 = zeroKey := rfl
theorem looksTo_get (g : Gen) (args : List Arg) (j i : Nat) (h : i < 8) : (looksTo g args j)[i]? = some (if i < j then placeOf g args i else noPlace) := by simp [looksTo, h]
theorem looksTo_succ (g : Gen) (args : List Arg) (j : Nat) : (looksTo g args j).set j (placeOf g args j) = looksTo g args (j + 1) := by
  refine List.ext_getElem? fun i => ?_
  rw [List.getElem?_set]
  by_cases hi : i < 8
  · rw [looksTo_get _ _ _ _ hi, looksTo_get _ _ _ _ hi, looksTo_length]
    by_cases hij : j = i
    · subst hij
      simp [hi]
    · rw [if_neg hij]
      have : (i < j) ↔ (i < j + 1) := by omega
      simp [this]
  · rw [List.getElem?_eq_none (by rw [looksTo_length]; omega), List.getElem?_eq_none (by rw [looksTo_length]; omega)]
    split
    · rw [if_neg (by rw [looksTo_length]; omega)]
    · rfl
theorem looksTo_all (g : Gen) (args : List Arg) (j : Nat) (h : ∀ i, j ≤ i → i < 8 → placeOf g args i = noPlace) : looksTo g args j = looksS g args := by
  unfold looksS looksTo
  refine List.map_congr_left fun i hi => ?_
  have hi := List.mem_range.1 hi
  rw [if_pos hi]
  split
  · rfl
  · exact (h i (by omega) hi).symm
theorem keyCells_set : ∀ (k : Key) (i : Nat) (p : Place), keyCells (k.set i p) = (((keyCells k).set (i * 3) (.int .i64 p.cls)).set (i * 3 + 1) (.bool p.told)).set (i * 3 + 2) (.string p.obj)
  | [], _, _ => rfl
  | q :: r, 0, p => by simp [keyCells]
  | q :: r, i + 1, p => by
    rw [show (i + 1) * 3 = i * 3 + 3 from by omega]
    simp [keyCells, keyCells_set r i p]
theorem keyCells_get (k : Key) (i : Nat) (p : Place) (h : k[i]? = some p) : (keyCells k)[i * 3]? = some (.int .i64 p.cls) ∧ (keyCells k)[i * 3 + 1]? = some (.bool p.told) ∧ (keyCells k)[i * 3 + 2]? = some (.string p.obj) := by
  have := key_drop k i p h
  have hl : i < k.length := (List.getElem?_eq_some_iff.1 h).1
  have e : ∀ t, t < 3 → (keyCells k)[i * 3 + t]? = ([Value.int .i64 p.cls, .bool p.told, .string p.obj] : List Value)[t]? := by
    intro t ht
    rw [← this, List.getElem?_take, if_pos ht, List.getElem?_drop]
  exact ⟨e 0 (by omega), e 1 (by omega), e 2 (by omega)⟩

theorem set_id {α : Type} {l : List α} {i : Nat} {v : α} (h : l[i]? = some v) : l.set i v = l := by
  refine List.ext_getElem? fun j => ?_
  rw [List.getElem?_set]
  split
  · rename_i hij
    subst hij
    rw [h, if_pos (List.getElem?_eq_some_iff.1 h).1]
  · rfl
theorem K_mem {α : Type} {e : Option Nat} {d : Rp α} {w : World} {xs : List α} {v : Value} (h : (Rp.slice e d).K w xs [v]) : ∀ x ∈ xs, ∃ c, d.K w x c := by
  intro x hx
  obtain ⟨_, _, _, _, _, _, hr⟩ := h
  obtain ⟨i, hi, rfl⟩ := List.mem_iff_getElem.1 hx
  obtain ⟨_, _, c, _, _, hk, _⟩ := Rp.Row_get hr i hi
  exact ⟨c, hk⟩
theorem args_ok {e : Option Nat} {w : World} {args : List Arg} {v : Value} (h : (Rp.slice e rArg).K w args [v]) : ∀ a ∈ args, Rp.okInt a.cls ∧ a.obj.size ≤ maxLen := fun a ha => by
  obtain ⟨c, _, h2⟩ := K_mem h a ha
  exact h2
theorem placeOf_ok {g : Gen} {args : List Arg} (h : ∀ a ∈ args, Rp.okInt a.cls ∧ a.obj.size ≤ maxLen) (i : Nat) : Rp.okInt (placeOf g args i).cls ∧ (placeOf g args i).obj.size ≤ maxLen := by
  have h0 : Rp.okInt noPlace.cls ∧ noPlace.obj.size ≤ maxLen := ⟨⟨by decide, by decide⟩, Nat.zero_le _⟩
  unfold placeOf
  split
  · rename_i a ha
    have := h a (List.mem_of_getElem? ha)
    split
    · refine ⟨this.1, ?_⟩
      show (if _ then a.obj else _).size ≤ maxLen
      split
      · exact this.2
      · exact Nat.zero_le _
    · exact h0
  · exact h0
theorem looksS_ok {g : Gen} {args : List Arg} (h : ∀ a ∈ args, Rp.okInt a.cls ∧ a.obj.size ≤ maxLen) : okKey (looksS g args) := by
  refine ⟨looksTo_length _ _ _, fun p hp => ?_⟩
  obtain ⟨i, hi, rfl⟩ := List.mem_map.1 hp
  rw [if_pos (List.mem_range.1 hi)]
  exact placeOf_ok h i

theorem siz3 : (Tryz.prog.info? 3).map (·.size) = some 1 := by kernel_rfl
theorem siz4 : (Tryz.prog.info? 4).map (·.size) = some 1 := by kernel_rfl
theorem siz9 : (Tryz.prog.info? 9).map (·.size) = some 1 := by kernel_rfl
theorem min_three (x y : Int) (n : Nat) (h : (n : Int) = if 8 < (if y < x then y else x) then 8 else (if y < x then y else x)) (w : World) : (Builtin.min_ #[3, 3, 3] 3 #[.int .i64 x, .int .i64 y, .int .i64 8]).run Tryz.prog w = .ok (.int .i64 n) w := by
  rw [h]
  simp [Builtin.min_, Builtin.min2]

set_option maxHeartbeats 1000000 in
set_option maxRecDepth 100000 in
theorem looks35 (g : Gen) (gcs : List Value) (e : Option Nat) (args : List Arg) (va : Value) (w : World) (h : rGen.K w g gcs) (ha : (Rp.slice e rArg).K w args [va]) (hr : 0 ≤ g.req) :
    Calls Tryz.prog 35 #[rGen.val gcs, va] w fun e w' => e = .returned (keyVal (looksS g args)) ∧ okKey (looksS g args) ∧ Below w.heap.size w w' := by
  obtain ⟨m, rfl, h1, h2⟩ := h
  rw [rGen_val]
  obtain ⟨A, k, rfl⟩ := slice_form ha
  obtain ⟨B, n, rfl⟩ := slice_form h1
  have he := enters81
  unfold Enters at he
  have HA := Lib.hid ha
  have HM := Lib.hid h1
  obtain ⟨_, _, hc, hcap1, hcap2, _⟩ := id ha
  cases hc
  unfold maxLen at hcap2
  clear h1 h2 ha
  obtain ⟨q, hq⟩ : ∃ q : Nat, (q : Int) = if 8 < (if g.req < (args.length : Int) then g.req else (args.length : Int)) then 8 else (if g.req < (args.length : Int) then g.req else (args.length : Int)) := by
    refine ⟨Int.toNat (if 8 < (if g.req < (args.length : Int) then g.req else (args.length : Int)) then 8 else (if g.req < (args.length : Int) then g.req else (args.length : Int))), ?_⟩
    rw [Int.toNat_of_nonneg]
    split
    · omega
    · split <;> omega
  have hmin := min_three (args.length : Int) g.req q hq
  have hq8 : q ≤ 8 := by split at hq <;> (split at hq <;> omega)
  have hqr : (q : Int) ≤ g.req := by split at hq <;> (split at hq <;> omega)
  have hqa : q ≤ args.length := by split at hq <;> (split at hq <;> omega)
  have HQ : Hid (∀ i, q ≤ i → i < 8 → placeOf g args i = noPlace) := Lib.hid (by
    intro i h1 h2
    unfold placeOf
    split
    · rename_i a hsome
      have := (List.getElem?_eq_some_iff.1 hsome).1
      rw [if_neg]
      split at hq <;> (split at hq <;> omega)
    · rfl)
  clear hq
  have hqk : q ≤ k := by omega
  go_enter Tryz.func35, Tryz.ntmps35
  go_wp2
  obtain ⟨W0, hW0⟩ : ∃ W, W = ((w.alloc (.cells #[.string g.name, .string g.comb, .int .i64 g.req, .slice B g.meths.length n] 80)).alloc (.cells zeroCells.toArray 114)).alloc (.cells zeroCells.toArray 114) := ⟨_, rfl⟩
  have hB0 : Below w.heap.size w W0 := hW0 ▸ below_more (below_more (below_one _ _) _) _
  have b0 : Box W0 w.heap.size 80 [.string g.name, .string g.comb, .int .i64 g.req, .slice B g.meths.length n] := hW0 ▸ ((Box.mk_ _ rfl rfl).alloc _).alloc _
  have b1 : Box W0 (w.heap.size + 1) 114 zeroCells := hW0 ▸ (Box.mk_ _ (by simp) rfl).alloc _
  have b2 : Box W0 (w.heap.size + 1 + 1) 114 zeroCells := hW0 ▸ Box.mk_ _ (by simp) rfl
  go_loopw [17] (fun i wr => ∃ j : Nat, j ≤ q ∧ i = .int .i64 j ∧ Box wr w.heap.size 80 [.string g.name, .string g.comb, .int .i64 g.req, .slice B g.meths.length n] ∧ Box wr (w.heap.size + 1) 114 zeroCells ∧ Box wr (w.heap.size + 1 + 1) 114 (keyCells (looksTo g args j)) ∧ Below w.heap.size w wr)
    (fun i _ => q - (intOf i).toNat)
  case atStart => exact ⟨0, Nat.zero_le _, rfl, hW0 ▸ b0, hW0 ▸ b1, hW0 ▸ b2, hW0 ▸ hB0⟩
  case round =>
    obtain ⟨j, hj, rfl, x0, x1, x2, hB⟩ := hrel
    by_cases hlt : j < q
    · obtain ⟨b, off, c, hA, hbl, hk, hcell⟩ := Rp.Row_get (Rp.Row_mov (Same.of_below hB) (by obtain ⟨A', c', h, _, _, _, hr⟩ := HA.out; cases h; exact hr)) j (show j < args.length by omega)
      subst hA
      obtain ⟨rfl, hak1, hak2⟩ := hk
      have c0 : wr.cell? ⟨b, off + j * 2, none⟩ = some _ := hcell 0 _ rfl
      have c1 : wr.cell? ⟨b, off + j * 2 + 1, none⟩ = some _ := hcell 1 _ rfl
      obtain ⟨g0, g1, g2⟩ := keyCells_get (looksTo g args j) j noPlace (by rw [looksTo_get _ _ _ _ (by omega)]; simp)
      have x0c := x0.cell 3 _ rfl
      have x0l := x0.lt
      obtain ⟨a, hadef⟩ : ∃ a, a = args[j] := ⟨_, rfl⟩
      rw [← hadef] at c0 c1 hak1 hak2
      have hpl : placeOf g args j = ⟨a.cls, g.meths.any (toldM j a.obj), if g.meths.any (toldM j a.obj) then a.obj else ⟨#[]⟩⟩ := by
        unfold placeOf
        rw [List.getElem?_eq_getElem (by omega)]
        simp only []
        rw [if_pos (by omega), ← hadef]
      have HP := Lib.hid (And.intro hpl hadef)
      have HG := Lib.hid (And.intro g0 (And.intro g1 g2))
      have hj8 : j < 8 := by omega
      clear hpl hadef g0 g1 g2
      have HC := Lib.hid (fun w' (hb : Below w.heap.size w w') b1 b2 (d1 : w'.cell? ⟨b1, 0, none⟩ = some (.int .i64 j)) (d2 : w'.cell? ⟨b2, 0, none⟩ = some (.int .i64 a.cls)) (d3 : w'.cell? ⟨b2, 1, none⟩ = some (.string a.obj)) => cfn82 rMeth rfl rfl (some 40) g.meths _ 81 #[.pointer (some ⟨b1, 0, none⟩), .pointer (some ⟨b2, 0, none⟩)] (toldM j a.obj) w' (K_below HM.out hb) enters81 (pred81 b1 b2 j (.int .i64 a.cls) a.obj w' g.meths d1 d2 d3))
      have hX := below_more (below_one wr (.cells #[.int .i64 j] 3)) (.cells #[.int .i64 a.cls, .string a.obj] 52)
      have y2 := x2.later hX
      have y0 := x0.later hX
      have y1 := x1.later hX
      have z0 : Box ((wr.alloc (.cells #[.int .i64 j] 3)).alloc (.cells #[.int .i64 a.cls, .string a.obj] 52)) wr.heap.size 3 [.int .i64 j] := (Box.mk_ _ rfl rfl).alloc _
      have z1 : Box ((wr.alloc (.cells #[.int .i64 j] 3)).alloc (.cells #[.int .i64 a.cls, .string a.obj] 52)) (wr.heap.size + 1) 52 [.int .i64 a.cls, .string a.obj] := Box.mk_ _ (by simp) rfl
      have hne1 : ¬ w.heap.size = w.heap.size + 1 + 1 := by omega
      have hne2 : ¬ w.heap.size + 1 = w.heap.size + 1 + 1 := by omega
      clear hcell
      have y0c := y0.cell 3 _ rfl
      have y0l := y0.lt
      obtain ⟨t, ht⟩ : ∃ t, t = g.meths.any (toldM j a.obj) := ⟨_, rfl⟩
      rw [← ht] at HC
      have HT := Lib.hid ht
      clear ht
      cases t with
      | false =>
        go_wp2_with (first
          | (refine wp_box_set rfl 3 _ _ rfl (j := j * 3) (u := .int .i64 a.cls) rfl rfl y2 HG.out.1 rfl rfl siz3 ?_; intro w2 x2' hc2; have x0' := hc2.box y0 hne1; have x1' := hc2.box y1 hne2; have z0' := hc2.box_ty z0 (by decide); have z1' := hc2.box_ty z1 (by decide); have hB2 := hc2.below (below_to hB hX) (by omega); have x0c := x0'.cell 3 _ rfl; have x0l := x0'.lt)
          | (go_at_call 82; refine (HC.out _ hB2 _ _ (z0'.cell 0 _ rfl) (z1'.cell 0 _ rfl) (z1'.cell 1 _ rfl)).mono ?_; rintro e w3 ⟨rfl, hB3⟩)
          | go_in)
        have hpl := HP.out.1
        rw [← HT.out, if_neg (by decide)] at hpl
        have hset := looksTo_succ g args j
        rw [hpl] at hset
        have x2'' : Box w2 (w.heap.size + 1 + 1) 114 (keyCells (looksTo g args (j + 1))) := by
          rw [← hset, keyCells_set]
          have e1 := HG.out.2.1
          have e2 := HG.out.2.2
          rw [set_id (i := j * 3 + 1) (by rw [List.getElem?_set_ne (by omega)]; exact e1), set_id (i := j * 3 + 2) (by rw [List.getElem?_set_ne (by omega)]; exact e2)]
          exact x2'
        refine ⟨⟨j + 1, by omega, by go_num, x0'.later hB3, x1'.later hB3, x2''.later hB3, below_to hB2 hB3⟩, by simp [intOf]; omega⟩
      | true =>
        go_wp2_with (first
          | (refine wp_box_set rfl 3 _ _ rfl (j := j * 3) (u := .int .i64 a.cls) rfl rfl y2 HG.out.1 rfl rfl siz3 ?_; intro w2 x2' hc2; have x0' := hc2.box y0 hne1; have x1' := hc2.box y1 hne2; have z0' := hc2.box_ty z0 (by decide); have z1' := hc2.box_ty z1 (by decide); have hB2 := hc2.below (below_to hB hX) (by omega); have x0c := x0'.cell 3 _ rfl; have x0l := x0'.lt)
          | (go_at_call 82; refine (HC.out _ hB2 _ _ (z0'.cell 0 _ rfl) (z1'.cell 0 _ rfl) (z1'.cell 1 _ rfl)).mono ?_; rintro e w3 ⟨rfl, hB3⟩; have v0 := z0'.later hB3; have v1 := z1'.later hB3; have v2 := x2'.later hB3; have q0 := v0.cell 0 _ rfl; have q1 := v1.cell 1 _ rfl; have q2 := v2.cell (j * 3 + 1) (.bool false) (by rw [List.getElem?_set_ne (by omega)]; exact HG.out.2.1); have q3 := v2.cell (j * 3 + 2) (.string ⟨#[]⟩) (by rw [List.getElem?_set_ne (by omega)]; exact HG.out.2.2); have qf := v2.free; have ql := v2.lt; have ql0 := v0.lt; have ql1 := v1.lt)
          | go_in)
        have hx2l := x2.lt
        have hn1 : ¬ w.heap.size + 1 + 1 = wr.heap.size := by omega
        have hn2 : ¬ w.heap.size + 1 + 1 = wr.heap.size + 1 := by omega
        have hn3 : ¬ wr.heap.size = w.heap.size + 1 + 1 := by omega
        have hn4 : ¬ wr.heap.size + 1 = w.heap.size + 1 + 1 := by omega
        have hn5 : ¬ wr.heap.size = w.heap.size + 1 := by omega
        have hn6 : ¬ w.heap.size + 1 = wr.heap.size := by omega
        have hj9 : (j : Int) < 8 := by omega
        go_region
        have hpl := HP.out.1
        rw [← HT.out, if_pos rfl] at hpl
        have hset := looksTo_succ g args j
        rw [hpl] at hset
        have s1 := v2.chg (j * 3 + 1) (.bool true)
        have v2' := v2.set (j * 3 + 1) (.bool true)
        have s2 := v2'.chg (j * 3 + 2) (.string a.obj)
        have v2'' := v2'.set (j * 3 + 2) (.string a.obj)
        have ek : (((keyCells (looksTo g args j)).set (j * 3) (.int .i64 a.cls)).set (j * 3 + 1) (.bool true)).set (j * 3 + 2) (.string a.obj) = keyCells (looksTo g args (j + 1)) := by
          rw [← hset, keyCells_set]
        have x2'' := v2''
        rw [ek] at x2''
        have t0 := s2.box (s1.box (x0'.later hB3) hne1) hne1
        have t1 := s2.box (s1.box (x1'.later hB3) hne2) hne2
        have hB4 := s2.below (s1.below (below_to hB2 hB3) (by omega)) (by omega)
        go_wp2
        refine ⟨⟨j + 1, by omega, by go_num, t0.drew, t1.drew, x2''.drew, hB4.drew⟩, by simp [intOf]; omega⟩
    · have hks : (Tryz.prog.info? 114).map (·.size) = some (keyCells (looksTo g args j)).length := by rw [keyCells_length, looksTo_length]; exact siz114
      have hl24 : (keyCells (looksTo g args j)).length = 24 := by rw [keyCells_length, looksTo_length]
      go_wp2_with (first
        | (refine wp_box_load rfl 114 _ rfl rfl x2 Tryz.underlying114 rfl hks ?_)
        | (refine wp_box_store rfl 114 _ _ rfl (us := keyCells (looksTo g args j)) rfl rfl x1 hks hl24.symm (keyCells_one _) ?_; intro w2 y0 hc2)
        | go_in)
      have hjq : j = q := by omega
      subst hjq
      have hall := looksTo_all g args j HQ.out
      rw [hall] at y0 hks
      refine bodyPost_ret (v := .agg (keyCells (looksS g args)).toArray) (results_cell_row Tryz.results35 _ _ (w.heap.size + 1) 114 (keyCells (looksS g args)).toArray (0, 0) _ rfl y0 Tryz.underlying114 rfl (by simpa using hks)) rfl ⟨rfl, looksS_ok (args_ok HA.out), hc2.below hB (by omega)⟩
end Go.Proofs.YtoncaejgflfhhaaGreatDoor
