/- class's reached. | slices.Backward over a row of numbers: its iterator. | class's precedence: the plain functions; its memory. | Laws inside a fence: append; marks of loops over an iterator; what a turn of a block that holds no cells leaves. No program here. -/
import Derived.Test.YtoncaejgflfhhaaGreatDoorM13
import Derived.RangeFuncNested
import Derived.RangeFuncBound
import Derived.RangeFuncCalls
import Derived.RangeFuncLeaves
import Derived.Shelf.Abstract
import Derived.Shelf.RegionOpen
import Derived.OwnWalkIn
import Derived.TacticsInMore
import Derived.LoopNIn
import Derived.LoopIn
import Derived.Deep.RegionLaw
import Derived.WalkMore
import Derived.Deep.DeepCutAuto
set_option linter.unusedVariables false
set_option linter.unusedSimpArgs false
namespace Go.Proofs.YtoncaejgflfhhaaGreatDoor
open Go.RowKit

theorem siz197 : (Tryz.prog.info? 197).map (·.size) = some 1 := by kernel_rfl
set_option maxHeartbeats 2000000 in
set_option maxRecDepth 100000 in
theorem reached126 (s : CS) (cs : List Value) (c : Int) (w : World) (h : rCS.K w s cs) (hlen : s.classes.length ≤ 100000) (hc : Rp.okInt c) :
    Calls Tryz.prog 126 #[rCS.val cs, .int .i64 c] w fun e w' => ∃ v, e = .returned v ∧ Own 3 Rp.int w.heap.size w' v (reachedS s c) ∧ Below w.heap.size w w' := by
  obtain ⟨u, l, rfl, hu, hl⟩ := id h
  have he := enters156
  unfold Enters at he
  have H := Lib.hid (fun w' hR => reach156 s u l w h hlen (s.classes.length + 1) [] c w' hc hR (by simp))
  obtain ⟨A, k, rfl⟩ := slice_form hu
  obtain ⟨B, m, rfl⟩ := slice_form hl
  rw [rCS_val]
  clear hu hl h
  unfold reachedS
  obtain ⟨W0, hW0⟩ : ∃ W, W = ((w.alloc (.cells #[.slice A s.classes.length k, .slice B s.history.length m] 44)).alloc (.cells #[.slice none 0 0] 46)).alloc (.cells #[.nilFunc] 197) := ⟨_, rfl⟩
  have hB0 : Below w.heap.size w W0 := hW0 ▸ below_more (below_more (below_one _ _) _) _
  have b0 : Box W0 w.heap.size 44 [.slice A s.classes.length k, .slice B s.history.length m] := hW0 ▸ ((Box.mk_ _ rfl rfl).alloc _).alloc _
  have b1 : Box W0 (w.heap.size + 1) 46 [.slice none 0 0] := hW0 ▸ (Box.mk_ _ (by simp) rfl).alloc _
  have b2 : Box W0 (w.heap.size + 1 + 1) 197 [.nilFunc] := hW0 ▸ Box.mk_ _ (by simp) rfl
  have HW0 := Lib.hid hW0
  clear hW0
  go_enter Tryz.func126, Tryz.ntmps126
  go_wp2_with (first
    | (rw [← HW0.out]; refine wp_box_set rfl 197 _ _ rfl (j := 0) (u := .func (.func 156) #[] #[.pointer (some ⟨w.heap.size, 0, none⟩), .pointer (some ⟨w.heap.size + 1, 0, none⟩), .pointer (some ⟨w.heap.size + 1 + 1, 0, none⟩)]) rfl rfl b2 rfl rfl rfl siz197 ?_; intro w0 x2 hc0; have x0 := hc0.box b0 (by omega); have x1 := hc0.box b1 (by omega); have hW := hc0.below hB0 (by omega); obtain ⟨r0, rf, rl⟩ := x2.single)
    | (refine (H.out _ ⟨hW, x0, ⟨_, x1, Own.nil _ _ _ _⟩, x2, ⟨List.nodup_nil, fun _ h => by cases h⟩⟩).mono ?_; rintro e w1 ⟨rfl, hR1⟩; obtain ⟨v, xo, hO⟩ := hR1.xo; obtain ⟨q0, qf, ql⟩ := xo.single)
    | go_in)
  go_ret
  exact ⟨v, rfl, hO, hR1.hB⟩
end Go.Proofs.YtoncaejgflfhhaaGreatDoor
namespace Go.Proofs.YtoncaejgflfhhaaGreatDoor
open Go.RowKit Go.Shelf
attribute [local go_sem] Oper.semAt_some

/-- What has come when k rounds are over. -/
def upto {α : Type} (f : Nat → α) (k : Nat) : List α := (List.range k).map f
theorem upto_succ {α : Type} (f : Nat → α) (k : Nat) : upto f (k + 1) = upto f k ++ [f k] := by simp [upto, List.range_succ]
theorem upto_length {α : Type} (f : Nat → α) (k : Nat) : (upto f k).length = k := by simp [upto]
/-- The place and the number that come in round j. -/
def backAt (zs : List Int) (j : Nat) : Int × Int := ((zs.length : Int) - 1 - j, zs[zs.length - 1 - j]?.getD 0)

set_option maxRecDepth 100000 in
set_option maxHeartbeats 2000000 in
theorem back158 {α : Type} (en : α → Int × Int) (bk : Nat → α) (n : Nat) (hn : 1 ≤ n) (l Bs n₀ : Nat) (A : Option Addr) (cap : Nat) (zs : List Int) (hmax : zs.length ≤ 1000000) (hbk : ∀ j, en (bk j) = backAt zs j) (J Jx : List α → World → Prop)
    (hY : ∀ pre x W, J pre W → pre.length < zs.length → YieldAt Fence.wide (n - 1) Tryz.prog l #[.int .i64 (en x).1, .int .i64 (en x).2] W fun e W' =>
      (e = .returned (.bool true) ∧ J (pre ++ [x]) W' ∧ Below n₀ W W') ∨ (e = .returned (.bool false) ∧ Jx (pre ++ [x]) W'))
    (W : World) (hBs : Bs < n₀) (hbox : W.cell? ⟨Bs, 0, none⟩ = some (.slice A zs.length cap)) (hc : ∀ j, j < zs.length → ∃ b off, A = some ⟨b, off, none⟩ ∧ b < n₀ ∧ W.cell? ⟨b, off + j, none⟩ = some (.int .i64 (zs[j]?.getD 0))) (h0 : J [] W) :
    CallsIn Fence.wide n Tryz.prog 158 #[.func (.yield l) #[] #[], .pointer (some ⟨Bs, 0, none⟩)] W fun e W' => (∃ v, e = .returned v) ∧
      ((∃ ys, ys = upto bk zs.length ∧ J ys W') ∨ (∃ pre, (∃ k, k ≤ zs.length ∧ pre = upto bk k) ∧ Jx pre W')) := by
  have HC := Lib.hid hc
  clear hc
  refine callsIn_of_wp Tryz.func158 rfl trivial ?_ rfl
  simp only [Tryz.ntmps158, List.size_toArray, List.length_cons, List.length_nil, Nat.reduceAdd, Nat.reduceSub, Array.replicate_succ, Array.replicate_zero, List.push_toArray, List.append_toArray, List.nil_append, List.cons_append]
  gi_wp2
  gi_loopw [3] (fun i wr => ∃ k : Nat, k ≤ zs.length ∧ i = .int .i64 ((zs.length : Int) - 1 - k) ∧ J (upto bk k) wr ∧ Below n₀ W wr)
    (fun i _ => (intOf i + 1).toNat)
  case atStart => exact ⟨0, Nat.zero_le _, by simp, h0, Below.refl _ _⟩
  case round =>
    obtain ⟨k, hk, rfl, hJs, hnx⟩ := hrel
    have hbx : wr.cell? ⟨Bs, 0, none⟩ = some (.slice A zs.length cap) := (hnx.cell (p := ⟨Bs, 0, none⟩) hBs).trans hbox
    by_cases hlt : k < zs.length
    · obtain ⟨b, off, rfl, hb, hcell⟩ := HC.out (zs.length - 1 - k) (by omega)
      obtain ⟨fn, tmps, assign, body, hy, hR⟩ := hY _ (bk k) wr hJs (by rw [upto_length]; exact hlt)
      obtain ⟨m, hm⟩ : ∃ m : Nat, m = zs.length - 1 - k := ⟨_, rfl⟩
      have hmi : (zs.length : Int) - 1 - k = m := by omega
      have hml : m < zs.length := by omega
      rw [hbk k] at hy
      unfold backAt at hy
      rw [← hm] at hcell
      rw [hmi, ← hm] at hy
      have hcx : wr.cell? ⟨b, off + m, none⟩ = some (.int .i64 (zs[m]?.getD 0)) := (hnx.cell (p := ⟨b, off + m, none⟩) hb).trans hcell
      have HM := Lib.hid (And.intro hm hmi)
      rw [hmi]
      dsimp only at hy
      obtain ⟨v, hv⟩ : ∃ v, v = zs[m]?.getD 0 := ⟨_, rfl⟩
      rw [← hv] at hy hcx
      have HV := Lib.hid hv
      clear hm hmi hcell hbox hv
      gi_wp2
      refine hR.mono ?_
      rintro e W3 (⟨rfl, hJ3, hk3⟩ | ⟨rfl, hJx3⟩)
      · gi_wp2
        go_roundw
        case rel => exact ⟨k + 1, by omega, by rw [show (m : Int) - 1 = (zs.length : Int) - 1 - ((k + 1 : Nat) : Int) from by have := HM.out.2; omega], by rw [upto_succ]; exact hJ3, hnx.trans hk3⟩
        case measure => simp [intOf]
      · gi_wp2
        refine bodyPost_ret (results_none rfl _ _ _) rfl ?_
        exact ⟨⟨_, rfl⟩, .inr ⟨_, ⟨k + 1, by omega, (upto_succ _ _).symm⟩, hJx3⟩⟩
    · obtain rfl : k = zs.length := by omega
      have hneg : ¬ (0 : Int) ≤ (zs.length : Int) - 1 - zs.length := by omega
      have hneg2 : (zs.length : Int) - 1 - zs.length = -1 := by omega
      rw [hneg2]
      clear hneg hneg2
      gi_wp2
      go_end0
      exact ⟨⟨_, rfl⟩, .inl ⟨_, rfl, hJs⟩⟩

/-- The iterator's contract: all places from the last to the first, or some of them. -/
theorem back_stops {α : Type} (en : α → Int × Int) (bk : Nat → α) (n : Nat) (hn : 1 ≤ n) (Bs : Nat) (e : Option Nat) (zs : List Int) (v : Value) (w : World) (hmax : zs.length ≤ 1000000) (hbk : ∀ j, en (bk j) = backAt zs j) (hbox : w.cell? ⟨Bs, 0, none⟩ = some v) (hk : (Rp.slice e Rp.int).K w zs [v]) :
    SeqStopsK Fence.wide n Tryz.prog 158 #[.pointer (some ⟨Bs, 0, none⟩)] (fun x : α => #[Value.int .i64 (en x).1, Value.int .i64 (en x).2]) (Below w.heap.size) (fun ys => ys = upto bk zs.length)
      (fun pre => ∃ k, k ≤ zs.length ∧ pre = upto bk k) zs.length w := fun l J Jx W hW _ _ hY h0 => by
  obtain ⟨A, cap, hv, _, _, _, hr⟩ := hk
  cases hv
  refine back158 en bk n hn l Bs w.heap.size A cap zs hmax hbk J Jx hY W (World.block_lt_of_cell? w _ hbox) (cell_later hW hbox) (fun j hj => ?_) h0
  obtain ⟨b, off, c, hA, hb, ⟨rfl, _⟩, hcell⟩ := Rp.Row_get hr j hj
  refine ⟨b, off, hA, hb, ?_⟩
  have := hcell 0 _ rfl
  have h2 : zs[j]?.getD 0 = zs[j] := by simp [hj]
  rw [h2]
  refine cell_later hW ?_
  simpa [Rp.int, Rp.scalar] using this

set_option maxRecDepth 100000 in
theorem back133 (A : Option Addr) (n c : Nat) (w : World) : Calls Tryz.prog 133 #[.slice A n c] w fun e w' => e = .returned (.func (.func 158) #[] #[.pointer (some ⟨w.heap.size, 0, none⟩)]) ∧ w' = w.alloc (.cells #[.slice A n c] 46) := by
  go_enter Tryz.func133, Tryz.ntmps133
  go_wp2
  go_ret
  exact ⟨rfl, rfl⟩
end Go.Proofs.YtoncaejgflfhhaaGreatDoor
namespace Go.Proofs.YtoncaejgflfhhaaGreatDoor
open Go.RowKit Go.Shelf

/-- The classes that no other one must stand ahead of. -/
def freeS (s : CS) (all left : List Int) : List Int := left.filter fun b => !left.any fun a => aheadB s all a b
/-- The one with a direct subclass farthest to the right. -/
def pickS (s : CS) (out free : List Int) : Option Int := out.reverse.findSome? fun c => free.find? fun x => (supersOf s c).contains x
def nextS (s : CS) (out free : List Int) : Option Int := if free.length = 1 ∨ (0 < free.length ∧ out.length = 0) then free[0]? else pickS s out free
def precGo (s : CS) (all : List Int) : Nat → List Int → List Int → List Int × Bool
  | 0, out, _ => (out, true)
  | f + 1, out, left => if left.length = 0 then (out, true) else
    match nextS s out (freeS s all left) with
    | some x => precGo s all f (out ++ [x]) (left.filter fun c => !(c == x))
    | none => ([], false)
/-- What precedence returns. -/
def precS (s : CS) (c : Int) : List Int × Bool := precGo s (reachedS s c) (s.classes.length + 1) [] (reachedS s c)

theorem find_mem {α : Type} {p : α → Bool} {l : List α} {x : α} (h : l.find? p = some x) : x ∈ l := List.mem_of_find?_eq_some h
theorem pickS_mem {s : CS} {out free : List Int} {x : Int} (h : pickS s out free = some x) : x ∈ free := by
  unfold pickS at h
  obtain ⟨c, _, hc⟩ := List.exists_of_findSome?_eq_some h
  exact find_mem hc
theorem nextS_mem {s : CS} {out free : List Int} {x : Int} (h : nextS s out free = some x) : x ∈ free := by
  unfold nextS at h
  split at h
  · exact List.mem_of_getElem? h
  · exact pickS_mem h
theorem freeS_sub {s : CS} {all left : List Int} {x : Int} (h : x ∈ freeS s all left) : x ∈ left := (List.mem_filter.1 h).1
theorem filter_ne_length {l : List Int} {x : Int} (h : x ∈ l) : (l.filter fun c => !(c == x)).length < l.length := by
  rcases Nat.lt_or_ge (l.filter fun c => !(c == x)).length l.length with h1 | h1
  · exact h1
  · have := (List.filter_sublist (p := fun c => !(c == x)) (l := l)).eq_of_length_le h1
    rw [← this] at h
    have := (List.mem_filter.1 h).2
    simp at this

/-- precedence's memory: the classes, left, all, the question, out. -/
structure PS (s : CS) (all : List Int) (u l : Value) (w0 : World) (bl ba bf bo : Nat) (w : World) (out left : List Int) : Prop where
  hB : Below w0.heap.size w0 w
  xs : Box w w0.heap.size 44 [u, l]
  rows : ∃ vl va vo, Box w bl 46 [vl] ∧ Own 3 Rp.int w0.heap.size w vl left ∧ Box w ba 46 [va] ∧ Own 3 Rp.int w0.heap.size w va all ∧ Box w bo 46 [vo] ∧ Own 3 Rp.int w0.heap.size w vo out ∧
    (∀ g, vl.ownBlock = some g → va.ownBlock ≠ some g) ∧ (∀ g, vl.ownBlock = some g → vo.ownBlock ≠ some g) ∧ (∀ g, va.ownBlock = some g → vo.ownBlock ≠ some g)
  xf : Box w bf 249 [.func (.func 127) #[] #[.pointer (some ⟨ba, 0, none⟩), .pointer (some ⟨w0.heap.size, 0, none⟩)]]
theorem PS.below {s : CS} {all : List Int} {u l : Value} {w0 w w' : World} {bl ba bf bo : Nat} {out left : List Int} (h : PS s all u l w0 bl ba bf bo w out left) (hb : Below w.heap.size w w') : PS s all u l w0 bl ba bf bo w' out left := by
  obtain ⟨vl, va, vo, h1, h2, h3, h4, h5, h6, h7⟩ := h.rows
  exact ⟨below_to h.hB hb, h.xs.later hb, ⟨vl, va, vo, h1.later hb, h2.below hb, h3.later hb, h4.below hb, h5.later hb, h6.below hb, h7⟩, h.xf.later hb⟩
theorem siz249 : (Tryz.prog.info? 249).map (·.size) = some 1 := by kernel_rfl


/-- The same with the three rows named. -/
structure PV (s : CS) (all : List Int) (u l : Value) (w0 : World) (bl ba bf bo : Nat) (vl va vo : Value) (w : World) (out left : List Int) : Prop where
  hB : Below w0.heap.size w0 w
  xs : Box w w0.heap.size 44 [u, l]
  xl : Box w bl 46 [vl]
  ol : Own 3 Rp.int w0.heap.size w vl left
  xa : Box w ba 46 [va]
  oa : Own 3 Rp.int w0.heap.size w va all
  xo : Box w bo 46 [vo]
  oo : Own 3 Rp.int w0.heap.size w vo out
  n1 : ∀ g, vl.ownBlock = some g → va.ownBlock ≠ some g
  n2 : ∀ g, vl.ownBlock = some g → vo.ownBlock ≠ some g
  n3 : ∀ g, va.ownBlock = some g → vo.ownBlock ≠ some g
  xf : Box w bf 249 [.func (.func 127) #[] #[.pointer (some ⟨ba, 0, none⟩), .pointer (some ⟨w0.heap.size, 0, none⟩)]]
theorem PS.pv {s : CS} {all : List Int} {u l : Value} {w0 w : World} {bl ba bf bo : Nat} {out left : List Int} (h : PS s all u l w0 bl ba bf bo w out left) : ∃ vl va vo, PV s all u l w0 bl ba bf bo vl va vo w out left := by
  obtain ⟨vl, va, vo, h1, h2, h3, h4, h5, h6, h7, h8, h9⟩ := h.rows
  exact ⟨vl, va, vo, h.hB, h.xs, h1, h2, h3, h4, h5, h6, h7, h8, h9, h.xf⟩
section
variable {s : CS} {all : List Int} {u l : Value} {w0 w w' w1 : World} {bl ba bf bo : Nat} {vl va vo : Value} {out left : List Int}
theorem PV.ps (h : PV s all u l w0 bl ba bf bo vl va vo w out left) : PS s all u l w0 bl ba bf bo w out left :=
  ⟨h.hB, h.xs, ⟨vl, va, vo, h.xl, h.ol, h.xa, h.oa, h.xo, h.oo, h.n1, h.n2, h.n3⟩, h.xf⟩
theorem PV.below (h : PV s all u l w0 bl ba bf bo vl va vo w out left) (hb : Below w.heap.size w w') : PV s all u l w0 bl ba bf bo vl va vo w' out left :=
  ⟨below_to h.hB hb, h.xs.later hb, h.xl.later hb, h.ol.below hb, h.xa.later hb, h.oa.below hb, h.xo.later hb, h.oo.below hb, h.n1, h.n2, h.n3, h.xf.later hb⟩
/-- What holds no cells has changed, from w0 on. -/
theorem PV.kept (h : PV s all u l w0 bl ba bf bo vl va vo w out left) (hb : Below w0.heap.size w0 w') (hk : Same (fun t => decide (t < 1000)) w w') : PV s all u l w0 bl ba bf bo vl va vo w' out left := by
  have ob : ∀ {v : Value} {xs : List Int}, Own 3 Rp.int w0.heap.size w v xs → Own 3 Rp.int w0.heap.size w' v xs := by
    intro v xs ho
    refine ho.move (fun _ _ hE _ => by cases hE) fun g hg => ?_
    rcases ho.block with ⟨rfl, _⟩ | ⟨g', cap, cur, rfl, _, hh, _⟩
    · simp [Value.ownBlock] at hg
    · have : g' = g := by simpa [Value.ownBlock] using hg
      subst this
      rw [hh]
      exact hk g' _ rfl hh
  exact ⟨hb, hk _ _ rfl h.xs, hk _ _ rfl h.xl, ob h.ol, hk _ _ rfl h.xa, ob h.oa, hk _ _ rfl h.xo, ob h.oo, h.n1, h.n2, h.n3, hk _ _ rfl h.xf⟩
/-- An element has been appended to out, and out stored. -/
theorem PV.push {o : Obj} {g cap : Nat} {x : Int} (h : PV s all u l w0 bl ba bf bo vl va vo w out left) (hA : Apd 3 Rp.int w0.heap.size (w.alloc o) w1 vo (.slice (some ⟨g, 0, none⟩) (out.length + 1) cap) out [x]) (hlo : bl ≠ bo) (hao : ba ≠ bo) (h0 : w0.heap.size < bo) :
    PV s all u l w0 bl ba bf bo vl va (.slice (some ⟨g, 0, none⟩) (out.length + 1) cap) (w1.setCell ⟨bo, 0, none⟩ (.slice (some ⟨g, 0, none⟩) (out.length + 1) cap)) (out ++ [x]) left := by
  have xo := hA.box h.oo h.xo (by decide)
  have hc := xo.chg 0 (.slice (some ⟨g, 0, none⟩) (out.length + 1) cap)
  have ne : ∀ {v : Value} {xs : List Int}, Own 3 Rp.int w0.heap.size w v xs → (∀ k, v.ownBlock = some k → vo.ownBlock ≠ some k) → ∀ k, v.ownBlock = some k → (Value.slice (some ⟨g, 0, none⟩) (out.length + 1) cap).ownBlock ≠ some k :=
    fun ho hn k hk => hA.ne ((ho.alloc o).ge k hk).2 (hn k hk)
  refine ⟨hc.below (hA.step h.oo h.hB (Nat.le_refl _)) (Nat.le_of_lt h0), hc.box (hA.box h.oo h.xs (by decide)) (by omega), hc.box (hA.box h.oo h.xl (by decide)) hlo,
    hc.own (hA.beside_lt h.ol h.n2 (fun _ _ hE _ => by cases hE)) (by decide) rfl, hc.box (hA.box h.oo h.xa (by decide)) hao, hc.own (hA.beside_lt h.oa h.n3 (fun _ _ hE _ => by cases hE)) (by decide) rfl,
    xo.set 0 _, hc.own hA.own (by decide) rfl, h.n1, ne h.ol h.n2, ne h.oa h.n3, hc.box_ty (hA.box h.oo h.xf (by decide)) (by decide)⟩
/-- Some have fallen away from left, and left stored. -/
theorem PV.cut {g n m cap : Nat} {left' : List Int} (h : PV s all u l w0 bl ba bf bo (.slice (some ⟨g, 0, none⟩) n cap) va vo w out left) (hg : w.grownBy w1 (some g)) (ho : Own 3 Rp.int w0.heap.size w1 (.slice (some ⟨g, 0, none⟩) m cap) left')
    (hlo : bl ≠ bo) (hla : bl ≠ ba) (h0 : w0.heap.size < bl) :
    PV s all u l w0 bl ba bf bo (.slice (some ⟨g, 0, none⟩) m cap) va vo (w1.setCell ⟨bl, 0, none⟩ (.slice (some ⟨g, 0, none⟩) m cap)) out left' := by
  have hgb := h.ol.ge g rfl
  have bx : ∀ {b t : Nat} {cs : List Value}, Box w b t cs → t ≠ 3 → Box w1 b t cs := fun hb ht => hb.grown hg (fun he => by
    have := h.ol.ne_box hb (fun e => ht e.symm)
    exact this (by cases he; rfl))
  have ow : ∀ {v : Value} {xs : List Int}, Own 3 Rp.int w0.heap.size w v xs → v.ownBlock ≠ some g → Own 3 Rp.int w0.heap.size w1 v xs := fun hv hn =>
    hv.move (fun _ _ hE _ => by cases hE) fun k hk => hg.block k (hv.ge k hk).2 (fun he => hn (by rw [hk]; exact he))
  have xl := bx h.xl (by decide)
  have hc := xl.chg 0 (.slice (some ⟨g, 0, none⟩) m cap)
  have hB : Below w0.heap.size w0 w1 := h.hB.grown hg h.hB.size (fun k hk => by cases hk; exact hgb.1)
  refine ⟨hc.below hB (Nat.le_of_lt h0), hc.box (bx h.xs (by decide)) (by omega), xl.set 0 _, hc.own ho (by decide) rfl, hc.box (bx h.xa (by decide)) (fun e => hla e.symm), hc.own (ow h.oa (fun e => h.n1 g rfl e)) (by decide) rfl,
    hc.box (bx h.xo (by decide)) (fun e => hlo e.symm), hc.own (ow h.oo (fun e => h.n2 g rfl e)) (by decide) rfl, h.n1, h.n2, h.n3, hc.box_ty (bx h.xf (by decide)) (by decide)⟩
/-- left without one number, which lies in a box of its own. -/
theorem PV.del135 {g cap b : Nat} {y : Int} (h : PV s all u l w0 bl ba bf bo (.slice (some ⟨g, 0, none⟩) left.length cap) va vo w out left) (hm : left.length ≤ 1000000) (hc : w.cell? ⟨b, 0, none⟩ = some (.int .i64 y)) (hne : b ≠ g) :
    Calls Tryz.prog 131 #[.slice (some ⟨g, 0, none⟩) left.length cap, .func (.func 135) #[] #[.pointer (some ⟨b, 0, none⟩)]] w fun e w' => e = .returned (.slice (some ⟨g, 0, none⟩) (left.filter fun c => !(c == y)).length cap) ∧ Own 3 Rp.int w0.heap.size w' (.slice (some ⟨g, 0, none⟩) (left.filter fun c => !(c == y)).length cap) (left.filter fun c => !(c == y)) ∧ w.grownBy w' (some g) :=
  deleteFunc131_some left g left.length cap w0.heap.size 135 #[.pointer (some ⟨b, 0, none⟩)] (fun c => c == y) w rfl h.ol enters135 hm fun z _ w' hg =>
    call135 z y b w' ((World.cell?_of_block (w := w) (w' := w') (a := ⟨b, 0, none⟩) (hg.block b (World.block_lt_of_cell? w _ hc) (fun e => hne (by cases e; rfl)))).trans hc)
end
end Go.Proofs.YtoncaejgflfhhaaGreatDoor
namespace Go.Proofs.YtoncaejgflfhhaaGreatDoor
open Go.RowKit Go.Shelf

section
variable {F : Fence} {n : Nat} {P : Program} {α : Type} {e base : Nat} {d : Rp α} {w w1 : World} {v v1 : Value} {xs ys : List α}
theorem wpIn_app1 {ops : Array Oper} {rest : List Oper} {o : Oper} {a : Act} {Q : Exit → Act → World → Prop} {sz bs : Nat} {y : α} (hgd : o.guard = none) (s x : Operand) (t : TypeId)
    (hop : o.op = .call { callee := .builtin .append, args := #[s, x], argTypes := #[t, t] })
    (ht : P.underlying t = some (.slice e))
    (hinf : (P.info? e).map (fun i => (i.size, i.bytes, i.zero.map (fun z => z.cells.size))) = some (sz, bs, some sz)) (hsz : d.sz = sz) (h0 : 0 < sz)
    (hs : a.eval s = v) (ho : Own e d base w v xs) (hE : d.E e = false) {c t' : Nat} {cs : List Value} (hx : a.eval x = .slice (some ⟨w.heap.size, 0, none⟩) 1 c)
    (hk : d.K w y cs)
    (hb : (xs.length + 1) * bs ≤ 140737488355328) (hm : xs.length + 1 ≤ maxLen) (hbase : base ≤ w.heap.size)
    (h : ∀ g cap w1, Apd e d base (w.alloc (.cells cs.toArray t')) w1 v (.slice (some ⟨g, 0, none⟩) (xs.length + 1) cap) xs [y] → wpListIn F n P ops Q rest (a.put o.dst (.slice (some ⟨g, 0, none⟩) (xs.length + 1) cap)) w1) :
    wpListIn F n P ops Q (o :: rest) a (w.alloc (.cells cs.toArray t')) := by
  refine wpListIn_plain hgd fun K hK => ?_
  obtain ⟨v1, w1, hr, h2⟩ := run_app (P := P) (ty := o.type) (c := c) (ys := [y]) ht hinf hsz h0 (ho.alloc (.cells cs.toArray t')) hE (Rp.L_single (d.mov (Same.alloc _ _) hk)) (cells_new w cs t') hb hm (by simp; omega)
  obtain ⟨g, cap, hv⟩ := h2.own.shape (by simp)
  rw [List.length_append, List.length_singleton] at hv
  subst hv
  unfold Oper.wpIn
  refine ⟨?_, ?_⟩
  · simp [Oper.about, hop, resolve, Target.leads, Sem.run_pure]
  · rw [Oper.semAt_plain F _ _ (by rw [hop]; intro c hc'; cases hc')]
    unfold execOp
    simp only [hop, resolve, invoke, builtin, Sem.run_bind, Sem.run_pure, Result.andThen_ok, List.map_toArray, List.map_cons, List.map_nil, hs, hx]
    rw [show (Value.slice (some ⟨w.heap.size, 0, none⟩) 1 c) = Value.slice (some ⟨w.heap.size, 0, none⟩) [y].length c from rfl, hr]
    exact hK _ _ (h g cap w1 h2)
end

/-! ### Blocks that hold no cells -/
/-- Whatever holds cells lies as it lay. -/
abbrev Kept1 (w w' : World) : Prop := Same (fun t => decide (t < 1000)) w w'
theorem Box.kept1 {w w' : World} {b t : Nat} {cs : List Value} (h : Box w b t cs) (hs : Kept1 w w') (ht : t < 1000) : Box w' b t cs := hs b _ (decide_eq_true ht) h
theorem Own.kept1 {α : Type} {e base : Nat} {d : Rp α} {w w' : World} {v : Value} {xs : List α} (h : Own e d base w v xs) (hs : Kept1 w w') (he : e < 1000) (hE : ∀ t, 1000 ≤ t → d.E t = false) : Own e d base w' v xs := by
  refine h.move (hs.imp fun t ht => ?_) fun g hg => ?_
  · rcases Nat.lt_or_ge t 1000 with h1 | h1
    · simpa using h1
    · rw [hE t h1] at ht; cases ht
  · rcases h.block with ⟨rfl, _⟩ | ⟨g', cap, cur, rfl, _, hh, _⟩
    · simp [Value.ownBlock] at hg
    · have : g' = g := by simpa [Value.ownBlock] using hg
      subst this
      rw [hh]
      exact hs g' _ (decide_eq_true he) hh
theorem kept1_of_row {w w' : World} {row : Option Nat} (hg : w.grownBy w' row) (hr : ∀ r, row = some r → ∃ o : Obj, w.heap[r]? = some o ∧ o.isCells = false) : Kept1 w w' := by
  intro b o ho hb
  by_cases hbr : row = some b
  · obtain ⟨o', ho', h1⟩ := hr b hbr
    rw [hb] at ho'
    cases ho'
    cases o <;> simp_all [otag, Obj.isCells]
  · exact (hg.block b (heap_lt hb) (fun e => hbr e.symm)).trans hb

/-- Marks of loops that are over: blocks from B on and below T. -/
def Marks (B T : Nat) : List Deferred → World → Prop
  | [], _ => True
  | d :: r, w => ∃ k, d = { target := .collected k, args := #[] } ∧ B ≤ k ∧ k < T ∧ w.heap[k]? = some (.deferred (some [])) ∧ (∀ d' ∈ r, d' ≠ d) ∧ Marks B T r w
theorem Marks.kept {B T : Nat} {w w' : World} (hs : ∀ k o, k < T → w.heap[k]? = some o → o.isCells = false → w'.heap[k]? = some o) : ∀ {D : List Deferred}, Marks B T D w → Marks B T D w'
  | [], _ => trivial
  | _ :: _, ⟨k, h1, h2, h3, h4, h5, h6⟩ => ⟨k, h1, h2, h3, hs k _ h3 h4 rfl, h5, Marks.kept hs h6⟩
/-- Whatever holds no cells lies as it lay. -/
abbrev KeptO (w w' : World) : Prop := Same (fun t => decide (1000 ≤ t)) w w'
theorem Marks.keptO {B T : Nat} {w w' : World} {D : List Deferred} (h : Marks B T D w) (hk : KeptO w w') : Marks B T D w' :=
  h.kept fun k o _ ho hc => hk k o (decide_eq_true (by cases o <;> simp_all [otag, Obj.isCells])) ho
theorem keptO_grown {w w' : World} {g t : Nat} {cs : Array Value} {r : Nat × Nat} (h : w.grownBy w' (some g)) (hg : w.heap[g]? = some (.cells cs t r)) (ht : t < 1000) : KeptO w w' := Same.grown h hg (decide_eq_false (by simp only [otag]; omega))
theorem Marks.wider {B T T' : Nat} (h : T ≤ T') {w : World} : ∀ {D : List Deferred}, Marks B T D w → Marks B T' D w
  | [], _ => trivial
  | _ :: _, ⟨k, h1, h2, h3, h4, h5, h6⟩ => ⟨k, h1, h2, by omega, h4, h5, Marks.wider h h6⟩
theorem Marks.ne {B T k : Nat} (h : T ≤ k) {w : World} : ∀ {D : List Deferred}, Marks B T D w → ∀ d ∈ D, d ≠ { target := .collected k, args := #[] }
  | [], _, _, hd => by cases hd
  | _ :: _, ⟨j, h1, h2, h3, h4, h5, h6⟩, d, hd => by
    rcases List.mem_cons.1 hd with rfl | hd
    · rw [h1]
      intro he
      have : j = k := by simpa using he
      omega
    · exact Marks.ne h h6 d hd
theorem putObj_kept1 {w : World} {k : Nat} {o : Obj} (o' : Obj) (h : w.heap[k]? = some o) (h1 : 1000 ≤ otag o) : Kept1 w (w.putObj k o') := by
  intro b x hx hb
  by_cases hbk : b = k
  · subst hbk
    rw [h] at hb
    cases hb
    simp at hx
    omega
  · exact (World.putObj_heap_other hbk).trans hb
theorem putObj_below {w w0 : World} {B k : Nat} (o' : Obj) (hb : Below B w0 w) (hk : B ≤ k) (hB : B ≤ w.heap.size) : Below B w0 (w.putObj k o') :=
  hb.grown (grownBy_putObj' w k o') hB (fun j e => by cases e; exact hk)
/-- A function that leaves with marks alone: what is asked is asked behind them. -/
theorem leave_marks {P : Program} {F : Fence} {n B T : Nat} {fn : Func} {tmps : Array Value} {R : Ending → World → Prop} {w0 : World} :
    ∀ (D : List Deferred) (w : World), Marks B T D w → Below B w0 w → B ≤ w.heap.size → (∀ w', Below B w0 w' → Kept1 w w' → ∃ v, (results fn tmps).run P w' = .ok v w' ∧ R (.returned v) w') → LeavesInM F n P fn tmps R D .returning w
  | [], w, _, hb, _, h => by
    obtain ⟨v, h1, h2⟩ := h w hb (Same.refl _ _)
    exact ⟨v, h1, h2⟩
  | d :: D, w, ⟨k, hd, hB, hT, hk, hne, hm⟩, hb, hBw, h => by
    refine ⟨by simp, .inl ⟨k, _, by rw [hd], run_takeDeferred hk, ?_⟩⟩
    refine leave_marks (T := T) D _ ?_ (putObj_below _ hb hB hBw) (by simpa using hBw) fun w' h1 h2 => h w' h1 ((putObj_kept1 _ hk (by decide)).trans h2)
    have : ∀ {E : List Deferred}, (∀ d' ∈ E, d' ≠ d) → Marks B T E w → Marks B T E (w.putObj k (.deferred none)) := by
      intro E
      induction E with
      | nil => intro _ _; trivial
      | cons x r ih =>
        rintro hx ⟨j, h1, h2, h3, h4, h5, h6⟩
        refine ⟨j, h1, h2, h3, ?_, h5, ih (fun d' hd' => hx d' (.tail _ hd')) h6⟩
        refine (World.putObj_heap_other ?_).trans h4
        rintro rfl
        exact hx x (.head _) (by rw [h1, hd])
    exact this hne hm

/-! ### What the loop over out, backwards, finds -/
/-- A place and a number; the number is one of out's, if there are any. -/
abbrev At (out : List Int) := { p : Int × Int // out ≠ [] → p.2 ∈ out }
def bkAt (out : List Int) (j : Nat) : At out := ⟨backAt out j, fun h => by
  have : 0 < out.length := List.length_pos_iff.2 h
  unfold backAt
  rw [List.getElem?_eq_getElem (by omega)]
  exact List.getElem_mem _⟩
def pickAt (s : CS) (free out : List Int) (ps : List (At out)) : Option Int := ps.findSome? fun p => free.find? fun x => (supersOf s p.1.2).contains x
theorem upto_rev (out : List Int) : (upto (bkAt out) out.length).map (fun p => p.1.2) = out.reverse := by
  refine List.ext_getElem (by simp [upto]) fun i h1 h2 => ?_
  have hi : i < out.length := by simpa [upto] using h1
  simp only [upto, List.map_map, List.getElem_map, List.getElem_range, List.getElem_reverse, Function.comp]
  show out[out.length - 1 - i]?.getD 0 = _
  rw [List.getElem?_eq_getElem (by omega)]
  rfl
theorem pickAt_all (s : CS) (free out : List Int) : pickAt s free out (upto (bkAt out) out.length) = pickS s out free := by
  unfold pickAt pickS
  rw [← upto_rev out, List.findSome?_map]
  rfl
theorem upto_split {α : Type} (f : Nat → α) {k n : Nat} (h : k ≤ n) : ∃ r, upto f n = upto f k ++ r := by
  refine ⟨((List.range n).drop k).map f, ?_⟩
  unfold upto
  rw [← List.map_append]
  congr 1
  rw [show List.range k = (List.range n).take k from by rw [List.take_range, Nat.min_eq_left h], List.take_append_drop]
theorem pickAt_part (s : CS) (free out : List Int) {k : Nat} (hk : k ≤ out.length) {x : Int} (h : pickAt s free out (upto (bkAt out) k) = some x) : pickS s out free = some x := by
  rw [← pickAt_all]
  obtain ⟨r, hr⟩ := upto_split (bkAt out) hk
  unfold pickAt at h ⊢
  rw [hr, List.findSome?_append, h]
  rfl
theorem pickAt_snoc (s : CS) (free out : List Int) (pre : List (At out)) (p : At out) (h : pickAt s free out pre = none) : pickAt s free out (pre ++ [p]) = free.find? fun x => (supersOf s p.1.2).contains x := by
  unfold pickAt at h ⊢
  rw [List.findSome?_append, h]
  simp [List.findSome?]
  cases free.find? fun x => decide (x ∈ supersOf s p.1.2) <;> rfl
theorem find_first {α : Type} {p : α → Bool} {l : List α} {j : Nat} (hj : j < l.length) (hp : p l[j] = true) (hb : ∀ m (hm : m < l.length), m < j → p l[m] = false) : l.find? p = some l[j] := by
  rw [List.find?_eq_some_iff_getElem]
  exact ⟨hp, j, hj, rfl, fun m hm => by simpa using hb m (by omega) hm⟩
theorem find_none {α : Type} {p : α → Bool} {l : List α} (hb : ∀ m (hm : m < l.length), p l[m] = false) : l.find? p = none := by
  rw [List.find?_eq_none]
  intro x hx
  obtain ⟨m, hm, rfl⟩ := List.mem_iff_getElem.1 hx
  simp [hb m hm]

/-! ### What the law for the loop asks -/
theorem wp_named {P : Program} {c : Code} {Q : Exit → Act → World → Prop} {a : Act} {w : World} (h : ∀ (T : Array Value) (D : List Deferred), a = { tmps := T, defers := D } → c.wp P Q { tmps := T, defers := D } w) : c.wp P Q a w := h a.tmps a.defers rfl
theorem keepsFrom_of {B : Nat} {w w' : World} (hz : w.heap.size ≤ w'.heap.size) (h : KeptO w w') : KeepsFrom B w w' :=
  ⟨hz, fun k o _ hk ho => h k o (decide_eq_true (by cases o <;> simp_all [otag, Obj.isCells])) hk⟩
theorem below_row {B : Nat} {w0 w w' : World} {row : Option Nat} (h : Below B w0 w) (hB : B ≤ w.heap.size) (hg : w.grownBy w' row) (hr : ∀ r, row = some r → B ≤ r) : Below B w0 w' := h.grown hg hB hr
end Go.Proofs.YtoncaejgflfhhaaGreatDoor
