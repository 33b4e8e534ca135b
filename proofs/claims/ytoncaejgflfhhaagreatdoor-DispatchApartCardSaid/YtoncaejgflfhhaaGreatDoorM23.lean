/- method's Applicable. -/
import Derived.Test.YtoncaejgflfhhaaGreatDoorM17
import Derived.Test.YtoncaejgflfhhaaGreatDoorM22
import Derived.Test.YtoncaejgflfhhaaGreatDoorM05
import Derived.Deep.DeepCutAuto
import Derived.WalkMore
import Derived.Deep.RegionHeld3
set_option linter.unusedVariables false
set_option linter.unusedSimpArgs false
namespace Go.Proofs.YtoncaejgflfhhaaGreatDoor
open Go.RowKit

theorem inf46 : (Tryz.prog.info? 46).map (fun i => (i.size, i.bytes, i.zero.map (fun z => z.cells.size))) = some (1, 24, some 1) := by kernel_rfl
theorem list_ext_of {α β : Type} {l : List α} {f : α → β} {j : Nat} (h : j < l.length) : (l.map f).take (j + 1) = (l.map f).take j ++ [f l[j]] := by
  rw [List.take_succ_eq_append_getElem (by simpa using h)]
  simp
theorem Rp.Row_at {α : Type} {d : Rp α} {e : Option Nat} {w : World} {A : Option Addr} {xs : List α} (h : Rp.Row e d w A xs) {i : Nat} {x : α} (hx : xs[i]? = some x) :
    ∃ b off c, A = some ⟨b, off, none⟩ ∧ b < w.heap.size ∧ d.K w x c ∧ ∀ j u, c[j]? = some u → w.cell? ⟨b, off + i * d.sz + j, none⟩ = some u := by
  obtain ⟨hi, hx⟩ := List.getElem?_eq_some_iff.1 hx
  subst hx
  exact Rp.Row_get h i hi
/-- A map from numbers to rows, none of which lies where another row does. -/
def RankMap (rk : Int → List Int) (H : List Int) (w : World) (mb : Nat) (vo : Value) (base : Nat) : Prop :=
  ∃ l : List (Int × (Option Addr × Nat × Nat)), MapIs (Value.int .i64) Rp.okInt Rp.hdr w mb l ∧ ∀ x ∈ H, Rp.okInt x ∧ ∃ p, aget x l = some p ∧ Own 3 Rp.int base w (.slice p.1 p.2.1 p.2.2) (rk x) ∧ ∀ b, (Value.slice p.1 p.2.1 p.2.2).ownBlock = some b → vo.ownBlock ≠ some b
theorem rank_ok (sp : Spec) (x : Arg) (q : List Int) (h : q.length ≤ maxLen) : Rp.okInt (rankS sp x q).1 := by
  unfold rankS
  split
  · exact ⟨by show (-9223372036854775808 : Int) ≤ -1; decide, by show (-1 : Int) ≤ 9223372036854775807; decide⟩
  · unfold maxLen at h
    show -9223372036854775808 ≤ fidx (fun y => sp.cls == y) q ∧ fidx (fun y => sp.cls == y) q ≤ 9223372036854775807
    rcases fidx_cases (fun y => sp.cls == y) q with ⟨h1, _⟩ | ⟨i, hi, h1, _⟩ <;> rw [h1] <;> omega
theorem RankMap.mov {rk : Int → List Int} {H : List Int} {w w' : World} {mb base : Nat} {vo : Value} (h : RankMap rk H w mb vo base) (hb : Below w.heap.size w w') : RankMap rk H w' mb vo base := by
  obtain ⟨l, hM, hE⟩ := h
  exact ⟨l, hM.below hb, fun x hx => by obtain ⟨ho, p, h1, h2, h3⟩ := hE x hx; exact ⟨ho, p, h1, h2.below hb, h3⟩⟩
theorem aget_aput {κ β : Type} [DecidableEq κ] (x : κ) (v : β) : ∀ l : List (κ × β), aget x (aput x v l) = some v
  | [] => by simp [aput, aget]
  | (y, u) :: r => by
    unfold aput
    split
    · simp [aget]
    · rename_i h
      rw [aget, if_neg h]
      exact aget_aput x v r
theorem aget_aput_ne {κ β : Type} [DecidableEq κ] {x y : κ} (hne : y ≠ x) (v : β) : ∀ l : List (κ × β), aget y (aput x v l) = aget y l
  | [] => by simp [aput, aget, Ne.symm hne]
  | (z, u) :: r => by
    unfold aput
    split
    · rename_i h
      subst h
      rw [aget, aget, if_neg (Ne.symm hne), if_neg (Ne.symm hne)]
    · rw [aget, aget, aget_aput_ne hne v r]
section
variable {κ β : Type} {kv : κ → Value} {ok : κ → Prop} {d : Rp β} {P : Program} {k e : TypeId} {b : Nat} {l : List (κ × β)} [DecidableEq κ] (w : World) {ops : Array Oper} {o : Oper} {a : Act} {K : Act → World → Prop} {Q : Exit → Act → World → Prop} {F : Prop}
/-- A store into a map as one step of a region that draws. -/
theorem step_map_store (hg : o.guard = none) (m x v : Operand) (t : TypeId) (hop : o.op = Op.mapUpdate t m x v) (Kk : Keys P k kv ok) (ht : P.underlying t = some (.map k e)) (hE : d.E 1000 = false)
    (hm : a.eval m = .map (some b)) (h : MapIs kv ok d w b l) {X : κ} (hx : a.eval x = kv X) (hX : ok X) {y : β} {cs : List Value} (hv : a.eval v = d.val cs) (hK : d.K w y cs)
    (hgo : ∀ w', MapIs kv ok d w' b (aput X y l) → w.grownBy w' (some b) → (∀ E : Nat → Bool, E 1000 = false → Same E w w') → w'.heap.size = w.heap.size → K (a.put o.dst undef) w') :
    if Region.wanted o (yielded ops a.tmps) = true then Oper.wp P o a w K Q else F := by
  have hw : Region.wanted o (yielded ops a.tmps) = true := by simp [Region.wanted, hg]
  rw [if_pos hw]
  obtain ⟨w', hrun, r1, r2, r3, r4⟩ := h.store Kk ht hE hX hK
  unfold Oper.wp
  simp [execOp, hop, hm, hx, hv, hrun, Result.andThen]
  exact hgo w' r1 r2 r3 r4
end
/-- One more number with its ranks. -/
theorem RankMap.push {rk : Int → List Int} {H rr : List Int} {w w1 w' : World} {mb base B n c : Nat} {A : Option Addr} {vo v1 : Value} {o : Obj} {x : Int} {l : List (Int × (Option Addr × Nat × Nat))}
    (hl : ∀ x ∈ H, Rp.okInt x ∧ ∃ p, aget x l = some p ∧ Own 3 Rp.int base w (.slice p.1 p.2.1 p.2.2) (rk x) ∧ ∀ b, (Value.slice p.1 p.2.1 p.2.2).ownBlock = some b → vo.ownBlock ≠ some b)
    (hx : Rp.okInt x) (hxH : x ∉ H) (hr : Own 3 Rp.int B w (.slice A n c) rr) (hB : base ≤ B) (hrk : rk x = rr) (hv : ∀ g, vo.ownBlock = some g → g < B)
    (hA : Apd 3 Rp.int base (w.alloc o) w1 vo v1 H [x]) (hM : MapIs (Value.int .i64) Rp.okInt Rp.hdr w' mb (aput x (A, n, c) l)) (hc : Chg mb 1000 w1 w') : RankMap rk (H ++ [x]) w' mb v1 base := by
  have key : ∀ (A : Option Addr) (n c : Nat) (xs : List Int) (b' : Nat), Own 3 Rp.int b' w (.slice A n c) xs → (∀ b, (Value.slice A n c).ownBlock = some b → vo.ownBlock ≠ some b) → Own 3 Rp.int b' w' (.slice A n c) xs ∧ ∀ b, (Value.slice A n c).ownBlock = some b → v1.ownBlock ≠ some b := by
    intro A n c xs b' ho hne
    refine ⟨hc.own ((ho.alloc o).move (fun _ _ h _ => by cases h) fun g hg => hA.block ((ho.alloc o).ge g hg).2 (hne g hg)) (by decide) rfl, fun b hb => hA.ne ((ho.alloc o).ge b hb).2 (hne b hb)⟩
  refine ⟨_, hM, fun y hy => ?_⟩
  by_cases hyx : y = x
  · subst hyx
    obtain ⟨h1, h2⟩ := key A n c rr B hr (fun b hb he => by have := (hr.ge b hb).1; have := hv b he; omega)
    exact ⟨hx, _, aget_aput _ _ _, hrk ▸ h1.lower hB, h2⟩
  · have hyH : y ∈ H := by
      rcases List.mem_append.1 hy with h | h
      · exact h
      · exact absurd (List.mem_singleton.1 h) hyx
    obtain ⟨ho, p, h1, h2, h3⟩ := hl y hyH
    obtain ⟨h4, h5⟩ := key _ _ _ _ _ h2 h3
    exact ⟨ho, p, by rw [aget_aput_ne hyx]; exact h1, h4, h5⟩
theorem Own.ne_map {α κ β : Type} {e base b : Nat} {d : Rp α} {d' : Rp β} {kv : κ → Value} {ok : κ → Prop} {w : World} {v : Value} {xs : List α} {l : List (κ × β)} (h : Own e d base w v xs) (hm : MapIs kv ok d' w b l) : v.ownBlock ≠ some b := by
  obtain ⟨es, clock, hb, _⟩ := hm
  rcases h.block with ⟨rfl, _⟩ | ⟨g, cap, cur, rfl, _, hh, _⟩
  · simp [Value.ownBlock]
  · intro he
    have : g = b := by simpa [Value.ownBlock] using he
    subst this
    rw [hb] at hh
    cases hh
theorem some_at {α : Type} {l : List α} {i : Nat} (h : i < l.length) : ∃ x, l[i]? = some x ∧ x ∈ l := ⟨_, List.getElem?_eq_getElem h, List.getElem_mem h⟩
theorem Rp.slice_row {α : Type} {d : Rp α} {e : Option Nat} {w : World} {xs : List α} {A : Option Addr} {n c : Nat} (h : (Rp.slice e d).K w xs [.slice A n c]) : Rp.Row e d w A xs := by
  obtain ⟨A', c', h, _, _, _, hr⟩ := h
  cases h
  exact hr
/-- What Applicable returns. -/
def ApplPost (R : List Int × Int) (w : World) (e : Ending) (w' : World) : Prop := ∃ v, e = .returned (.tuple #[v, .int .i64 R.2]) ∧ Own 3 Rp.int w.heap.size w' v R.1 ∧ Below w.heap.size w w'

/-- What holds at the head of the loop over the methods. -/
def Appl2 (ms : List Meth) (args : List Arg) (L : List (List Int)) (V : World) (vo vi : Value) (wr : World) : Prop :=
  ∃ k : Nat, k ≤ ms.length ∧ vi = .int .i64 k ∧ Own 3 Rp.int V.heap.size wr vo (hitsGo args L (ms.take k) 0) ∧ RankMap (rkS ms args L) (hitsGo args L (ms.take k) 0) wr V.heap.size vo V.heap.size ∧ Box wr (V.heap.size + 1) 217 [.map (some V.heap.size)] ∧ Below V.heap.size V wr

/-- What holds at the head of the loop over a method's specializers. -/
def Appl3 (ss : List Spec) (args : List Arg) (L : List (List Int)) (W : World) (vr vi : Value) (wr : World) : Prop :=
  ∃ (i : Nat) (rr : List Int), i ≤ ss.length ∧ vi = .int .i64 i ∧ Own 3 Rp.int W.heap.size wr vr rr ∧ Below W.heap.size W wr ∧ fitGo ss args L = (fitGo (ss.drop i) (args.drop i) (L.drop i)).map (rr ++ ·) ∧ rr.length = i

set_option maxHeartbeats 4000000 in
set_option maxRecDepth 100000 in
theorem appl55 (s : CS) (cs : List Value) (g : Gen) (gcs : List Value) (e : Option Nat) (args : List Arg) (va : Value) (w : World) (hs : rCS.K w s cs) (hg : rGen.K w g gcs) (ha : (Rp.slice e rArg).K w args [va])
    (hlen : s.classes.length ≤ 100000) (hm : g.meths.length ≤ 1000) (hargs : args.length ≤ 1000) (hsp : ∀ m ∈ g.meths, m.specs.length ≤ 1000) :
    Calls Tryz.prog 55 #[rCS.val cs, rGen.val gcs, va] w (ApplPost (applS s g args) w) := by
  have HP := Lib.hid (fun x (hx : Rp.okInt x) w' (hb : Below w.heap.size w w') => precedence38 s cs x w' (K_below hs hb) hlen hx)
  obtain ⟨R, hR⟩ : ∃ R, R = applS s g args := ⟨_, rfl⟩
  rw [← hR]
  have HR := Lib.hid hR
  clear hR
  obtain ⟨u, l, rfl, hu, hl⟩ := id hs
  obtain ⟨gm, rfl, hgm, hgr, hg2⟩ := id hg
  rw [rCS_val] at HP
  rw [rCS_val, rGen_val]
  obtain ⟨A, c, hva, hac, hacm, hA0, hrow⟩ := id ha
  cases hva
  obtain ⟨A1, c1, rfl⟩ := slice_form hu
  obtain ⟨A2, c2, rfl⟩ := slice_form hl
  obtain ⟨A3, c3, rfl⟩ := slice_form hgm
  have HRow := Lib.hid hrow
  have HG := Lib.hid hgm
  have HM := Lib.hid (And.intro hm (And.intro hargs hsp))
  clear hu hl hgm hrow hac hacm hA0 hs hg ha hm hargs hsp hlen hg2
  by_cases h0 : (args.length : Int) < g.req
  · have hRv : R = ([], 4) := by rw [HR.out]; exact if_pos h0
    rw [hRv]
    clear hRv
    go_enter Tryz.func55, Tryz.ntmps55
    go_wp2
    go_step3
    go_wp2
    exact bodyPost_ret (v := .tuple #[.slice none 0 0, .int .i64 4]) (by simp [results, Tryz.results55, go_sem]) rfl ⟨_, rfl, Own.nil _ _ _ _, below_more (below_one _ _) _⟩
  · have H0 := Lib.hid h0
    obtain ⟨W0, hW0⟩ : ∃ W, W = (w.alloc (.cells #[.slice A1 s.classes.length c1, .slice A2 s.history.length c2] 44)).alloc (.cells #[.string g.name, .string g.comb, .int .i64 g.req, .slice A3 g.meths.length c3] 80) := ⟨_, rfl⟩
    have hB0 : Below w.heap.size w W0 := hW0 ▸ below_more (below_one _ _) _
    have b0 : Box W0 w.heap.size 44 [.slice A1 s.classes.length c1, .slice A2 s.history.length c2] := hW0 ▸ (Box.mk_ _ rfl rfl).alloc _
    have b1 : Box W0 (w.heap.size + 1) 80 [.string g.name, .string g.comb, .int .i64 g.req, .slice A3 g.meths.length c3] := hW0 ▸ Box.mk_ _ (by simp) rfl
    have HW0 := Lib.hid hW0
    clear hW0
    go_enter Tryz.func55, Tryz.ntmps55
    go_wp2
    go_step3
    go_wp2
    rw [← HW0.out]
    go_loopw [8, 29] (fun va vb wr => ∃ (j : Nat), j ≤ args.length ∧ vb = .int .i64 j ∧ Below w.heap.size w wr ∧ Box wr w.heap.size 44 [.slice A1 s.classes.length c1, .slice A2 s.history.length c2] ∧ Box wr (w.heap.size + 1) 80 [.string g.name, .string g.comb, .int .i64 g.req, .slice A3 g.meths.length c3] ∧ Own 46 sInt w.heap.size wr va ((listsS s args).take j) ∧ Hid (∀ a ∈ args.take j, (orderS s a.cls).2 = 0)) (fun _ vb _ => args.length - (intOf vb).toNat)
    case atStart => exact ⟨0, Nat.zero_le _, rfl, hB0, b0, b1, Own.nil _ _ _ _, Lib.hid (by simp)⟩
    case round =>
      obtain ⟨j, hj, rfl, hB, x0, x1, hO, HK⟩ := hrel
      clear b0 b1 hB0
      have hNA := HM.out.2.1
      by_cases hlt : j < args.length
      · obtain ⟨b, off, cc, hA, hbl, hk, hcell⟩ := Rp.Row_get (Rp.Row_mov (Same.of_below hB) HRow.out) j hlt
        subst hA
        have HA := Lib.hid (list_ext_of (f := fun a : Arg => (orderS s a.cls).1) hlt)
        have HI := Lib.hid (List.take_succ_eq_append_getElem hlt)
        have HE := Lib.hid (List.getElem_mem hlt)
        have HLT := Lib.hid hlt
        generalize args[j] = x at *
        obtain ⟨rfl, ox, sx⟩ := hk
        have c0 : wr.cell? ⟨b, off + j * 2, none⟩ = some (.int .i64 x.cls) := hcell 0 _ rfl
        have c1' : wr.cell? ⟨b, off + j * 2 + 1, none⟩ = some (.string x.obj) := hcell 1 _ rfl
        have HQ := Lib.hid (HP.out x.cls ox)
        have hbx := x0.lt
        have k0 := x0.cell 0 _ rfl
        have k1 := x0.cell 1 _ rfl
        clear hcell ox sx
        obtain ⟨n, hn⟩ : ∃ n, n = (orderS s x.cls).2 := ⟨_, rfl⟩
        obtain ⟨q, hq⟩ : ∃ q, q = (orderS s x.cls).1 := ⟨_, rfl⟩
        rw [← hn, ← hq] at HQ
        rw [← hq] at HA
        have HN := Lib.hid (And.intro hn hq)
        clear hn hq
        obtain ⟨xs, hxs⟩ : ∃ xs, xs = (listsS s args).take j := ⟨_, rfl⟩
        rw [← hxs] at hO
        have hl : xs.length ≤ 1000 := by rw [hxs, List.length_take]; have := HM.out.2.1; omega
        have HBB := Lib.hid (And.intro (show (xs.length + 1) * 24 ≤ 140737488355328 by omega) (And.intro (show xs.length + 1 ≤ maxLen by unfold maxLen; omega) hxs))
        clear hl hxs
        by_cases hz : n = 0
        · subst hz
          go_wp2_with (first
            | (go_at_call 38; refine (HQ.out _ (below_more hB _)).mono ?_; rintro e w1 ⟨v, rfl, hOq, hB1⟩; obtain ⟨D, d, rfl, _⟩ := hOq.row; have hT := below_to (below_more hB _) hB1; have y0 := (x0.alloc _).later hB1; have y1 := (x1.alloc _).later hB1; have hO1 := (hO.alloc _).below hB1)
            | (at_builtin; refine wp_app1 (y := q) (d := sInt) (e := 46) (base := w.heap.size) (cs := [.slice D q.length d]) (t' := 46) rfl _ _ 216 rfl Tryz.underlying216 inf46 rfl (by decide) rfl hO1 rfl rfl hOq.read HBB.out.1 HBB.out.2.1 hT.size ?_; intro gA cA w3 hA)
            | go_in)
          have ht : (listsS s args).take (j + 1) = xs ++ [q] := HA.out.trans (by rw [HBB.out.2.2]; rfl)
          go_roundw
          case rel => exact ⟨j + 1, by have := HLT.out; omega, by go_num, hA.step hO1 hT (Nat.le_refl _), hA.box hO1 y0 (by decide), hA.box hO1 y1 (by decide), ht ▸ hA.own, Lib.hid (by
            rw [HI.out]
            intro a ha
            rcases List.mem_append.1 ha with ha | ha
            · exact HK.out a ha
            · rw [List.mem_singleton.1 ha]; exact HN.out.1.symm)⟩
          case measure => have := HLT.out; simp [intOf]; omega
        · have hRv : Hid (R = ([], 5)) := Lib.hid <| by
            rw [HR.out]
            refine (if_neg (by have := H0.out; omega)).trans (if_neg ?_)
            intro h
            have := List.all_eq_true.1 h x HE.out
            simp at this
            exact hz (HN.out.1.trans this)
          go_wp2_with (first
            | (go_at_call 38; refine (HQ.out _ (below_more hB _)).mono ?_; rintro e w1 ⟨v, rfl, hOq, hB1⟩; obtain ⟨D, d, rfl, _⟩ := hOq.row; have hT := below_to (below_more hB _) hB1)
            | go_in)
          rw [hRv.out]
          exact bodyPost_ret (v := .tuple #[.slice none 0 0, .int .i64 5]) (by simp [results, Tryz.results55, go_sem]) rfl ⟨_, rfl, Own.nil _ _ _ _, hT⟩
      · have hj' : j = args.length := by omega
        subst hj'
        rw [show (listsS s args).take args.length = listsS s args from List.take_of_length_le (by simp [listsS])] at hO
        have hRv : R = (sortR (rkS g.meths args (listsS s args)) (hitsGo args (listsS s args) g.meths 0), 0) := by
          rw [HR.out]
          refine (if_neg (by have := H0.out; omega)).trans (if_pos ?_)
          refine List.all_eq_true.2 fun a ha => ?_
          have := HK.out a (by rw [List.take_length]; exact ha)
          simpa using this
        have HRv := Lib.hid hRv
        have hmm := @run_makeMap Tryz.prog
        obtain ⟨L, hL⟩ : ∃ L, L = listsS s args := ⟨_, rfl⟩
        rw [← hL] at hO
        have HL := Lib.hid hL
        clear hL hRv
        go_wp2
        obtain ⟨W1, hW1⟩ : ∃ W, W = (wr.alloc (.map #[] 0)).alloc (.cells #[.map (some wr.heap.size)] 217) := ⟨_, rfl⟩
        rw [← hW1]
        have hBW : Below wr.heap.size wr W1 := hW1 ▸ below_more (below_one _ _) _
        have hMp : RankMap (rkS g.meths args L) [] W1 wr.heap.size (.slice none 0 0) wr.heap.size := ⟨[], hW1 ▸ (MapIs.made wr).below (below_one _ _), fun _ h => by cases h⟩
        have b2 : Box W1 (wr.heap.size + 1) 217 [.map (some wr.heap.size)] := hW1 ▸ Box.mk_ _ (by simp) rfl
        obtain ⟨LA, Lc, rfl, _, _, _, hrowL⟩ := hO.row
        have HL2 := Lib.hid hrowL
        have HX := Lib.hid (And.intro x0 (And.intro x1 hB))
        clear hW1 x0 x1 hO hB hmm HK hlt hj hrowL hNA
        obtain ⟨V, hV⟩ : ∃ V, V = wr := ⟨_, rfl⟩
        subst hV
        have k3 := (HX.out.2.1.later hBW).cell 3 _ rfl
        have hbx := (HX.out.2.1.later hBW).lt
        go_step3
        go_simp
        go_wp2
        go_loopw [13, 51] (Appl2 g.meths args L V)
          (fun _ vb _ => g.meths.length - (intOf vb).toNat)
        case atStart => exact ⟨0, Nat.zero_le _, rfl, Own.nil _ _ _ _, hMp, b2, hBW⟩
        case round =>
          obtain ⟨k, hk, rfl, hOo, hMp, b2, hBW⟩ := hrel
          have hNM := HM.out.1
          by_cases hlt : k < g.meths.length
          · have HLT := Lib.hid hlt
            obtain ⟨m, hm, hmem⟩ := some_at hlt
            obtain ⟨b, off, cc, hA, hbl, hkm, hcell⟩ := Rp.Row_at (Rp.Row_mov (Same.of_below (below_to HX.out.2.2 hBW)) (Rp.slice_row HG.out)) hm
            subst hA
            have HS := Lib.hid (hits_snoc args L g.meths 0 k m hm)
            have HMk := Lib.hid hm
            have hspn : m.specs.length ≤ 1000 := HM.out.2.2 m hmem
            obtain ⟨mq, msp, rfl, m1, m2, m3⟩ := hkm
            obtain ⟨A4, k4, rfl⟩ := slice_form m1
            obtain ⟨A5, k5, hms, _, _, _, hrs⟩ := m2
            cases hms
            have c0 : wr.cell? ⟨b, off + k * 3, none⟩ = some (.slice A4 m.quals.length k4) := hcell 0 _ rfl
            have c1 : wr.cell? ⟨b, off + k * 3 + 1, none⟩ = some (.slice A5 m.specs.length k5) := hcell 1 _ rfl
            have c2 : wr.cell? ⟨b, off + k * 3 + 2, none⟩ = some (.int .i64 m.fn) := hcell 2 _ rfl
            have HRS := Lib.hid hrs
            clear hcell m1 m3 hm hmem hrs
            go_wp2
            clear hlt
            obtain ⟨V2, hV2⟩ : ∃ V2, V2 = wr := ⟨_, rfl⟩
            subst hV2
            obtain ⟨W2, hW2⟩ : ∃ W, W = V2.alloc (.cells #[.slice A4 m.quals.length k4, .slice A5 m.specs.length k5, .int .i64 m.fn] 40) := ⟨_, rfl⟩
            rw [← hW2]
            have hB2 : Below V2.heap.size V2 W2 := hW2 ▸ below_one _ _
            clear hW2
            go_loopw [17, 59] (Appl3 m.specs args L W2) (fun _ vb _ => m.specs.length - (intOf vb).toNat)
            case atStart => exact ⟨0, [], Nat.zero_le _, rfl, Own.nil _ _ _ _, Below.refl _ _, by simp, rfl⟩
            case round =>
              obtain ⟨i, rr, hi, rfl, hOr, hB3, hfit, hrl⟩ := hrel
              have HF := Lib.hid hfit
              have HRL := Lib.hid hrl
              clear hfit hrl
              by_cases hlt : i < m.specs.length
              · have HLT2 := Lib.hid hlt
                obtain ⟨sp, hsp', _⟩ := some_at hlt
                have hBv := below_to hB2 hB3
                obtain ⟨bs, os, cc, hA, hbl2, hks, hcell⟩ := Rp.Row_at (Rp.Row_mov (Same.of_below hBv) HRS.out) hsp'
                subst hA
                obtain ⟨rfl, so1, so2⟩ := hks
                have d0 : wr.cell? ⟨bs, os + i * 3, none⟩ = some (.bool sp.eql) := hcell 0 _ rfl
                have d1 : wr.cell? ⟨bs, os + i * 3 + 1, none⟩ = some (.int .i64 sp.cls) := hcell 1 _ rfl
                have d2 : wr.cell? ⟨bs, os + i * 3 + 2, none⟩ = some (.string sp.obj) := hcell 2 _ rfl
                have HSP := Lib.hid hsp'
                have hNA := HM.out.2.1
                clear hcell hsp'
                by_cases ha : i < args.length
                · have HA2 := Lib.hid ha
                  obtain ⟨x, hx, _⟩ := some_at ha
                  have hB4 := below_to (below_to HX.out.2.2 hBW) hBv
                  obtain ⟨ba, oa, cc, hA, hbl3, hkx, hcell⟩ := Rp.Row_at (Rp.Row_mov (Same.of_below hB4) HRow.out) hx
                  subst hA
                  obtain ⟨rfl, xo1, xo2⟩ := hkx
                  have e0 : wr.cell? ⟨ba, oa + i * 2, none⟩ = some (.int .i64 x.cls) := hcell 0 _ rfl
                  have e1 : wr.cell? ⟨ba, oa + i * 2 + 1, none⟩ = some (.string x.obj) := hcell 1 _ rfl
                  clear hcell
                  have hLlen : L.length = args.length := by rw [HL.out]; simp [listsS]
                  have HLl := Lib.hid hLlen
                  have hal : i < L.length := by omega
                  obtain ⟨q, hq, _⟩ := some_at hal
                  obtain ⟨bl, ol, cc, hA, hbl4, hkq, hcell⟩ := Rp.Row_at (Rp.Row_mov (Same.of_below (below_to hBW hBv)) HL2.out) hq
                  subst hA
                  obtain ⟨u, rfl⟩ := Rp.cell1 hkq rfl
                  have HLq := Lib.hid (show q.length ≤ maxLen by obtain ⟨_, _, _, h1, h2, _⟩ := hkq; omega)
                  obtain ⟨D, dd, rfl⟩ := slice_form hkq
                  have f0 : wr.cell? ⟨bl, ol + i, none⟩ = some (.slice D q.length dd) := by have := hcell 0 _ rfl; simpa [Rp.slice] using this
                  have H105 := Lib.hid (fun w' (hb : Below wr.heap.size wr w') => rank105 sp x q _ _ (.slice D q.length dd) (some 3) w' (K_below (d := rSpec) ⟨rfl, so1, so2⟩ hb) (K_below (d := rArg) ⟨rfl, xo1, xo2⟩ hb) (K_below hkq hb))
                  have HFS := Lib.hid (fit_step (ss := m.specs) (xs := args) (ls := L) i sp x q HSP.out hx hq)
                  simp only [rSpec_val, rArg_val] at H105
                  obtain ⟨n, hn⟩ : ∃ n, n = (rankS sp x q).1 := ⟨_, rfl⟩
                  obtain ⟨ok, hok⟩ : ∃ ok, ok = (rankS sp x q).2 := ⟨_, rfl⟩
                  rw [← hn, ← hok] at H105
                  have HN := Lib.hid (And.intro hn hok)
                  have hLn : (i : Int) < L.length := by omega
                  clear hn hok hcell hkq so1 so2 xo1 xo2 hx hq hal hLlen
                  go_upto_region 22 with fail
                  have hBq : Below wr.heap.size wr (wr.alloc (.cells #[.bool sp.eql, .int .i64 sp.cls, .string sp.obj] 36)) := below_one _ _
                  have bq : Box (wr.alloc (.cells #[.bool sp.eql, .int .i64 sp.cls, .string sp.obj] 36)) wr.heap.size 36 [.bool sp.eql, .int .i64 sp.cls, .string sp.obj] := Box.mk_ _ rfl rfl
                  generalize wr.alloc (.cells #[.bool sp.eql, .int .i64 sp.cls, .string sp.obj] 36) = W3 at *
                  have g0 := bq.cell 0 _ rfl
                  have g1 := bq.cell 1 _ rfl
                  have g2 := bq.cell 2 _ rfl
                  have gl := bq.lt
                  have e0 := cell_later hBq e0
                  have e1 := cell_later hBq e1
                  have f0 := cell_later hBq f0
                  go_cut [20, 21] (fun va vb wx => va = .int .i64 n ∧ vb = .bool ok ∧ Below wr.heap.size wr wx)
                  case first =>
                    have l1 := World.block_lt_of_cell? W3 _ e0
                    have l2 := World.block_lt_of_cell? W3 _ f0
                    go_region_held3 (fun w' => w'.cell? ⟨wr.heap.size, 0, none⟩ = some (.bool sp.eql) ∧ w'.cell? ⟨wr.heap.size, 1, none⟩ = some (.int .i64 sp.cls) ∧ w'.cell? ⟨wr.heap.size, 2, none⟩ = some (.string sp.obj) ∧ w'.cell? ⟨ba, oa + i * 2, none⟩ = some (.int .i64 x.cls) ∧ w'.cell? ⟨ba, oa + i * 2 + 1, none⟩ = some (.string x.obj) ∧ w'.cell? ⟨bl, ol + i, none⟩ = some (.slice D q.length dd))
                      (go_keep)
                      (first | (go_at_call 105; refine (H105.out _ hBq.drew).mono ?_; rintro e w1 ⟨rfl, hB9⟩; have hT1 := below_to (below_drew W3) hB9; obtain ⟨hc1, hf1⟩ := bcell hT1))
                    go_wp2_with fail
                    go_meet
                    exact ⟨rfl, rfl, below_to hBq hT1⟩
                  case rest =>
                    obtain ⟨rfl, rfl, hBx⟩ := hcut
                    have hB5 := below_to hB3 hBx
                    cases ok with
                    | false =>
                      go_wp2
                      have hnone : fitGo m.specs args L = none := by
                        rw [HF.out, HFS.out, ← HN.out.2]
                        rfl
                      have ht : hitsGo args L (g.meths.take (k + 1)) 0 = hitsGo args L (g.meths.take k) 0 := by
                        rw [HS.out, hnone]
                        simp
                      have hX1 := below_to hB2 hB5
                      have HEX := Lib.hid (And.intro ht hX1)
                      clear ht hX1 hnone
                      go_wp2
                      exact ⟨⟨k + 1, by have := HLT.out; omega, by go_num, HEX.out.1 ▸ hOo.below HEX.out.2, HEX.out.1 ▸ hMp.mov HEX.out.2, b2.later HEX.out.2, below_to hBW HEX.out.2⟩, by have := HLT.out; simp [intOf]; omega⟩
                    | true =>
                      have hl : rr.length ≤ 1000 := by have := HLT2.out; have := HRL.out; omega
                      have HBB := Lib.hid (And.intro (show (rr.length + 1) * 8 ≤ 140737488355328 by omega) (And.intro (show rr.length + 1 ≤ maxLen by unfold maxLen; omega) (show Rp.okInt n from HN.out.1 ▸ rank_ok sp x q HLq.out)))
                      have hO5 := hOr.below hBx
                      have hz5 := hB5.size
                      clear hl
                      go_wp2_with (first
                        | (at_builtin; refine wp_app1 (y := n) (d := Rp.int) (e := 3) (base := W2.heap.size) (cs := [.int .i64 n]) (t' := 3) rfl _ _ 46 rfl Tryz.underlying46 inf3 rfl (by decide) rfl hO5 rfl rfl ⟨rfl, HBB.out.2.2⟩ HBB.out.1 HBB.out.2.1 hz5 ?_; intro gA cA w3 hA)
                        | go_in)
                      have hfit : fitGo m.specs args L = (fitGo (m.specs.drop (i + 1)) (args.drop (i + 1)) (L.drop (i + 1))).map ((rr ++ [n]) ++ ·) := by
                        rw [HF.out, HFS.out, ← HN.out.2, ← HN.out.1, if_pos rfl, Option.map_map]
                        congr 1
                        funext z
                        simp
                      go_roundw
                      case rel => exact ⟨i + 1, rr ++ [n], by have := HLT2.out; omega, by go_num, hA.own, hA.step hO5 hB5 (Nat.le_refl _), hfit, by simp [HRL.out]⟩
                      case measure => have := HLT2.out; simp [intOf]; omega
                · have hnone : fitGo m.specs args L = none := by
                    rw [HF.out, fit_more i sp HSP.out (by omega)]
                    rfl
                  have ht : hitsGo args L (g.meths.take (k + 1)) 0 = hitsGo args L (g.meths.take k) 0 := by
                    rw [HS.out, hnone]
                    simp
                  have hX0 := below_to hB2 hB3
                  have HEX := Lib.hid ht
                  have ha' : args.length ≤ i := by omega
                  clear ht hnone
                  go_wp2
                  have HEB := Lib.hid (below_to hX0 (below_one wr (.cells #[.bool sp.eql, .int .i64 sp.cls, .string sp.obj] 36)))
                  exact ⟨⟨k + 1, by have := HLT.out; omega, by go_num, HEX.out ▸ hOo.below HEB.out, HEX.out ▸ hMp.mov HEB.out, b2.later HEB.out, below_to hBW HEB.out⟩, by have := HLT.out; simp [intOf]; omega⟩
              · have hi' : i = m.specs.length := by omega
                have hsome : fitGo m.specs args L = some rr := by
                  rw [HF.out, fit_end i (by omega)]
                  simp
                have ht : hitsGo args L (g.meths.take (k + 1)) 0 = hitsGo args L (g.meths.take k) 0 ++ [(k : Int)] := by
                  rw [HS.out, hsome]
                  simp
                have HEX := Lib.hid (And.intro ht hsome)
                have hB9 := below_to hB2 hB3
                have y2 := b2.later hB9
                have y2c := y2.cell 0 _ rfl
                have y2l := y2.lt
                clear ht hsome
                have hOo9 := (hOo.below hB9).drew
                obtain ⟨lm, hMp9, hEl⟩ := hMp.mov (hB9.drew)
                have HEl := Lib.hid hEl
                obtain ⟨hs, hhs⟩ : ∃ hs, hs = hitsGo args L (g.meths.take k) 0 := ⟨_, rfl⟩
                have hl : hs.length ≤ 1000 := by
                  have := hits_length args L (g.meths.take k) 0
                  rw [List.length_take] at this
                  rw [hhs]
                  omega
                have HHS := Lib.hid hhs
                rw [← hhs] at hOo9 HEl HEX
                have HBB := Lib.hid (And.intro (show (hs.length + 1) * 8 ≤ 140737488355328 by omega) (And.intro (show hs.length + 1 ≤ maxLen by unfold maxLen; omega) (show Rp.okInt (k : Int) from ⟨by omega, by omega⟩)))
                have hTd : V.heap.size ≤ wr.drew.heap.size := (below_to hBW hB9).size
                have hOr9 := hOr.drew
                obtain ⟨R0, r0, rfl, _⟩ := hOr.row
                clear hl hhs hEl
                go_wp2
                go_region_law (first
                  | (refine step_app1 (y := (k : Int)) (d := Rp.int) (e := 3) (base := V.heap.size) (sz := 1) (bs := 8) (cs := [.int .i64 k]) (t' := 3) (by rfl) _ _ 46 (by rfl) Tryz.underlying46 inf3 rfl (by decide) (by rfl) hOo9 rfl (by rfl) ⟨rfl, HBB.out.2.2⟩ HBB.out.1 HBB.out.2.1 hTd ?_; intro gA cA w3 hA; have y3 := hA.box hOo9 y2.drew (by decide); have y3c := y3.cell 0 _ rfl; have y3l := y3.lt; have hMp3 := (hMp9.below (below_one _ _)).mov (fun _ _ h _ => by cases h) (hA.block (hMp9.below (below_one _ _)).lt (hOo9.ne_map hMp9)); obtain ⟨w4, hrun4, hM4, hg4, hs4, hz4⟩ := hMp3.store keysInt Tryz.underlying217 rfl (x := (k : Int)) HBB.out.2.2 (v := (R0, rr.length, r0)) (cs := [.slice R0 rr.length r0]) ⟨rfl, trivial⟩; have hrun5 : (Instr.mapUpdate 217 (Value.map (some V.heap.size)) (Value.int .i64 (k : Int)) (Value.slice R0 rr.length r0)).run Tryz.prog w3 = .ok () w4 := hrun4; clear hrun4))
                all_goals
                  have hc4 := Chg.of_map hMp3 hg4 hs4 hz4
                  have hB4 := hc4.below (hA.step hOo9 (below_to hBW hB9).drew (Nat.le_refl _)) (Nat.le_refl _)
                  have hO4 := hc4.own hA.own (by decide) rfl
                  have y4 := hc4.box_ty y3 (by decide)
                  have hkn : (k : Int) ∉ hs := fun h => by
                    rw [HHS.out] at h
                    have := hits_range args L (g.meths.take k) 0 _ h
                    rw [List.length_take] at this
                    omega
                  have hR4 := RankMap.push (rk := rkS g.meths args L) HEl.out HBB.out.2.2 hkn hOr9 (Nat.le_trans hBW.size hB2.size) (by simp [rkS, HMk.out, HEX.out.2]) (fun b hb => by have := (hOo.ge b hb).2; have := hB2.size; omega) hA hM4 hc4
                  have HZ := Lib.hid (And.intro hB4 (And.intro (HEX.out.1.symm ▸ hO4) (And.intro y4 (HEX.out.1.symm ▸ hR4))))
                  clear hB4 hO4 y4 hR4 hkn hc4 hM4 hg4 hs4 hz4 hrun5
                  go_wp2
                  go_roundw
                  case rel => exact ⟨k + 1, by have := HLT.out; omega, by go_num, HZ.out.2.1, HZ.out.2.2.2, HZ.out.2.2.1, HZ.out.1⟩
                  case measure => have := HLT.out; simp [intOf]; omega
          · have hk' : k = g.meths.length := by omega
            subst hk'
            rw [List.take_length] at hOo hMp
            have hso := hits_sorted args L g.meths 0
            have hrg := hits_range args L g.meths 0
            have hln := hits_length args L g.meths 0
            obtain ⟨hs, hhs⟩ : ∃ hs, hs = hitsGo args L g.meths 0 := ⟨_, rfl⟩
            rw [← hhs] at hOo hMp hso hrg hln
            have HHS := Lib.hid hhs
            have hlen9 : hs.length ≤ 1000000 := by omega
            have hBV := below_to HX.out.2.2 hBW
            have hVl := HX.out.2.2.size
            have HQ := Lib.hid (And.intro hBV hVl)
            rcases hOo.block with ⟨rfl, rfl⟩ | ⟨g0, cap, cur, rfl, hg0, hg1, _⟩
            · have HS := Lib.hid (sort106_nil 107 #[.pointer (some ⟨V.heap.size + 1, 0, none⟩)] wr)
              clear hhs hso hrg hln hlen9 hBV hVl hMp hOo
              go_wp2_with (first
                | (go_at_call 106; refine HS.out.mono ?_; rintro e w1 ⟨rfl, rfl⟩)
                | go_in)
              have e : R = ([], 0) := by rw [HRv.out, ← HL.out, ← HHS.out]; rfl
              rw [e]
              exact bodyPost_ret (v := .tuple #[.slice none 0 0, .int .i64 0]) (by simp [results, Tryz.results55, go_sem]) rfl ⟨_, rfl, Own.nil _ _ _ _, HQ.out.1⟩
            · have hR0 : Ranks (rkS g.meths args L) (fun x => x ∈ hs) wr V.heap.size g0 V.heap.size := by
                obtain ⟨lm, hM, hE⟩ := hMp
                refine ⟨fun e => (hOo.ne_map hM) (by rw [e]; rfl), lm, hM, fun x hx => ?_⟩
                obtain ⟨h1, p, h2, h3, h4⟩ := hE x hx
                exact ⟨h1, p, h2, h3, fun he => h4 g0 he rfl⟩
              have hbx : V.heap.size + 1 ≠ g0 := by
                rintro rfl
                have h1 := b2
                unfold Box at h1
                rw [hg1] at h1
                cases h1
              have HS := Lib.hid (sort106 hs hs.length g0 cap V.heap.size 107 _ (rkS g.meths args L) (fun x => x ∈ hs) wr rfl hlen9 hso (fun _ h => h) enters107 (cmpOk107 hR0 b2 hbx) hOo)
              clear hhs hso hrg hln hlen9 hBV hVl hMp hOo hg0 hg1 hbx hR0
              go_wp2_with (first
                | (go_at_call 106; refine HS.out.mono ?_; rintro e w1 ⟨rfl, h1, h2⟩)
                | go_in)
              have e : R = (sortR (rkS g.meths args L) hs, 0) := by rw [HRv.out, ← HL.out, ← HHS.out]
              rw [e]
              refine bodyPost_ret (v := .tuple #[.slice (some ⟨g0, 0, none⟩) hs.length cap, .int .i64 0]) (by simp [results, Tryz.results55, go_sem]) rfl ⟨_, rfl, h1.lower HQ.out.2, HQ.out.1.grown h2 HQ.out.1.size (fun k hk => ?_)⟩
              cases hk
              have := (h1.ge g0 rfl).1
              have := HQ.out.2
              omega
end Go.Proofs.YtoncaejgflfhhaaGreatDoor
