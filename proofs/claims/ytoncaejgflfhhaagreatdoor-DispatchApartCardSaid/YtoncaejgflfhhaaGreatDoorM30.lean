/- method's Effective. -/
import Derived.Test.YtoncaejgflfhhaaGreatDoorM24
import Derived.Test.YtoncaejgflfhhaaGreatDoorM29
import Derived.Deep.CutBlock
set_option linter.unusedVariables false
set_option linter.unusedSimpArgs false
namespace Go.Proofs.YtoncaejgflfhhaaGreatDoor
open Go.RowKit

abbrev zPlan : List Value := [.slice none 0 0, .slice none 0 0, .slice none 0 0, .slice none 0 0, .string ⟨#[]⟩]
theorem okI (n : Int) (h : 0 ≤ n) (k : n ≤ 10) : Rp.okInt n := ⟨by omega, by omega⟩
theorem zPlan_one : ∀ u ∈ zPlan, u.oneCell' = true := by simp [Value.oneCell']
theorem roleLook_no {w : World} {b pb : Nat} (h : MapIs (Value.int .i64) Rp.okInt Rp.ptr w b (roleMap pb)) : (Instr.lookup 149 (.map (some b)) (.int .i64 0) true).run Tryz.prog w = .ok (.tuple #[.pointer none, .bool false]) w := by
  rcases h.look keysInt Tryz.underlying149 (zero148 w) (x := (0 : Int)) (okI _ (by decide) (by decide)) true with ⟨_, h⟩ | ⟨v, cs, h, _⟩
  · exact h
  · cases h
theorem roleLook_yes {w : World} {b pb t : Nat} (ht : t < 4) (h : MapIs (Value.int .i64) Rp.okInt Rp.ptr w b (roleMap pb)) : (Instr.lookup 149 (.map (some b)) (.int .i64 ((t : Int) + 1)) true).run Tryz.prog w = .ok (.tuple #[.pointer (some ⟨pb, t, none⟩), .bool true]) w := by
  rcases h.look keysInt Tryz.underlying149 (zero148 w) (x := (t : Int) + 1) (okI _ (by omega) (by omega)) true with ⟨h, _⟩ | ⟨v, cs, h, hk, hr⟩
  · rw [roleMap_get pb ht] at h
    cases h
  · rw [roleMap_get pb ht] at h
    cases h
    obtain ⟨rfl, _⟩ := hk
    exact hr
theorem take_snoc_at {α : Type} {l : List α} {k : Nat} {x : α} (h : l[k]? = some x) : l.take (k + 1) = l.take k ++ [x] := by
  obtain ⟨h1, h2⟩ := List.getElem?_eq_some_iff.1 h
  rw [List.take_succ_eq_append_getElem h1, h2]
/-- What holds at the head of Effective's loop. -/
def Eff2 (g : Gen) (l : List Int) (V : World) (vi : Value) (wr : World) : Prop :=
  ∃ (k : Nat) (f : Nat → Value) (p : Plan), k ≤ l.length ∧ vi = .int .i64 k ∧ Box wr V.heap.size 48 (fourCells f) ∧ MapIs (Value.int .i64) Rp.okInt Rp.ptr wr (V.heap.size + 1) (roleMap V.heap.size) ∧ Four V.heap.size wr f p ∧ planGo g (l.take k) emptyPlan = some p ∧ p.op = ⟨#[]⟩ ∧ planN p ≤ k ∧ Below V.heap.size V wr

set_option maxHeartbeats 4000000 in
set_option maxRecDepth 100000 in
theorem eff23 (s : CS) (cs : List Value) (g : Gen) (gcs : List Value) (e : Option Nat) (args : List Arg) (va : Value) (w : World) (hs : rCS.K w s cs) (hg : rGen.K w g gcs) (ha : (Rp.slice e rArg).K w args [va])
    (hlen : s.classes.length ≤ 100000) (hm : g.meths.length ≤ 1000) (hargs : args.length ≤ 1000) (hsp : ∀ m ∈ g.meths, m.specs.length ≤ 1000) :
    Calls Tryz.prog 23 #[rCS.val cs, rGen.val gcs, va] w (RE rPlan (effS s g args) w) := by
  have HA := Lib.hid (fun w' (hb : Below w.heap.size w w') => appl55 s cs g gcs e args va w' (K_below hs hb) (K_below hg hb) (K_below ha hb) hlen hm hargs hsp)
  obtain ⟨R, hR⟩ : ∃ R, R = effS s g args := ⟨_, rfl⟩
  rw [← hR]
  unfold effS at hR
  have hmem := appl_mem s g args
  have hle := appl_length s g args
  obtain ⟨l, hl⟩ : ∃ l, l = (applS s g args).1 := ⟨_, rfl⟩
  obtain ⟨c, hc⟩ : ∃ c, c = (applS s g args).2 := ⟨_, rfl⟩
  have hAP : applS s g args = (l, c) := by rw [hl, hc]
  rw [hAP] at HA hR hmem hle
  have HR := Lib.hid hR
  have HM := Lib.hid (And.intro hm (And.intro hmem hle))
  clear hR hl hc hAP hmem hle hm hargs hsp hlen
  obtain ⟨u, h, rfl, hu, hh⟩ := id hs
  obtain ⟨gm, rfl, hgm, hgr, hg2⟩ := id hg
  rw [rCS_val, rGen_val] at HA ⊢
  have hva1 := slice_one ha
  obtain ⟨A0, c0, rfl⟩ := slice_form ha
  obtain ⟨A1, c1, rfl⟩ := slice_form hu
  obtain ⟨A2, c2, rfl⟩ := slice_form hh
  obtain ⟨A3, c3, rfl⟩ := slice_form hgm
  have HG := Lib.hid hg
  clear hu hh hs hg ha hgr hg2 hva1
  obtain ⟨W0, hW0⟩ : ∃ W, W = ((w.alloc (.cells #[.slice A1 s.classes.length c1, .slice A2 s.history.length c2] 44)).alloc (.cells #[.string g.name, .string g.comb, .int .i64 g.req, .slice A3 g.meths.length c3] 80)).alloc (.cells zPlan.toArray 48) := ⟨_, rfl⟩
  have hB0 : Below w.heap.size w W0 := hW0 ▸ below_more (below_more (below_one _ _) _) _
  have b0 : Box W0 w.heap.size 44 [.slice A1 s.classes.length c1, .slice A2 s.history.length c2] := hW0 ▸ ((Box.mk_ _ rfl rfl).alloc _).alloc _
  have b1 : Box W0 (w.heap.size + 1) 80 [.string g.name, .string g.comb, .int .i64 g.req, .slice A3 g.meths.length c3] := hW0 ▸ (Box.mk_ _ (by simp) rfl).alloc _
  have b2 : Box W0 (w.heap.size + 1 + 1) 48 zPlan := hW0 ▸ Box.mk_ _ (by simp) rfl
  have HW0 := Lib.hid hW0
  clear hW0
  by_cases hz : c = 0
  · subst hz
    have hmm := @run_makeMap Tryz.prog
    go_enter Tryz.func23, Tryz.ntmps23
    go_wp2_with (first
      | (go_at_call 55; refine (HA.out _ (HW0.out ▸ hB0)).mono ?_; rintro e V ⟨v, rfl, hO, hB1⟩; obtain ⟨D, d, rfl, _⟩ := hO.row; have hB1' : Below W0.heap.size W0 V := (by rw [HW0.out]; exact hB1); have x2 := b2.later hB1'; have x1 := b1.later hB1'; have hT := below_to hB0 hB1'; have hM0 : MapIs (Value.int .i64) Rp.okInt Rp.ptr ((V.alloc (.cells zPlan.toArray 48)).alloc (.map #[] 0)) (V.heap.size + 1) ([] : List (Int × (Nat × Nat))) := (by have := MapIs.made (kv := Value.int .i64) (ok := Rp.okInt) (d := Rp.ptr) (V.alloc (.cells zPlan.toArray 48)); simpa using this); have z0 : Box ((V.alloc (.cells zPlan.toArray 48)).alloc (.map #[] 0)) V.heap.size 48 zPlan := (Box.mk_ _ rfl rfl).alloc _; have hX0 := below_more (below_one V (.cells zPlan.toArray 48)) (.map #[] 0))
      | (refine wp_map_insert _ rfl _ _ _ 149 rfl keysInt Tryz.underlying149 rfl rfl hM0 (X := (1 : Int)) rfl (okI _ (by decide) (by decide)) (y := (V.heap.size, 0)) (cs := [.pointer (some ⟨V.heap.size, 0, none⟩)]) rfl ⟨rfl, trivial⟩ ?_; intro w2 hM1 hg1 hs1 hz1; have hc1 := Chg.of_map hM0 hg1 hs1 hz1; have z1 := hc1.box_ty z0 (by decide); have hX1 := hc1.below hX0 (by omega); clear hmm)
      | (refine wp_map_insert _ rfl _ _ _ 149 rfl keysInt Tryz.underlying149 rfl rfl hM1 (X := (2 : Int)) rfl (okI _ (by decide) (by decide)) (y := (V.heap.size, 1)) (cs := [.pointer (some ⟨V.heap.size, 1, none⟩)]) rfl ⟨rfl, trivial⟩ ?_; intro w3 hM2 hg2 hs2 hz2; have hc2 := Chg.of_map hM1 hg2 hs2 hz2; have z2 := hc2.box_ty z1 (by decide); have hX2 := hc2.below hX1 (by omega))
      | (refine wp_map_insert _ rfl _ _ _ 149 rfl keysInt Tryz.underlying149 rfl rfl hM2 (X := (3 : Int)) rfl (okI _ (by decide) (by decide)) (y := (V.heap.size, 2)) (cs := [.pointer (some ⟨V.heap.size, 2, none⟩)]) rfl ⟨rfl, trivial⟩ ?_; intro w4 hM3 hg3 hs3 hz3; have hc3 := Chg.of_map hM2 hg3 hs3 hz3; have z3 := hc3.box_ty z2 (by decide); have hX3 := hc3.below hX2 (by omega))
      | (refine wp_map_insert _ rfl _ _ _ 149 rfl keysInt Tryz.underlying149 rfl rfl hM3 (X := (4 : Int)) rfl (okI _ (by decide) (by decide)) (y := (V.heap.size, 3)) (cs := [.pointer (some ⟨V.heap.size, 3, none⟩)]) rfl ⟨rfl, trivial⟩ ?_; intro w5 hM4 hg4 hs4 hz4; have hc4 := Chg.of_map hM3 hg4 hs4 hz4; have z4 := hc4.box_ty z3 (by decide); have hX4 := hc4.below hX3 (by omega))
      | go_in)
    have HX := Lib.hid (And.intro x1 (And.intro x2 (And.intro hT hO)))
    clear hM0 hM1 hM2 hM3 z0 z1 z2 z3 hg1 hg2 hg3 hg4 hs1 hs2 hs3 hs4 hz1 hz2 hz3 hz4 hc1 hc2 hc3 hc4 hX0 hX1 hX2 hX3 x1 x2 hT hO hB1 hB1' b0 b1 b2 hB0 HW0
    go_loopw [35] (Eff2 g l V) (fun va _ => l.length - (intOf va).toNat)
    case atStart => exact ⟨0, (fun _ => .slice none 0 0), emptyPlan, Nat.zero_le _, rfl, z4, hM4, (Four.start _ _), rfl, rfl, Nat.le_refl _, hX4⟩
    case round =>
      obtain ⟨k, f, p, hk, rfl, hbx, hMp, hF, hgo, hop, hpn, hBV⟩ := hrel
      have HF := Lib.hid (And.intro hgo (And.intro hop hpn))
      clear hgo hop hpn z4 hM4 hX4
      have hLN := HM.out.2.2
      have hMN := HM.out.1
      by_cases hlt : k < l.length
      · have HLT := Lib.hid hlt
        obtain ⟨i, hi, him⟩ := some_at hlt
        have hir := HM.out.2.1 i him
        obtain ⟨n, rfl⟩ : ∃ n : Nat, i = n := ⟨i.toNat, by omega⟩
        have hnl : n < g.meths.length := by omega
        obtain ⟨m, hm, _⟩ := some_at hnl
        have HMm := Lib.hid hm
        have HI := Lib.hid hi
        have hBw := below_to HX.out.2.2.1 hBV
        obtain ⟨gm', hge, hgm', _⟩ := HG.out
        cases hge
        obtain ⟨bm, om, cc, hA, hbl, hkm, hcell⟩ := Rp.Row_at (Rp.Row_mov (Same.of_below hBw) (Rp.slice_row hgm')) hm
        subst hA
        have HK := Lib.hid hkm
        obtain ⟨mq, ms, rfl, m1, m2, m3⟩ := hkm
        obtain ⟨A4, k4, rfl⟩ := slice_form m1
        obtain ⟨A5, k5, rfl⟩ := slice_form m2
        have c0 : wr.cell? ⟨bm, om + n * 3, none⟩ = some (.slice A4 m.quals.length k4) := hcell 0 _ rfl
        have c1 : wr.cell? ⟨bm, om + n * 3 + 1, none⟩ = some (.slice A5 m.specs.length k5) := hcell 1 _ rfl
        have c2 : wr.cell? ⟨bm, om + n * 3 + 2, none⟩ = some (.int .i64 m.fn) := hcell 2 _ rfl
        obtain ⟨oL, hOv⟩ : ∃ oL, oL = HX.out.2.2.2 := ⟨_, rfl⟩
        obtain ⟨bl, ol, cc, hA, hbl4, hkq, hcell⟩ := Rp.Row_at (Rp.Row_mov (Same.of_below hBV) (Rp.slice_row HX.out.2.2.2.read)) hi
        subst hA
        obtain ⟨rfl, _⟩ := hkq
        have f0 : wr.cell? ⟨bl, ol + k, none⟩ = some (.int .i64 n) := by have := hcell 0 _ rfl; simpa [Rp.int, Rp.scalar] using this
        have y1 := HX.out.1.later hBV
        have e0 := y1.cell 0 _ rfl
        have e1 := y1.cell 1 _ rfl
        have e2 := y1.cell 2 _ rfl
        have e3 := y1.cell 3 _ rfl
        have el := y1.lt
        have H56 := Lib.hid (fun w' (hb : Below wr.heap.size wr w') => role56 g _ m _ w' (K_below (K_below HG.out hBw) hb) (K_below HK.out hb))
        simp only [rGen_val, rMeth_val] at H56
        have hni : (n : Int) < g.meths.length := by omega
        clear hcell m1 m2 hgm' oL hOv him hir y1
        rcases role_range g.comb m.quals with hr | ⟨t, ht, hr⟩
        · rw [hr] at H56
          have HRo := Lib.hid hr
          clear hr
          go_upto_region 9 with fail
          go_cut [14, 15] (fun va vb wx => va = .pointer none ∧ vb = .bool false ∧ Below wr.heap.size wr wx)
          case first =>
            go_region_held3 (fun w' => w'.cell? ⟨w.heap.size + 1, 0, none⟩ = some (.string g.name) ∧ w'.cell? ⟨w.heap.size + 1, 1, none⟩ = some (.string g.comb) ∧ w'.cell? ⟨w.heap.size + 1, 2, none⟩ = some (.int .i64 g.req) ∧ w'.cell? ⟨w.heap.size + 1, 3, none⟩ = some (.slice (some ⟨bm, om, none⟩) g.meths.length c3) ∧ w'.cell? ⟨bm, om + n * 3, none⟩ = some (.slice A4 m.quals.length k4) ∧ w'.cell? ⟨bm, om + n * 3 + 1, none⟩ = some (.slice A5 m.specs.length k5) ∧ w'.cell? ⟨bm, om + n * 3 + 2, none⟩ = some (.int .i64 m.fn))
              (go_keep)
              (first | (go_at_call 56; refine (H56.out _ (below_drew wr)).mono ?_; rintro e w1 ⟨rfl, hB9⟩; have hT1 := below_to (below_drew wr) hB9; obtain ⟨hc1, hf1⟩ := bcell hT1; have hlk := roleLook_no (hMp.below hT1)))
            go_wp2_with fail
            go_meet
            exact ⟨rfl, rfl, hT1⟩
          case rest =>
            obtain ⟨rfl, rfl, hBx⟩ := hcut
            have hBc := below_to hBV hBx
            have y6 := HX.out.2.1.later hBc
            have h290 : planGo g l emptyPlan = none := by
              rw [← List.take_append_drop (k + 1) l]
              refine planGo_none _ _ _ _ ?_
              rw [take_snoc_at HI.out, planGo_snoc g _ _ _ m (by rw [Int.toNat_natCast]; exact HMm.out), HF.out.1]
              show (if _ then _ else _) = _
              rw [if_pos HRo.out]
            have HRv : Hid (R = (emptyPlan, 290)) := by
              refine Lib.hid ?_
              rw [HR.out]
              show (if (0 : Int) ≠ 0 then _ else _) = _
              rw [if_neg (by decide)]
              show (match planGo g l emptyPlan with | none => _ | some p => _) = _
              rw [h290]
            clear h290
            go_wp2_with (first
              | (refine wp_box_store rfl 48 _ _ rfl (us := zPlan) rfl rfl y6 siz48 rfl zPlan_one ?_; intro w2 y2 hc2; obtain ⟨q0, q1, q2, q3, q4, qf, ql⟩ := y2.five; have hT2 := hc2.below (below_to HX.out.2.2.1 hBc) (by omega))
              | go_in)
            rw [HRv.out]
            exact bodyPost_ret (v := .tuple #[.agg zPlan.toArray, .int .i64 290]) (by simp [results, Tryz.results23, go_sem, q0, q1, q2, q3, q4]) rfl ⟨zPlan, rfl, emptyPlan_K _, hT2⟩
        · rw [hr] at H56
          have HRo := Lib.hid hr
          clear hr
          go_upto_region 9 with fail
          go_cut [14, 15] (fun va vb wx => va = .pointer (some ⟨V.heap.size, t, none⟩) ∧ vb = .bool true ∧ Below wr.heap.size wr wx)
          case first =>
            go_region_held3 (fun w' => w'.cell? ⟨w.heap.size + 1, 0, none⟩ = some (.string g.name) ∧ w'.cell? ⟨w.heap.size + 1, 1, none⟩ = some (.string g.comb) ∧ w'.cell? ⟨w.heap.size + 1, 2, none⟩ = some (.int .i64 g.req) ∧ w'.cell? ⟨w.heap.size + 1, 3, none⟩ = some (.slice (some ⟨bm, om, none⟩) g.meths.length c3) ∧ w'.cell? ⟨bm, om + n * 3, none⟩ = some (.slice A4 m.quals.length k4) ∧ w'.cell? ⟨bm, om + n * 3 + 1, none⟩ = some (.slice A5 m.specs.length k5) ∧ w'.cell? ⟨bm, om + n * 3 + 2, none⟩ = some (.int .i64 m.fn))
              (go_keep)
              (first | (go_at_call 56; refine (H56.out _ (below_drew wr)).mono ?_; rintro e w1 ⟨rfl, hB9⟩; have hT1 := below_to (below_drew wr) hB9; obtain ⟨hc1, hf1⟩ := bcell hT1; have hlk := roleLook_yes ht (hMp.below hT1)))
            go_wp2_with fail
            go_meet
            exact ⟨rfl, rfl, hT1⟩
          case rest =>
            obtain ⟨rfl, rfl, hBx⟩ := hcut
            have hBc := below_to hBV hBx
            have y1 := HX.out.1.later hBc
            have e3 := y1.cell 3 _ rfl
            have el := y1.lt
            have c2 := cell_later hBx c2
            have zb := hbx.later hBx
            have zt := zb.cell t _ (fourCells_get f ht)
            have zf := zb.free t
            have zl := zb.lt
            have hF' := hF.below hBx
            have hOd := (hF'.1 t ht).drew
            have zbd := zb.drew
            have hTd : V.heap.size ≤ wc.drew.heap.size := hBc.size
            have hpl : (planL p t).length ≤ 1000 := by have := planL_le p t; have := HF.out.2.2; omega
            have HBB := Lib.hid (And.intro (show ((planL p t).length + 1) * 8 ≤ 140737488355328 by omega) (And.intro (show (planL p t).length + 1 ≤ maxLen by unfold maxLen; omega) (show Rp.okInt m.fn by obtain ⟨_, _, h, _, _, h3⟩ := HK.out; exact h3)))
            clear hpl
            go_upto_region 12 with fail
            go_region_law (first
              | (refine step_app1 (y := m.fn) (d := Rp.int) (e := 3) (base := V.heap.size) (sz := 1) (bs := 8) (cs := [.int .i64 m.fn]) (t' := 3) (by rfl) _ _ 46 (by rfl) Tryz.underlying46 inf3 rfl (by decide) (by rfl) hOd rfl (by rfl) ⟨rfl, HBB.out.2.2⟩ HBB.out.1 HBB.out.2.1 hTd ?_; intro gA cA w3 hA; have zb3 := hA.box hOd zbd (by decide); have k0 := zb3.cell t _ (fourCells_get f ht); have kf := zb3.free t; have kl := zb3.lt))
            all_goals
              have hc3 := zb3.chg t (.slice (some ⟨gA, 0, none⟩) ((planL p t).length + 1) cA)
              have n1 := zb3.set t (.slice (some ⟨gA, 0, none⟩) ((planL p t).length + 1) cA)
              rw [fourCells_set f ht] at n1
              have hF0 : Four V.heap.size wc.drew f p := hF'.below (below_drew wc)
              have n2 := (hF0.push ht hA).set_box zb3 t (.slice (some ⟨gA, 0, none⟩) ((planL p t).length + 1) cA)
              have hMc : MapIs (Value.int .i64) Rp.okInt Rp.ptr (wc.drew.alloc (.cells #[.int .i64 m.fn] 3)) (V.heap.size + 1) (roleMap V.heap.size) := (hMp.below (below_to hBx (below_drew wc))).below (below_one _ _)
              have n3 := hc3.map (hMc.mov (fun _ _ h _ => by cases h) (hA.block hMc.lt (hOd.ne_map (hMp.below (below_to hBx (below_drew wc)))))) (by decide) rfl
              have n4 := hc3.below (hA.step hOd hBc.drew (Nat.le_refl _)) (Nat.le_refl _)
              have hgo : planGo g (l.take (k + 1)) emptyPlan = some (planAdd p ((t : Int) + 1) m.fn) := by
                rw [take_snoc_at HI.out, planGo_snoc g _ _ _ m (by rw [Int.toNat_natCast]; exact HMm.out), HF.out.1]
                show (if _ then _ else _) = _
                rw [HRo.out, if_neg (by omega)]
              have HZ := Lib.hid (And.intro n1 (And.intro n3 (And.intro n2 (And.intro hgo n4))))
              clear n1 n2 n3 n4 hgo hc3 hMc hF0
              go_wp2
              go_roundw
              case rel => exact ⟨k + 1, _, _, by have := HLT.out; omega, by go_num, HZ.out.1, HZ.out.2.1, HZ.out.2.2.1, HZ.out.2.2.2.1, by rw [planAdd_op]; exact HF.out.2.1, by rw [planN_add]; have := HF.out.2.2; omega, HZ.out.2.2.2.2⟩
              case measure => have := HLT.out; simp [intOf]; omega
      · have hk' : k = l.length := by omega
        subst hk'
        have hgo := HF.out.1
        rw [List.take_length] at hgo
        have hR : R = if p.pr = [] then (emptyPlan, 291) else ({ p with af := p.af.reverse, op := if g.comb = sStd then ⟨#[]⟩ else g.comb }, 0) := by
          rw [HR.out]
          show (if (0 : Int) ≠ 0 then _ else _) = _
          rw [if_neg (by decide)]
          show (match planGo g l emptyPlan with | none => _ | some p => _) = _
          rw [hgo]
        have HR2 := Lib.hid hR
        have hBw := below_to HX.out.2.2.1 hBV
        have hwV := HX.out.2.2.1.size
        have HBW := Lib.hid (And.intro hBw hwV)
        have y6 := HX.out.2.1.later hBV
        have y1 := HX.out.1.later hBV
        obtain ⟨v0, hv0⟩ : ∃ v, v = f 0 := ⟨_, rfl⟩
        obtain ⟨v1, hv1⟩ : ∃ v, v = f 1 := ⟨_, rfl⟩
        obtain ⟨v2, hv2⟩ : ∃ v, v = f 2 := ⟨_, rfl⟩
        obtain ⟨v3, hv3⟩ : ∃ v, v = f 3 := ⟨_, rfl⟩
        have o0 : Own 3 Rp.int V.heap.size wr v0 p.ar := hv0 ▸ hF.1 0 (by omega)
        have o1 : Own 3 Rp.int V.heap.size wr v1 p.be := hv1 ▸ hF.1 1 (by omega)
        have o2 : Own 3 Rp.int V.heap.size wr v2 p.pr := hv2 ▸ hF.1 2 (by omega)
        have o3 : Own 3 Rp.int V.heap.size wr v3 p.af := hv3 ▸ hF.1 3 (by omega)
        have n03 : ∀ b, v0.ownBlock = some b → v3.ownBlock ≠ some b := hv0 ▸ hv3 ▸ hF.2 0 3 (by omega) (by omega) (by omega)
        have n13 : ∀ b, v1.ownBlock = some b → v3.ownBlock ≠ some b := hv1 ▸ hv3 ▸ hF.2 1 3 (by omega) (by omega) (by omega)
        have n23 : ∀ b, v2.ownBlock = some b → v3.ownBlock ≠ some b := hv2 ▸ hv3 ▸ hF.2 2 3 (by omega) (by omega) (by omega)
        have zb : Box wr V.heap.size 48 [v0, v1, v2, v3, .string ⟨#[]⟩] := by rw [hv0, hv1, hv2, hv3]; exact hbx
        have hafl : p.af.length ≤ 1000000 := by have := HF.out.2.2; unfold planN at this; omega
        clear hv0 hv1 hv2 hv3 hbx hMp hF hgo hR hBw hwV
        obtain ⟨A4, k4, rfl, _⟩ := o2.row
        obtain ⟨p0, p1, p2, p3, p4, pf, pl⟩ := zb.five
        have e1 := y1.cell 1 _ rfl
        by_cases hp : p.pr = []
        · have HRv : Hid (R = (emptyPlan, 291)) := Lib.hid (by rw [HR2.out, if_pos hp])
          rw [hp] at p2 zb
          clear o0 o1 o2 o3 n03 n13 n23 hp
          go_wp2_with (first
            | (refine wp_box_store rfl 48 _ _ rfl (us := zPlan) rfl rfl y6 siz48 rfl zPlan_one ?_; intro w2 y2 hc2; obtain ⟨q0, q1, q2, q3, q4, qf, ql⟩ := y2.five; have hT2 := hc2.below HBW.out.1 (by omega))
            | go_in)
          rw [HRv.out]
          exact bodyPost_ret (v := .tuple #[.agg zPlan.toArray, .int .i64 291]) (by simp [results, Tryz.results23, go_sem, q0, q1, q2, q3, q4]) rfl ⟨zPlan, rfl, emptyPlan_K _, hT2⟩
        · have hpl : ¬ p.pr.length = 0 := fun h => hp (List.eq_nil_of_length_eq_zero h)
          have H57 := Lib.hid (rev57 p.af v3 V.heap.size wr hafl o3)
          have hpb : ((p.pr.length : Int) == 0) = false := by rw [beq_eq_false_iff_ne]; omega
          have hlt6 := HX.out.2.1.lt
          have oc := (show v0.oneCell' = true from slice_one o0.read)
          have oc1 := (show v1.oneCell' = true from slice_one o1.read)
          have oc3 := (show v3.oneCell' = true from slice_one o3.read)
          have HUS := Lib.hid (And.intro oc (And.intro oc1 oc3))
          have HCS : Hid (g.comb.size ≤ maxLen) := by
            obtain ⟨_, _, _, _, _, h⟩ := HG.out
            exact Lib.hid h
          clear oc oc1 oc3
          by_cases hc : g.comb = sStd
          · have kn : (g.comb.toList != [83, 84, 65, 78, 68, 65, 82, 68]) = false := by rw [bne, lit_yes lstd hc]; rfl
            have kc := lit_yes lstd hc
            have kc' : (!(g.comb.toList == [83, 84, 65, 78, 68, 65, 82, 68])) = false := by rw [kc]; rfl
            have HRv : Hid (R = ({ p with af := p.af.reverse, op := ⟨#[]⟩ }, 0)) := Lib.hid (by rw [HR2.out, if_neg hp, if_pos hc])
            have hus : ∀ u ∈ [v0, v1, .slice A4 p.pr.length k4, v3, .string ⟨#[]⟩], u.oneCell' = true := by
              intro u hu
              simp at hu
              rcases hu with rfl | rfl | rfl | rfl | rfl
              · exact HUS.out.1
              · exact HUS.out.2.1
              · rfl
              · exact HUS.out.2.2
              · rfl
            have HU := Lib.hid hus
            clear hc hus hp
            go_wp2_with (first
              | (go_at_call 57; refine H57.out.mono ?_; rintro e w1 ⟨rfl, h1, hg⟩; have z1 := zb.grown hg (o3.ne_box zb (by decide)); have w6 := y6.grown hg (o3.ne_box y6 (by decide)); have w1b := y1.grown hg (o3.ne_box y1 (by decide)); have g1 := w1b.cell 1 _ rfl; have gl := w1b.lt; have r0 := o0.move (w' := w1) (fun _ _ h _ => nomatch h) (fun b hb => hg.block b (o0.ge b hb).2 (fun e => n03 b hb e.symm)); have r1 := o1.move (w' := w1) (fun _ _ h _ => nomatch h) (fun b hb => hg.block b (o1.ge b hb).2 (fun e => n13 b hb e.symm)); have r2 := o2.move (w' := w1) (fun _ _ h _ => nomatch h) (fun b hb => hg.block b (o2.ge b hb).2 (fun e => n23 b hb e.symm)); have hB1 := HBW.out.1.grown hg HBW.out.1.size (fun b hb => Nat.le_trans HBW.out.2 (o3.ge b hb).1))
              | (refine wp_box_load rfl 48 _ rfl rfl z1 Tryz.underlying48 rfl siz48 ?_)
              | (refine wp_box_store rfl 48 _ _ rfl (us := [v0, v1, .slice A4 p.pr.length k4, v3, .string ⟨#[]⟩]) rfl rfl w6 siz48 rfl HU.out ?_; intro w2 y2 hc2; obtain ⟨q0, q1, q2, q3, q4, qf, ql⟩ := y2.five; have hT2 := hc2.below hB1 (by omega))
              | go_in)
            rw [HRv.out]
            exact bodyPost_ret (v := .tuple #[.agg #[v0, v1, .slice A4 p.pr.length k4, v3, .string ⟨#[]⟩], .int .i64 0]) (by simp [results, Tryz.results23, go_sem, q0, q1, q2, q3, q4]) rfl ⟨[v0, v1, .slice A4 p.pr.length k4, v3, .string ⟨#[]⟩], rfl, ⟨_, _, _, _, rfl, hc2.K rfl r0.read, hc2.K rfl r1.read, hc2.K rfl r2.read, hc2.K rfl h1.read, Nat.zero_le _⟩, hT2⟩
          · have kn : (g.comb.toList != [83, 84, 65, 78, 68, 65, 82, 68]) = true := by rw [bne, lit_no lstd hc]; rfl
            have kc := lit_no lstd hc
            have kc' : (!(g.comb.toList == [83, 84, 65, 78, 68, 65, 82, 68])) = true := by rw [kc]; rfl
            have HRv : Hid (R = ({ p with af := p.af.reverse, op := g.comb }, 0)) := Lib.hid (by rw [HR2.out, if_neg hp, if_neg hc])
            have hus : ∀ u ∈ [v0, v1, .slice A4 p.pr.length k4, v3, .string g.comb], u.oneCell' = true := by
              intro u hu
              simp at hu
              rcases hu with rfl | rfl | rfl | rfl | rfl
              · exact HUS.out.1
              · exact HUS.out.2.1
              · rfl
              · exact HUS.out.2.2
              · rfl
            have HU := Lib.hid hus
            clear hc hus hp
            go_wp2_with (first
              | (go_at_call 57; refine H57.out.mono ?_; rintro e w1 ⟨rfl, h1, hg⟩; have z1 := zb.grown hg (o3.ne_box zb (by decide)); have w6 := y6.grown hg (o3.ne_box y6 (by decide)); have w1b := y1.grown hg (o3.ne_box y1 (by decide)); have g1 := w1b.cell 1 _ rfl; have gl := w1b.lt; have r0 := o0.move (w' := w1) (fun _ _ h _ => nomatch h) (fun b hb => hg.block b (o0.ge b hb).2 (fun e => n03 b hb e.symm)); have r1 := o1.move (w' := w1) (fun _ _ h _ => nomatch h) (fun b hb => hg.block b (o1.ge b hb).2 (fun e => n13 b hb e.symm)); have r2 := o2.move (w' := w1) (fun _ _ h _ => nomatch h) (fun b hb => hg.block b (o2.ge b hb).2 (fun e => n23 b hb e.symm)); have hB1 := HBW.out.1.grown hg HBW.out.1.size (fun b hb => Nat.le_trans HBW.out.2 (o3.ge b hb).1))
              | (refine wp_box_set rfl 9 _ _ rfl (j := 4) (u := .string g.comb) rfl rfl z1 rfl rfl rfl siz9 ?_; intro w3 z3 hc3; have s0 := hc3.K (d := sInt) rfl r0.read; have s1 := hc3.K (d := sInt) rfl r1.read; have s2 := hc3.K (d := sInt) rfl r2.read; have s3 := hc3.K (d := sInt) rfl h1.read; have w6' := hc3.box w6 (by omega); have hB3 := hc3.below hB1 HBW.out.2)
              | (refine wp_box_load rfl 48 _ rfl rfl z3 Tryz.underlying48 rfl siz48 ?_)
              | (refine wp_box_store rfl 48 _ _ rfl (us := [v0, v1, .slice A4 p.pr.length k4, v3, .string g.comb]) rfl rfl w6' siz48 rfl HU.out ?_; intro w2 y2 hc2; obtain ⟨q0, q1, q2, q3, q4, qf, ql⟩ := y2.five; have hT2 := hc2.below hB3 (by omega))
              | go_in)
            rw [HRv.out]
            exact bodyPost_ret (v := .tuple #[.agg #[v0, v1, .slice A4 p.pr.length k4, v3, .string g.comb], .int .i64 0]) (by simp [results, Tryz.results23, go_sem, q0, q1, q2, q3, q4]) rfl ⟨[v0, v1, .slice A4 p.pr.length k4, v3, .string g.comb], rfl, ⟨_, _, _, _, rfl, hc2.K rfl s0, hc2.K rfl s1, hc2.K rfl s2, hc2.K rfl s3, HCS.out⟩, hT2⟩
  · have hRv : R = (emptyPlan, c) := by rw [HR.out]; exact if_pos hz
    rw [hRv]
    go_enter Tryz.func23, Tryz.ntmps23
    go_wp2_with (first
      | (go_at_call 55; refine (HA.out _ (HW0.out ▸ hB0)).mono ?_; rintro e w1 ⟨v, rfl, hO, hB1⟩; have hB1' : Below W0.heap.size W0 w1 := (by rw [HW0.out]; exact hB1); have x2 := b2.later hB1'; have hT := below_to hB0 hB1')
      | (refine wp_box_store rfl 48 _ _ rfl (us := zPlan) rfl rfl x2 siz48 rfl zPlan_one ?_; intro w2 y2 hc2; obtain ⟨q0, q1, q2, q3, q4, qf, ql⟩ := y2.five; have hT2 := hc2.below hT (by omega))
      | go_in)
    exact bodyPost_ret (v := .tuple #[.agg zPlan.toArray, .int .i64 c]) (by simp [results, Tryz.results23, go_sem, q0, q1, q2, q3, q4]) rfl ⟨zPlan, rfl, emptyPlan_K _, hT2⟩
end Go.Proofs.YtoncaejgflfhhaaGreatDoor
