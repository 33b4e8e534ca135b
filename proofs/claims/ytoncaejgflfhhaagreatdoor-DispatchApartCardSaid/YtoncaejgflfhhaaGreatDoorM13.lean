/- class's reached: the closure that calls itself. -/
import Derived.Test.YtoncaejgflfhhaaGreatDoorM12
import Derived.Test.YtoncaejgflfhhaaGreatDoorM03
set_option linter.unusedVariables false
set_option linter.unusedSimpArgs false
namespace Go.Proofs.YtoncaejgflfhhaaGreatDoor
open Go.RowKit

theorem sz46 : (Tryz.prog.info? 46).map (·.size) = some 1 := by kernel_rfl
theorem enters156 : Enters 156 := fun args w => by kernel_rfl
/-- reached's own memory, from the world at its start. -/
structure RS (s : CS) (u l : Value) (w0 w : World) (out : List Int) : Prop where
  hB : Below w0.heap.size w0 w
  xs : Box w w0.heap.size 44 [u, l]
  xo : ∃ v, Box w (w0.heap.size + 1) 46 [v] ∧ Own 3 Rp.int w0.heap.size w v out
  xr : Box w (w0.heap.size + 1 + 1) 197 [.func (.func 156) #[] #[.pointer (some ⟨w0.heap.size, 0, none⟩), .pointer (some ⟨w0.heap.size + 1, 0, none⟩), .pointer (some ⟨w0.heap.size + 1 + 1, 0, none⟩)]]
  each : Each s out
theorem RS.below {s : CS} {u l : Value} {w0 w w' : World} {out : List Int} (h : RS s u l w0 w out) (hb : Below w.heap.size w w') : RS s u l w0 w' out := by
  obtain ⟨v, h1, h2⟩ := h.xo
  exact ⟨below_to h.hB hb, h.xs.later hb, ⟨v, h1.later hb, h2.below hb⟩, h.xr.later hb, h.each⟩

theorem reachGo_no {s : CS} {f : Nat} {out : List Int} {c : Int} (h : (inCS s c && !out.contains c) = false) : reachGo s (f + 1) out c = out := by
  rw [reachGo, if_neg (by rw [h]; decide)]
theorem reachGo_yes {s : CS} {f : Nat} {out : List Int} {c : Int} (h : (inCS s c && !out.contains c) = true) : reachGo s (f + 1) out c = (supersOf s c).foldl (reachGo s f) (out ++ [c]) := by
  rw [reachGo, if_pos h]
theorem fold_each (s : CS) (f : Nat) (l : List Int) (out : List Int) (h : Each s out) : Each s (l.foldl (reachGo s f) out) ∧ out.length ≤ (l.foldl (reachGo s f) out).length :=
  foldl_keeps (I := fun b => Each s b ∧ out.length ≤ b.length) (reachGo s f) (fun b x hb => by
    have := reachGo_each s f b x hb.1
    exact ⟨this.1, by omega⟩) l out ⟨h, Nat.le_refl _⟩
theorem foldl_take_succ {α β : Type} (g : β → α → β) (l : List α) (b : β) (j : Nat) (h : j < l.length) : (l.take (j + 1)).foldl g b = g ((l.take j).foldl g b) l[j] := by
  rw [List.take_succ_eq_append_getElem h, List.foldl_append]
  rfl
set_option maxHeartbeats 2000000 in
set_option maxRecDepth 100000 in
theorem reach156 (s : CS) (u l : Value) (w0 : World) (hs : rCS.K w0 s [u, l]) (hlen : s.classes.length ≤ 100000) : ∀ (f : Nat) (out : List Int) (c : Int) (w : World), Rp.okInt c → RS s u l w0 w out → s.classes.length - out.length < f →
    Calls Tryz.prog 156 #[.int .i64 c, .pointer (some ⟨w0.heap.size, 0, none⟩), .pointer (some ⟨w0.heap.size + 1, 0, none⟩), .pointer (some ⟨w0.heap.size + 1 + 1, 0, none⟩)] w fun e w' => e = .returned (.tuple #[]) ∧ RS s u l w0 w' (reachGo s f out c)
  | 0, _, _, _, _, _, h => absurd h (Nat.not_lt_zero _)
  | f + 1, out, c, w, hokc, h, hf => by
    have IH := Lib.hid (reach156 s u l w0 hs hlen f)
    have he := enters156
    unfold Enters at he
    have H1 := Lib.hid (fun w' (hb : Below w.heap.size w w') => has84 s [u, l] c w' (K_below hs (below_to h.hB hb)))
    obtain ⟨v, xo, hO⟩ := h.xo
    have H2 := Lib.hid (fun w' (hb : Below w.heap.size w w') => contains134 (some 3) out v c w' (K_below hO.read hb))
    obtain ⟨u', l', hul, hu, hl⟩ := id hs
    cases hul
    have HU := Lib.hid hu
    obtain ⟨A, k, rfl⟩ := slice_form hu
    obtain ⟨B, m, rfl⟩ := slice_form hl
    obtain ⟨C, n, rfl, hC⟩ := hO.row
    have HH := Lib.hid h
    have HO := Lib.hid hO
    have xs := h.xs
    have xr := h.xr
    obtain ⟨p0, p1, pf, pl⟩ := xs.two
    obtain ⟨q0, qf, ql⟩ := xo.single
    obtain ⟨r0, rf, rl⟩ := xr.single
    rw [rCS_val] at H1
    have HX := Lib.hid (And.intro xs (And.intro xo (And.intro xr (And.intro hf hokc))))
    clear hs hu hl h xs xr xo hO hC hf hokc
    cases hin : inCS s c with
    | false =>
      rw [hin] at H1
      have HI := Lib.hid hin
      have HG := Lib.hid (reachGo_no (f := f) (out := out) (show (inCS s c && !out.contains c) = false by rw [hin]; rfl))
      clear hin
      rw [HG.out]
      go_enter Tryz.func156, Tryz.ntmps156
      go_wp2_with (go_at_call 84; refine (H1.out _ (Below.refl _ _)).mono ?_; rintro e w1 ⟨rfl, hB1⟩; obtain ⟨hc1, hf1⟩ := bcell hB1)
      refine bodyPost_ret (results_none rfl _ _ _) rfl ⟨rfl, ?_⟩
      exact HH.out.below hB1
    | true =>
      rw [hin] at H1
      obtain ⟨hc0, hc1⟩ := inCS_iff.1 hin
      have HI := Lib.hid hin
      clear hin
      obtain ⟨kk, rfl⟩ : ∃ kk : Nat, c = kk := ⟨c.toNat, by omega⟩
      have hkl : kk < s.classes.length := by omega
      cases hct : out.contains (kk : Int) with
      | true =>
        rw [hct] at H2
        have HT := Lib.hid hct
        rw [reachGo_no (f := f) (show (inCS s (kk : Int) && !out.contains (kk : Int)) = false by rw [HI.out, hct]; rfl)]
        clear hct
        go_enter Tryz.func156, Tryz.ntmps156
        go_wp2_with (first
          | (go_at_call 84; refine (H1.out _ (Below.refl _ _)).mono ?_; rintro e w1 ⟨rfl, hB1⟩; obtain ⟨hc1, hf1⟩ := bcell hB1)
          | (go_at_call 134; refine (H2.out _ hB1).mono ?_; rintro e w2 ⟨rfl, hB2⟩))
        refine bodyPost_ret (results_none rfl _ _ _) rfl ⟨rfl, ?_⟩
        exact (HH.out.below hB1).below hB2
      | false =>
        rw [hct] at H2
        have HT := Lib.hid hct
        have heach := HH.out.each.snoc (c := (kk : Int)) (by rw [HI.out, hct]; rfl)
        have hlen2 := heach.len
        rw [List.length_append, List.length_singleton] at hlen2
        have HE := Lib.hid (And.intro heach (And.intro (show (out.length + 1) * 8 ≤ 140737488355328 by omega) (show out.length + 1 ≤ maxLen by unfold maxLen; omega)))
        rw [reachGo_yes (f := f) (show (inCS s (kk : Int) && !out.contains (kk : Int)) = true by rw [HI.out, hct]; rfl)]
        clear hct heach
        obtain ⟨b2, off2, cs2, hA2, hbl2, hk2, hcell2⟩ := Rp.Row_get (by obtain ⟨A', c', h, _, _, _, hr⟩ := HU.out; cases h; exact hr) kk hkl
        subst hA2
        obtain ⟨v1, v2, rfl, hx1, hx2, _⟩ := hk2
        have e1 : w0.cell? ⟨b2, off2 + kk * 5 + 1, none⟩ = some v1 := hcell2 1 _ rfl
        have hsup : supersOf s (kk : Int) = s.classes[kk].supers := by unfold supersOf; simp [hkl]
        obtain ⟨sup, hsu⟩ : ∃ sup, sup = s.classes[kk].supers := ⟨_, rfl⟩
        rw [← hsu] at hx1 hsup
        obtain ⟨D, kd, hv1, hl1, hl2, _, hrl⟩ := hx1
        cases hv1
        have HS := Lib.hid (And.intro hsup hrl)
        have hsm : sup.length ≤ 9223372036854775807 := by unfold maxLen at hl2; omega
        clear hsup hrl hx2 hcell2 hsu hl1 hl2
        go_enter Tryz.func156, Tryz.ntmps156
        go_wp2_with (first
          | (go_at_call 84; refine (H1.out _ (Below.refl _ _)).mono ?_; rintro e w1 ⟨rfl, hB1⟩; obtain ⟨hc1, hf1⟩ := bcell hB1)
          | (go_at_call 134; refine (H2.out _ hB1).mono ?_; rintro e w2 ⟨rfl, hB2⟩; have hT2 := below_to hB1 hB2; have xs2 := HX.out.1.later hT2; have xo2 := HX.out.2.1.later hT2; have xr2 := HX.out.2.2.1.later hT2; have hO2 := HO.out.below hT2; have hW2 := below_to HH.out.hB hT2; clear p0 p1 pf pl q0 qf ql r0 rf rl; obtain ⟨q0, qf, ql⟩ := xo2.single)
          | (at_builtin; refine wp_app1 (v := .slice C out.length n) (cs := [.int .i64 kk]) (t' := 3) (y := (kk : Int)) rfl _ _ 46 rfl Tryz.underlying46 inf3 rfl (by decide) rfl hO2 rfl rfl ⟨rfl, HX.out.2.2.2.2⟩ HE.out.2.1 HE.out.2.2 hW2.size ?_; intro gA cA w3 hA; have xs3 := hA.box hO2 xs2 (by decide); have xo3 := hA.box hO2 xo2 (by decide); have xr3 := hA.box hO2 xr2 (by decide); have hW3 := hA.step hO2 hW2 (Nat.le_refl _); clear q0 qf ql)
          | (refine wp_box_set rfl 46 _ _ rfl (j := 0) (u := (.slice (some ⟨gA, 0, none⟩) (out.length + 1) cA)) (by rfl) (by rfl) xo3 rfl rfl rfl sz46 ?_; intro w4 xo4 hc4; have xs4 := hc4.box xs3 (by omega); have xr4 := hc4.box xr3 (by omega); have hO4 := hc4.own hA.own (by decide) rfl; have hW4 := hc4.below hW3 (by omega); obtain ⟨p0, p1, pf, pl⟩ := xs4.two; have d1 := cell_later hW4 e1)
          | go_in)
        have hRS : RS s (.slice (some ⟨b2, off2, none⟩) s.classes.length k) (.slice B s.history.length m) w0 w4 (out ++ [(kk : Int)]) := ⟨hW4, xs4, ⟨_, xo4, by rw [← List.length_singleton (a := (kk : Int)), ← List.length_append] at hO4; rw [List.length_append] at hO4; exact hO4⟩, xr4, HE.out.1⟩
        clear p0 p1 pf pl hA hc4 xs4 xo4 xr4 hO4 hW4 xs3 xo3 xr3 hW3 xs2 xo2 xr2 hO2 hW2 hT2 hB1 hB2 d1
        go_loopw [27] (fun i wr => ∃ j : Nat, j ≤ sup.length ∧ i = .int .i64 j ∧ RS s (.slice (some ⟨b2, off2, none⟩) s.classes.length k) (.slice B s.history.length m) w0 wr ((sup.take j).foldl (reachGo s f) (out ++ [(kk : Int)]))) (fun i _ => sup.length - (intOf i).toNat)
        case atStart => exact ⟨0, Nat.zero_le _, rfl, hRS⟩
        case round =>
          obtain ⟨j, hj, rfl, hR⟩ := hrel
          clear hRS
          by_cases hlt : j < sup.length
          · obtain ⟨b3, off3, cs3, hA3, hbl3, ⟨rfl, hk3⟩, hcell3⟩ := Rp.Row_get HS.out.2 j hlt
            subst hA3
            have q0 : w0.cell? ⟨b3, off3 + j, none⟩ = some (.int .i64 sup[j]) := by have := hcell3 0 _ rfl; simpa [Rp.int, Rp.scalar] using this
            have hfe := fold_each s f (sup.take j) _ HE.out.1
            have hlo : s.classes.length - ((sup.take j).foldl (reachGo s f) (out ++ [(kk : Int)])).length < f := by
              have h1 := hfe.2
              have h2 := HX.out.2.2.2.1
              rw [List.length_append, List.length_singleton] at h1
              omega
            obtain ⟨x, hx⟩ : ∃ x, x = sup[j] := ⟨_, rfl⟩
            rw [← hx] at q0 hk3
            have HC := Lib.hid (IH.out _ x wr hk3 hR hlo)
            have HXX := Lib.hid hx
            have d0 := cell_later hR.hB q0
            obtain ⟨r0, rf, rl⟩ := hR.xr.single
            clear hx hlo hfe hcell3 q0
            go_wp2_with (refine HC.out.mono ?_; rintro e w5 ⟨rfl, hR5⟩)
            exact ⟨⟨j + 1, by omega, by go_num, by rw [foldl_take_succ _ _ _ _ hlt, ← HXX.out]; exact hR5⟩, by simp [intOf]; omega⟩
          · go_wp2
            go_end0
            refine ⟨rfl, ?_⟩
            have hjj : j = sup.length := by omega
            subst hjj
            rw [List.take_length] at hR
            rw [HS.out.1]
            exact hR
end Go.Proofs.YtoncaejgflfhhaaGreatDoor
