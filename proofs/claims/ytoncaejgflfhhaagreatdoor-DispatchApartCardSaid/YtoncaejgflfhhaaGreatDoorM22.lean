/- slices' stable sort by a function: rows of blocks in order. No program here. | slices' stable sort by a function. | slices.SortStableFunc; and the comparison of two numbers by a map of ranks. -/
import Derived.Test.YtoncaejgflfhhaaGreatDoorM16
import Derived.Test.YtoncaejgflfhhaaGreatDoorM21
import Derived.Deep.CutBlock
import Derived.Test.YtoncaejgflfhhaaGreatDoorM10
import Derived.Test.YtoncaejgflfhhaaGreatDoorM01
import Derived.Test.YtoncaejgflfhhaaGreatDoorM09
set_option linter.unusedVariables false
set_option linter.unusedSimpArgs false
namespace Go.Proofs.YtoncaejgflfhhaaGreatDoor

/-- Full blocks of k, each in order and of the same numbers. -/
inductive Full (rk : Int → List Int) (k : Nat) : List Int → List Int → Prop
  | nil : Full rk k [] []
  | snoc {P S X T : List Int} : Full rk k P S → X.Pairwise (ltc rk) → X.Perm T → T.length = k → Full rk k (P ++ X) (S ++ T)
/-- The like, the last of up to k. -/
inductive Blk (rk : Int → List Int) (k : Nat) : List Int → List Int → Prop
  | last {X T : List Int} : X.Pairwise (ltc rk) → X.Perm T → T.length ≤ k → Blk rk k X T
  | cons {X T Z L : List Int} : X.Pairwise (ltc rk) → X.Perm T → T.length = k → Blk rk k Z L → Blk rk k (X ++ Z) (T ++ L)
variable {rk : Int → List Int} {k : Nat}
theorem Full.length {P S : List Int} (h : Full rk k P S) : P.length = S.length := by
  induction h with
  | nil => rfl
  | snoc _ _ hp _ ih => rw [List.length_append, List.length_append, ih, hp.length_eq]
theorem Blk.length {P S : List Int} (h : Blk rk k P S) : P.length = S.length := by
  induction h with
  | last _ hp _ => exact hp.length_eq
  | cons _ hp _ _ ih => rw [List.length_append, List.length_append, ih, hp.length_eq]
theorem Full.join {P S : List Int} (h : Full rk k P S) : ∀ {R T : List Int}, Blk rk k R T → Blk rk k (P ++ R) (S ++ T) := by
  induction h with
  | nil => intro R T h; exact h
  | snoc _ hs hp hl ih =>
    intro R T h
    rw [List.append_assoc, List.append_assoc]
    exact ih (.cons hs hp hl h)
theorem Blk.done {D L : List Int} (h : Blk rk k D L) (hl : L.length ≤ k) : D.Pairwise (ltc rk) ∧ D.Perm L := by
  cases h with
  | last hs hp _ => exact ⟨hs, hp⟩
  | @cons X T Z L' hs hp hk hb =>
    rw [List.length_append] at hl
    have hL : L' = [] := List.eq_nil_of_length_eq_zero (by omega)
    subst hL
    have hZ : Z = [] := List.eq_nil_of_length_eq_zero (by rw [hb.length]; rfl)
    subst hZ
    simpa using ⟨hs, hp⟩
/-- The first block, where there is more than one's worth. -/
theorem Blk.first {D L : List Int} (h : Blk rk k D L) (hl : k ≤ L.length) : ∃ X T Z L', D = X ++ Z ∧ L = T ++ L' ∧ X.Pairwise (ltc rk) ∧ X.Perm T ∧ T.length = k ∧ Blk rk k Z L' := by
  cases h with
  | @last X T hs hp hk => exact ⟨D, L, [], [], by simp, by simp, hs, hp, by omega, .last .nil (.refl _) (Nat.zero_le _)⟩
  | @cons X T Z L' hs hp hk hb => exact ⟨X, T, Z, L', rfl, rfl, hs, hp, hk, hb⟩
theorem lt_of_parts {S T1 T2 R X Y : List Int} (h : (S ++ (T1 ++ (T2 ++ R))).Pairwise (· < ·)) (hX : X.Perm T1) (hY : Y.Perm T2) : ∀ x ∈ X, ∀ y ∈ Y, x < y := fun x hx y hy =>
  (List.pairwise_append.1 (List.pairwise_append.1 h).2.1).2.2 x (hX.mem_iff.1 hx) y (List.mem_append.2 (.inl (hY.mem_iff.1 hy)))
end Go.Proofs.YtoncaejgflfhhaaGreatDoor
namespace Go.Proofs.YtoncaejgflfhhaaGreatDoor
open Go.RowKit

set_option maxHeartbeats 40000000 in
set_option maxRecDepth 100000 in
theorem stable141 (L : List Int) (N g cap base : Nat) (f : FuncId) (fv : Array Value) (rk : Int → List Int) (E : Int → Prop) (w : World) (hN : N = L.length) (hm : N ≤ 1000000)
    (hX : L.Pairwise (· < ·)) (hE : ∀ x ∈ L, E x) (he : Enters f) (hf : CmpOk f fv rk E w g) (hO : Own 3 Rp.int base w (.slice (some ⟨g, 0, none⟩) N cap) L) :
    Calls Tryz.prog 141 #[.slice (some ⟨g, 0, none⟩) N cap, .int .i64 N, .func (.func f) #[] fv] w fun e w' => e = .returned (.tuple #[]) ∧ Own 3 Rp.int base w' (.slice (some ⟨g, 0, none⟩) N cap) (sortR rk L) ∧ w.grownBy w' (some g) := by
  have hL := Lib.hid (And.intro hN (And.intro hX hE))
  have HF := Lib.hid hf
  have HO := Lib.hid hO
  have HEn := Lib.hid he
  unfold Enters at he
  clear hN hX hE hf hO
  go_enter Tryz.func141, Tryz.ntmps141
  go_wp2
  go_loopw [7, 8] (fun va vb wr => ∃ (a : Nat) (P R S : List Int), va = .int .i64 a ∧ vb = .int .i64 ((a + 20 : Nat) : Int) ∧ a ≤ N ∧ Hid (L = S ++ R ∧ P.length = a ∧ Full rk 20 P S ∧ Own 3 Rp.int base wr (.slice (some ⟨g, 0, none⟩) N cap) (P ++ R) ∧ w.grownBy wr (some g))) (fun va _ _ => N - (intOf va).toNat)
  case atStart => exact ⟨0, [], L, [], rfl, rfl, Nat.zero_le _, Lib.hid ⟨rfl, rfl, .nil, HO.out, World.grownBy.refl w (some g)⟩⟩
  case round =>
    obtain ⟨a, P, R, S, rfl, rfl, haN, HR⟩ := hrel
    by_cases hb : a + 20 ≤ N
    · have hb' : ((a + 20 : Nat) : Int) ≤ N := by omega
      have hR := HR.out
      have hLL := hL.out
      have hPS := hR.2.2.1.length
      have hlen : N = S.length + R.length := by rw [hLL.1, hR.1, List.length_append]
      have hsp : R = R.take 20 ++ R.drop 20 := (List.take_append_drop 20 R).symm
      have lt20 : (R.take 20).length = 20 := by rw [List.length_take]; omega
      have sX : R.Pairwise (· < ·) := by have := hLL.2.1; rw [hR.1] at this; exact (List.pairwise_append.1 this).2.1
      have sX' := sX.sublist (List.take_sublist 20 R)
      have hO' := hR.2.2.2.1
      rw [hsp] at hO'
      have HC := Lib.hid (isort169 P (R.take 20) (R.drop 20) a (a + 20) N g cap base f fv rk E _ hR.2.1 (by omega) (by rw [← hsp, List.length_append]; omega) hm sX'
        (fun x hx => hLL.2.2 x (by rw [hR.1]; exact List.mem_append.2 (.inr (List.mem_of_mem_take hx)))) HEn.out (HF.out.later hR.2.2.2.2) hO')
      have HS := Lib.hid (And.intro sX' (And.intro lt20 hsp))
      clear hR hLL hPS hlen hsp lt20 sX sX' hO'
      go_wp2_with (first | (go_at_call 169; refine HC.out.mono ?_; rintro e w2 ⟨rfl, hO2, hg2⟩) | go_in)
      refine ⟨⟨a + 20, P ++ sortR rk (R.take 20), R.drop 20, S ++ R.take 20, rfl, by go_num, hb, Lib.hid ⟨?_, ?_, ?_, ?_, ?_⟩⟩, by simp [intOf]; omega⟩
      · rw [List.append_assoc, ← HS.out.2.2]; exact HR.out.1
      · rw [List.length_append, (sortR_spec HS.out.1).2.length_eq, HS.out.2.1, HR.out.2.1]
      · exact .snoc HR.out.2.2.1 (sortR_spec HS.out.1).1 (sortR_spec HS.out.1).2 HS.out.2.1
      · rw [List.append_assoc]; exact hO2
      · exact HR.out.2.2.2.2.trans hg2
    · have hb' : ¬ ((a + 20 : Nat) : Int) ≤ N := by omega
      have hR := HR.out
      have hLL := hL.out
      have hPS := hR.2.2.1.length
      have hlen : N = S.length + R.length := by rw [hLL.1, hR.1, List.length_append]
      have sX : R.Pairwise (· < ·) := by have := hLL.2.1; rw [hR.1] at this; exact (List.pairwise_append.1 this).2.1
      have HC := Lib.hid (isort169 P R [] a N N g cap base f fv rk E _ hR.2.1 (by omega) (by rw [List.append_nil, List.length_append]; omega) hm sX
        (fun x hx => hLL.2.2 x (by rw [hR.1]; exact List.mem_append.2 (.inr hx))) HEn.out (HF.out.later hR.2.2.2.2) (by rw [List.append_nil]; exact hR.2.2.2.1))
      have HB := Lib.hid (hR.2.2.1.join (.last (sortR_spec (rk := rk) sX).1 (sortR_spec (rk := rk) sX).2 (by omega)))
      clear hR hLL hPS hlen sX
      go_wp2_with (first | (go_at_call 169; refine HC.out.mono ?_; rintro e w2 ⟨rfl, hO2, hg2⟩) | go_in)
      have H2 := Lib.hid (And.intro hO2 hg2)
      clear hO2 hg2
      go_loopw [6, 7, 8, 9] (fun va _ _ _ wr => ∃ (k : Nat) (D : List Int), va = .int .i64 k ∧ 0 < k ∧ k ≤ 2000000 ∧ Hid (Blk rk k D L ∧ Own 3 Rp.int base wr (.slice (some ⟨g, 0, none⟩) N cap) D ∧ w.grownBy wr (some g))) (fun va _ _ _ _ => N - (intOf va).toNat)
      case atStart =>
        refine ⟨20, P ++ sortR rk R, rfl, by omega, by omega, Lib.hid ⟨?_, ?_, ?_⟩⟩
        · have := HB.out
          rw [← HR.out.1] at this
          exact this
        · have := H2.out.1
          rw [List.append_nil] at this
          exact this
        · exact HR.out.2.2.2.2.trans H2.out.2
      case round =>
        clear HR HC HB H2 hb hb'
        obtain ⟨k, D, rfl, hk0, hk1, HD⟩ := hrel
        by_cases hkN : k < N
        · have hkN' : (k : Int) < N := by omega
          have hmul : (2 : Int) * k ≤ 2000000 := by omega
          go_wp2
          go_loopw [7, 8] (fun va vb wr => ∃ (a : Nat) (P R S T : List Int), va = .int .i64 a ∧ vb = .int .i64 ((a + 2 * k : Nat) : Int) ∧ a ≤ N ∧ Hid (L = S ++ T ∧ P.length = a ∧ Full rk (2 * k) P S ∧ Blk rk k R T ∧ Own 3 Rp.int base wr (.slice (some ⟨g, 0, none⟩) N cap) (P ++ R) ∧ w.grownBy wr (some g))) (fun va _ _ => N - (intOf va).toNat)
          case atStart => exact ⟨0, [], D, [], L, rfl, by go_num, Nat.zero_le _, Lib.hid ⟨rfl, rfl, .nil, HD.out.1, HD.out.2.1, HD.out.2.2⟩⟩
          case round =>
            clear HD D
            obtain ⟨a, P, R, S, T, rfl, rfl, haN, HR⟩ := hrel
            have hR := HR.out
            have hLL := hL.out
            have hPS := hR.2.2.1.length
            have hRT := hR.2.2.2.1.length
            have hlen : N = S.length + T.length := by rw [hLL.1, hR.1, List.length_append]
            by_cases hb : a + 2 * k ≤ N
            · have hb' : ((a + 2 * k : Nat) : Int) ≤ N := by omega
              obtain ⟨X, T1, Z, L1, rfl, rfl, sX, pX, lX, hZ⟩ := hR.2.2.2.1.first (by omega)
              rw [List.length_append] at hlen
              obtain ⟨Y, T2, C, L2, rfl, rfl, sY, pY, lY, hC⟩ := hZ.first (by omega)
              have hl2 := hLL.2.1
              rw [hR.1] at hl2
              have HC := Lib.hid (symMerge170 N g cap base f fv rk E hm HEn.out (X.length + Y.length) P X Y C a (a + k) (a + 2 * k) _ (Nat.le_refl _) hR.2.1 (by rw [pX.length_eq, lX]) (by rw [pY.length_eq, lY]; omega) (by rw [pX.length_eq, lX]; exact hk0) (by rw [pY.length_eq, lY]; exact hk0)
                (by rw [List.length_append, List.length_append, List.length_append, hR.2.1, pX.length_eq, pY.length_eq, hC.length]; rw [List.length_append] at hlen; omega) sX sY (lt_of_parts hl2 pX pY)
                (fun x hx => hLL.2.2 x (by rw [hR.1]; simp [pX.mem_iff.1 hx])) (fun y hy => hLL.2.2 y (by rw [hR.1]; simp [pY.mem_iff.1 hy])) (HF.out.later hR.2.2.2.2.2) hR.2.2.2.2.1)
              have HS := Lib.hid (And.intro pX (And.intro pY (And.intro lX (And.intro lY hC))))
              have hak : (a : Int) + k ≤ 3000000 := by omega
              clear hR hLL hPS hRT hlen sX pX lX hZ sY pY lY hC hl2
              go_wp2_with (first | (go_at_call 170; refine HC.out.mono ?_; rintro e w3 ⟨rfl, Z, sZ, pZ, hO3, hg3⟩) | go_in)
              refine ⟨⟨a + 2 * k, P ++ Z, C, S ++ (T1 ++ T2), L2, rfl, by go_num, hb, Lib.hid ⟨?_, ?_, ?_, ?_, ?_, ?_⟩⟩, by simp [intOf]; omega⟩
              · rw [HR.out.1]; simp
              · have := HS.out
                rw [List.length_append, pZ.length_eq, List.length_append, this.1.length_eq, this.2.1.length_eq, HR.out.2.1]; omega
              · exact .snoc HR.out.2.2.1 sZ (pZ.trans (HS.out.1.append HS.out.2.1)) (by rw [List.length_append]; have := HS.out; omega)
              · exact HS.out.2.2.2.2
              · rw [List.append_assoc]; exact hO3
              · exact HR.out.2.2.2.2.2.trans hg3
            · have hb' : ¬ ((a + 2 * k : Nat) : Int) ≤ N := by omega
              have hak : (a : Int) + k ≤ 3000000 := by omega
              by_cases hc : a + k < N
              · have hc' : (a : Int) + k < N := by omega
                obtain ⟨X, T1, Y, T2, rfl, rfl, sX, pX, lX, hZ⟩ := hR.2.2.2.1.first (by omega)
                rw [List.length_append] at hlen
                have hZ2 := hZ.done (by omega)
                have hl2 := hLL.2.1
                rw [hR.1] at hl2
                have HC := Lib.hid (symMerge170 N g cap base f fv rk E hm HEn.out (X.length + Y.length) P X Y [] a (a + k) N _ (Nat.le_refl _) hR.2.1 (by rw [pX.length_eq, lX]) (by rw [hZ2.2.length_eq]; omega) (by rw [pX.length_eq, lX]; exact hk0) (by rw [hZ2.2.length_eq]; omega)
                  (by rw [List.length_append, List.length_append, List.length_append, hR.2.1, pX.length_eq, hZ2.2.length_eq, List.length_nil]; omega) sX hZ2.1 (lt_of_parts (R := []) (by rw [List.append_nil]; exact hl2) pX hZ2.2)
                  (fun x hx => hLL.2.2 x (by rw [hR.1]; simp [pX.mem_iff.1 hx])) (fun y hy => hLL.2.2 y (by rw [hR.1]; simp [hZ2.2.mem_iff.1 hy])) (HF.out.later hR.2.2.2.2.2) (by rw [List.append_nil]; exact hR.2.2.2.2.1))
                have HS := Lib.hid (And.intro pX (And.intro hZ2.2 (show T1.length + T2.length ≤ 2 * k by omega)))
                clear hR hLL hPS hRT hlen sX pX lX hZ hZ2 hl2
                go_wp2_with (first | (go_at_call 170; refine HC.out.mono ?_; rintro e w3 ⟨rfl, Z, sZ, pZ, hO3, hg3⟩) | go_in)
                refine ⟨⟨2 * k, P ++ Z, by go_num, by omega, by omega, Lib.hid ⟨?_, ?_, ?_⟩⟩, by simp [intOf]; omega⟩
                · rw [HR.out.1]
                  exact HR.out.2.2.1.join (.last sZ (pZ.trans (HS.out.1.append HS.out.2.1)) (by rw [List.length_append]; exact HS.out.2.2))
                · rw [List.append_nil] at hO3; exact hO3
                · exact HR.out.2.2.2.2.2.trans hg3
              · have hc' : ¬ (a : Int) + k < N := by omega
                have HS := Lib.hid (hR.2.2.2.1.done (by omega))
                have HT : Hid (T.length ≤ 2 * k) := Lib.hid (by omega)
                clear hR hLL hPS hRT hlen
                go_wp2
                refine ⟨⟨2 * k, P ++ R, by go_num, by omega, by omega, Lib.hid ⟨?_, HR.out.2.2.2.2.1, HR.out.2.2.2.2.2⟩⟩, by simp [intOf]; omega⟩
                rw [HR.out.1]
                exact HR.out.2.2.1.join (.last HS.out.1 HS.out.2 HT.out)
        · have hkN' : ¬ (k : Int) < N := by omega
          have HS := Lib.hid (HD.out.1.done (by have := hL.out.1; omega))
          go_wp2
          go_end0
          have e := sortR_is hL.out.2.1 HS.out.1 HS.out.2
          rw [← e]
          exact ⟨rfl, HD.out.2.1, HD.out.2.2⟩
end Go.Proofs.YtoncaejgflfhhaaGreatDoor
namespace Go.Proofs.YtoncaejgflfhhaaGreatDoor
open Go.RowKit

/-- A slice's header, of whose row it says nothing. -/
def Rp.hdr : Rp (Option Addr × Nat × Nat) := Rp.scalar (fun p => Value.slice p.1 p.2.1 p.2.2) (fun _ => True) (fun _ => rfl)
theorem zero46 (w : World) : (zeroValue 46).run Tryz.prog w = .ok (.slice none 0 0) w := by kernel_rfl

/-- A map from numbers to rows, none of which lies in row g. -/
def Ranks (rk : Int → List Int) (E : Int → Prop) (w : World) (mb g base : Nat) : Prop :=
  mb ≠ g ∧ ∃ l : List (Int × (Option Addr × Nat × Nat)), MapIs (Value.int .i64) Rp.okInt Rp.hdr w mb l ∧ ∀ x, E x → Rp.okInt x ∧ ∃ p, aget x l = some p ∧ Own 3 Rp.int base w (.slice p.1 p.2.1 p.2.2) (rk x) ∧ (Value.slice p.1 p.2.1 p.2.2).ownBlock ≠ some g

theorem Ranks.later {rk : Int → List Int} {E : Int → Prop} {w w' : World} {mb g base : Nat} (h : Ranks rk E w mb g base) (hg : w.grownBy w' (some g)) : Ranks rk E w' mb g base := by
  obtain ⟨hne, l, hM, hE⟩ := h
  have hs : Same (fun _ => false) w w' := fun _ _ h _ => by cases h
  refine ⟨hne, l, hM.mov hs (hg.block mb hM.lt (by simpa using hne)), fun x hx => ?_⟩
  obtain ⟨ho, p, ha, hO, hn⟩ := hE x hx
  refine ⟨ho, p, ha, hO.move hs (fun b hb => ?_), hn⟩
  exact hg.block b (hO.ge b hb).2 (fun e => hn (by rw [hb, e]))

set_option maxHeartbeats 4000000 in
theorem less107 (rk : Int → List Int) (E : Int → Prop) (w : World) (mb g base bx : Nat) (x y : Int) (hR : Ranks rk E w mb g base) (hb : Box w bx 217 [.map (some mb)]) (hx : E x) (hy : E y) :
    Calls Tryz.prog 107 #[.int .i64 x, .int .i64 y, .pointer (some ⟨bx, 0, none⟩)] w fun e w' => e = .returned (.int .i64 (cmpL (rk x) (rk y))) ∧ w = w' := by
  obtain ⟨_, l, hM, hE⟩ := hR
  obtain ⟨ox, p, hp, hOx, _⟩ := hE x hx
  obtain ⟨oy, q, hq, hOy, _⟩ := hE y hy
  have HC := Lib.hid (compare108q (some 3) (some 3) (rk x) (rk y) _ _ w hOx.read hOy.read)
  have c0 := hb.cell 0 _ rfl
  have lt := hb.lt
  have HX := Lib.hid (And.intro hM (And.intro ox (And.intro hp (And.intro oy hq))))
  clear hM hE ox hp hOx oy hq hOy hb hx hy
  go_enter Tryz.func107, Tryz.ntmps107
  go_wp2_with (first
    | (at_lookup; refine wp_map_found _ rfl _ _ 217 false rfl keysInt Tryz.underlying217 (zero46 _) rfl HX.out.1 rfl HX.out.2.1 HX.out.2.2.1 ?_; rintro cs ⟨rfl, _⟩)
    | (at_lookup; refine wp_map_found _ rfl _ _ 217 false rfl keysInt Tryz.underlying217 (zero46 _) rfl HX.out.1 rfl HX.out.2.2.2.1 HX.out.2.2.2.2 ?_; rintro cs ⟨rfl, _⟩)
    | (go_at_call 108; refine HC.out.mono ?_; rintro e w' ⟨rfl, rfl⟩)
    | go_in)
  go_ret
  exact ⟨rfl, rfl⟩

theorem cmpOk107 {rk : Int → List Int} {E : Int → Prop} {w : World} {mb g base bx : Nat} (hR : Ranks rk E w mb g base) (hb : Box w bx 217 [.map (some mb)]) (hne : bx ≠ g) : CmpOk 107 #[.pointer (some ⟨bx, 0, none⟩)] rk E w g := fun x y hx hy w' hg =>
  (less107 rk E w' mb g base bx x y (hR.later hg) (hb.grown hg (by simpa using Ne.symm hne)) hx hy).mono fun _ _ h => ⟨h.1, h.2.symm⟩

set_option maxHeartbeats 4000000 in
theorem isort_nil (f : FuncId) (fv : Array Value) (w : World) : Calls Tryz.prog 169 #[.slice none 0 0, .int .i64 0, .int .i64 0, .func (.func f) #[] fv] w fun e w' => e = .returned (.tuple #[]) ∧ w = w' := by
  go_enter Tryz.func169, Tryz.ntmps169
  go_wp2
  go_loopw [8, 9] (fun va _ wr => va = .int .i64 1 ∧ w = wr) (fun _ _ _ => 0)
  case atStart => exact ⟨rfl, rfl⟩
  case round =>
    obtain ⟨rfl, rfl⟩ := hrel
    go_wp2
    go_end0
    exact ⟨rfl, rfl⟩
set_option maxHeartbeats 4000000 in
theorem stable_nil (f : FuncId) (fv : Array Value) (w : World) : Calls Tryz.prog 141 #[.slice none 0 0, .int .i64 0, .func (.func f) #[] fv] w fun e w' => e = .returned (.tuple #[]) ∧ w = w' := by
  have H := Lib.hid (isort_nil f fv w)
  go_enter Tryz.func141, Tryz.ntmps141
  go_wp2
  go_loopw [7, 8] (fun va vb wr => va = .int .i64 0 ∧ vb = .int .i64 20 ∧ w = wr) (fun _ _ _ => 0)
  case atStart => exact ⟨rfl, rfl, rfl⟩
  case round =>
    obtain ⟨rfl, rfl, rfl⟩ := hrel
    go_wp2_with (first | (go_at_call 169; refine H.out.mono ?_; rintro e w' ⟨rfl, rfl⟩) | go_in)
    go_loopw [6, 7, 8, 9] (fun va _ _ _ wr => va = .int .i64 20 ∧ w = wr) (fun _ _ _ _ _ => 0)
    case atStart => exact ⟨rfl, rfl⟩
    case round =>
      obtain ⟨rfl, rfl⟩ := hrel
      go_wp2
      go_end0
      exact ⟨rfl, rfl⟩
set_option maxHeartbeats 4000000 in
theorem sort106_nil (f : FuncId) (fv : Array Value) (w : World) : Calls Tryz.prog 106 #[.slice none 0 0, .func (.func f) #[] fv] w fun e w' => e = .returned (.tuple #[]) ∧ w = w' := by
  have H := Lib.hid (stable_nil f fv w)
  go_enter Tryz.func106, Tryz.ntmps106
  go_wp2_with (first | (go_at_call 141; refine H.out.mono ?_; rintro e w' ⟨rfl, rfl⟩) | go_in)
  go_end0
  exact ⟨rfl, rfl⟩
set_option maxHeartbeats 4000000 in
theorem sort106 (L : List Int) (N g cap base : Nat) (f : FuncId) (fv : Array Value) (rk : Int → List Int) (E : Int → Prop) (w : World) (hN : N = L.length) (hm : N ≤ 1000000)
    (hX : L.Pairwise (· < ·)) (hE : ∀ x ∈ L, E x) (he : Enters f) (hf : CmpOk f fv rk E w g) (hO : Own 3 Rp.int base w (.slice (some ⟨g, 0, none⟩) N cap) L) :
    Calls Tryz.prog 106 #[.slice (some ⟨g, 0, none⟩) N cap, .func (.func f) #[] fv] w fun e w' => e = .returned (.tuple #[]) ∧ Own 3 Rp.int base w' (.slice (some ⟨g, 0, none⟩) N cap) (sortR rk L) ∧ w.grownBy w' (some g) := by
  have H := Lib.hid (stable141 L N g cap base f fv rk E w hN hm hX hE he hf hO)
  clear hN hX hE he hf hO
  go_enter Tryz.func106, Tryz.ntmps106
  go_wp2_with (first | (go_at_call 141; refine H.out.mono ?_; rintro e w' ⟨rfl, h1, h2⟩) | go_in)
  go_end0
  exact ⟨rfl, h1, h2⟩
theorem enters107 : Enters 107 := fun args w => by kernel_rfl
end Go.Proofs.YtoncaejgflfhhaaGreatDoor
