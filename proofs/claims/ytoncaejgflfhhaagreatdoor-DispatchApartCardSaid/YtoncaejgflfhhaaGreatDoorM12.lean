/- slices.DeleteFunc on a row of numbers of one's own. | class's reached: the walk. -/
import Derived.Test.YtoncaejgflfhhaaGreatDoorM11
import Derived.Test.YtoncaejgflfhhaaGreatDoorM06
set_option linter.unusedVariables false
set_option linter.unusedSimpArgs false
namespace Go.Proofs.YtoncaejgflfhhaaGreatDoor
open Go.RowKit

theorem zero3 (w : World) : (zeroValue 3).run Tryz.prog w = .ok (.int .i64 0) w := by kernel_rfl
theorem grown_below {w0 w w' : World} {row : Option Nat} (h : w0.grownBy w row) (hb : Below w.heap.size w w') : w0.grownBy w' row :=
  ⟨hb.os.trans h.os, hb.tape.trans h.tape, hb.output.trans h.output, Nat.le_trans h.size hb.size, fun k hk hne => (hb.block k (Nat.lt_of_lt_of_le hk h.size)).trans (h.block k hk hne)⟩
theorem grown_of_below {w w' : World} (hb : Below w.heap.size w w') (row : Option Nat) : w.grownBy w' row := ⟨hb.os, hb.tape, hb.output, hb.size, fun k hk _ => hb.block k hk⟩
theorem filter_take_succ {α : Type} (p : α → Bool) (l : List α) (j : Nat) (h : j < l.length) : (l.take (j + 1)).filter p = (l.take j).filter p ++ if p l[j] then [l[j]] else [] := by
  rw [List.take_succ_eq_append_getElem h, List.filter_append]
  cases hp : p l[j] <;> simp [hp]
theorem take_set_succ {α : Type} (l : List α) (m : Nat) (x : α) (h : m < l.length) : (l.set m x).take (m + 1) = l.take m ++ [x] := by
  rw [List.take_succ_eq_append_getElem (by simpa using h), List.getElem_set_self, List.take_set_of_le (Nat.le_refl _)]

set_option maxHeartbeats 2000000 in
set_option maxRecDepth 100000 in
theorem deleteFunc131_some (xs : List Int) (g n cap base : Nat) (f : FuncId) (fv : Array Value) (p : Int → Bool) (w : World) (hn : n = xs.length) (hO : Own 3 Rp.int base w (.slice (some ⟨g, 0, none⟩) n cap) xs) (he : Enters f) (hmax : n ≤ 1000000)
    (hf : ∀ x, x ∈ xs → ∀ w', w.grownBy w' (some g) → Calls Tryz.prog f (#[.int .i64 x] ++ fv) w' (RV (.bool (p x)) w')) :
    Calls Tryz.prog 131 #[.slice (some ⟨g, 0, none⟩) n cap, .func (.func f) #[] fv] w fun e w' => e = .returned (.slice (some ⟨g, 0, none⟩) (xs.filter (fun x => !p x)).length cap) ∧ Own 3 Rp.int base w' (.slice (some ⟨g, 0, none⟩) (xs.filter (fun x => !p x)).length cap) (xs.filter (fun x => !p x)) ∧ w.grownBy w' (some g) := by
  have hcap : n ≤ cap := by
    rcases hO.block with ⟨h, _⟩ | ⟨g', cap', cur, h, _, _, h2, _⟩
    · simp at h
    · simp at h; omega
  have hgl := (hO.ge g rfl).2
  have HI := Lib.hid (ifn157 Rp.int rfl rfl (some 3) xs _ f fv p w (by rw [hn] at hO; exact hO.read) he (fun x hx cs w' hb hk => by obtain ⟨rfl, _⟩ := hk; exact hf x hx w' (grown_of_below hb _)))
  have HF := Lib.hid hf
  have HO := Lib.hid (And.intro hO hn)
  unfold Enters at he
  clear hf hO
  rw [← hn] at HI
  clear hn
  rcases fidx_cases p xs with ⟨h1, h2⟩ | ⟨i, hi, h1, h2, h3, h4⟩
  · rw [h1] at HI
    have hfil : xs.filter (fun x => !p x) = xs := List.filter_eq_self.2 (fun x hx => by simpa using List.any_eq_false.1 h2 x hx)
    rw [hfil, ← HO.out.2]
    clear h1 h2 hfil
    go_enter Tryz.func131, Tryz.ntmps131
    go_wp2_with (go_at_call 157; refine HI.out.mono ?_; rintro e w1 ⟨rfl, hB1⟩)
    go_ret
    exact ⟨rfl, HO.out.1.below hB1, grown_of_below hB1 _⟩
  · rw [h1] at HI
    have hin : i < n := by rw [HO.out.2]; exact hi
    have hbef : (xs.take i).filter (fun x => !p x) = xs.take i := List.filter_eq_self.2 (fun x hx => by
      obtain ⟨m, hm, rfl⟩ := List.mem_iff_getElem.1 hx
      rw [List.length_take] at hm
      rw [List.getElem_take]
      simpa using h4 m (by omega))
    have hst : (xs.take (i + 1)).filter (fun x => !p x) = xs.take i := by
      rw [filter_take_succ _ _ _ hi, hbef]
      simp [h2]
    have HST := Lib.hid hst
    clear h1 h2 h3 h4 hbef hst hi
    have hi0 : (0 : Int) ≤ i := by omega
    have himax : (i : Int) ≤ 1000000 := by omega
    have hne : ((i : Int) == -1) = false := by rw [beq_eq_false_iff_ne]; omega
    go_enter Tryz.func131, Tryz.ntmps131
    go_wp2_with (go_at_call 157; refine HI.out.mono ?_; rintro e w1 ⟨rfl, hB1⟩)
    have hO1 := HO.out.1.below hB1
    have hg1 := grown_of_below hB1 (some g)
    go_loopw [5, 6] (fun vi vj wr => ∃ (m j : Nat) (ys : List Int), vi = .int .i64 m ∧ vj = .int .i64 j ∧ m < j ∧ j ≤ n ∧ ys.length = n ∧ ys.take m = (xs.take j).filter (fun x => !p x) ∧ ys.drop j = xs.drop j ∧ m = ((xs.take j).filter (fun x => !p x)).length ∧ Own 3 Rp.int base wr (.slice (some ⟨g, 0, none⟩) n cap) ys ∧ w.grownBy wr (some g)) (fun _ vj _ => n - (intOf vj).toNat)
    case atStart => exact ⟨i, i + 1, xs, rfl, by go_num, by omega, by omega, HO.out.2.symm, HST.out.symm, rfl, by rw [HST.out, List.length_take, ← HO.out.2]; omega, hO1, hg1⟩
    case round =>
      obtain ⟨m, j, ys, rfl, rfl, hmj, hjn, hyl, ht, hd, hml, hOr, hg⟩ := hrel
      have HR := Lib.hid (And.intro hyl (And.intro ht (And.intro hd hml)))
      clear hyl ht hd hml hO1 hg1
      by_cases hlt : j < n
      · obtain ⟨u, hu, hfr, hgl', hku⟩ := hOr.get1 HR.out.1.symm rfl j hlt
        obtain ⟨hue, hok⟩ := hku
        cases hue
        have hxy : ys[j]'(by rw [HR.out.1]; exact hlt) = xs[j]'(by rw [← HO.out.2]; exact hlt) := by
          have := congrArg (fun l => l[0]?) HR.out.2.2.1
          simp only [List.getElem?_drop, Nat.add_zero] at this
          rw [List.getElem?_eq_getElem (by rw [HR.out.1]; exact hlt), List.getElem?_eq_getElem (by rw [← HO.out.2]; exact hlt)] at this
          exact Option.some.inj this
        rw [hxy] at hu hok
        obtain ⟨x, hx⟩ : ∃ x, x = xs[j]'(by rw [← HO.out.2]; exact hlt) := ⟨_, rfl⟩
        rw [← hx] at hu hok
        have HC := Lib.hid (HF.out x (by rw [hx]; exact List.getElem_mem _) wr hg)
        have HX := Lib.hid (And.intro hx hok)
        clear hx hok hxy
        have hfs : (xs.take (j + 1)).filter (fun x => !p x) = (xs.take j).filter (fun x => !p x) ++ if p x then [] else [x] := by
          rw [filter_take_succ _ _ _ (by rw [← HO.out.2]; exact hlt), ← HX.out.1]
          cases p x <;> rfl
        have hds : ys.drop (j + 1) = xs.drop (j + 1) := by
          rw [← List.drop_drop (i := 1) (j := j), ← List.drop_drop (i := 1) (j := j), HR.out.2.2.1]
        have HFD := Lib.hid (And.intro hfs hds)
        clear hfs hds
        cases hp : p x with
        | true =>
          rw [hp] at HC
          have HPP := Lib.hid hp
          clear hp
          go_wp2_with (refine HC.out.mono ?_; rintro e w2 ⟨rfl, hB2⟩)
          have hfs := HFD.out.1
          rw [HPP.out, if_pos rfl, List.append_nil] at hfs
          exact ⟨⟨m, j + 1, ys, rfl, by go_num, by omega, by omega, HR.out.1, by rw [hfs]; exact HR.out.2.1, HFD.out.2, by rw [hfs]; exact HR.out.2.2.2, hOr.below hB2, grown_below hg hB2⟩, by simp [intOf]; omega⟩
        | false =>
          rw [hp] at HC
          have HPP := Lib.hid hp
          clear hp
          go_wp2_with (refine HC.out.mono ?_; rintro e w2 ⟨rfl, hB2⟩; have hO2 := hOr.below hB2; obtain ⟨um, hum, hfm, hgm, _⟩ := hO2.get1 HR.out.1.symm rfl m (by omega))
          have hfs := HFD.out.1
          rw [HPP.out, if_neg (by decide)] at hfs
          obtain ⟨hO3, hg3, _⟩ := hO2.put1 HR.out.1.symm rfl (i := m) (by omega) (x := x) (u := .int .i64 x) ⟨rfl, HX.out.2⟩ rfl
          exact ⟨⟨m + 1, j + 1, ys.set m x, by go_num, by go_num, by omega, by omega, by rw [List.length_set]; exact HR.out.1, by rw [take_set_succ _ _ _ (by rw [HR.out.1]; omega), hfs, HR.out.2.1], by rw [List.drop_set_of_lt (by omega)]; exact HFD.out.2, by rw [hfs, List.length_append, ← HR.out.2.2.2]; rfl, hO3, (grown_below hg hB2).trans hg3⟩, by simp [intOf]; omega⟩
      · have hjj : j = n := by omega
        have hK : (xs.take j).filter (fun x => !p x) = xs.filter (fun x => !p x) := by rw [hjj, List.take_of_length_le (by rw [HO.out.2]; exact Nat.le_refl _)]
        have hKl : m = (xs.filter (fun x => !p x)).length := by rw [← hK]; exact HR.out.2.2.2
        have hYK : ys.take m = xs.filter (fun x => !p x) := by rw [HR.out.2.1, hK]
        have hOk : Own 3 Rp.int base wr (.slice (some ⟨g, 0, none⟩) m cap) (ys.take m) := hOr.take HR.out.1.symm (by omega)
        rw [hYK] at hOk
        obtain ⟨w3, hclr, hO3, hg3, _⟩ := run_clear_tail (P := Tryz.prog) (ty := 0) (m := n - m) (c := cap - m) (A := some ⟨g, m * 1, none⟩) hKl Tryz.underlying46 zero3 rfl (by simp [Value.oneCell', Value.cells]) rfl (by decide) hOk rfl (by omega) (fun _ => rfl)
        rw [Nat.mul_one] at hclr
        have HE := Lib.hid (And.intro hKl (And.intro hO3 hg3))
        have hcm : ¬ cap = m := by omega
        have hmn : (m : Int) ≤ (n : Int) := by omega
        have hmc : (m : Int) ≤ (cap : Int) := by omega
        clear hK hKl hYK hOk hO3 hg3 hjj
        go_wp2
        go_ret
        exact ⟨by rw [← HE.out.1]; rfl, by rw [← HE.out.1]; exact HE.out.2.1, hg.trans HE.out.2.2⟩
end Go.Proofs.YtoncaejgflfhhaaGreatDoor
namespace Go.Proofs.YtoncaejgflfhhaaGreatDoor
open Go.RowKit

theorem nodup_bound : ∀ (n : Nat) (l : List Nat), l.Nodup → (∀ x ∈ l, x < n) → l.length ≤ n
  | 0, l, _, h => by
    cases l with
    | nil => exact Nat.le_refl _
    | cons x r => exact absurd (h x (.head _)) (Nat.not_lt_zero _)
  | n + 1, l, hd, h => by
    have h1 := nodup_bound n (l.erase n) (hd.erase n) (fun x hx => by
      have hm := (hd.mem_erase_iff).1 hx
      have := h x hm.2
      omega)
    rw [List.length_erase] at h1
    split at h1 <;> omega
theorem known_bound {s : CS} {l : List Int} (hd : l.Nodup) (h : Known s l) : l.length ≤ s.classes.length := by
  have h1 : (l.map Int.toNat).Nodup := by
    rw [List.nodup_iff_pairwise_ne, List.pairwise_map]
    refine (List.Pairwise.and_mem.1 hd).imp fun {a b} ⟨ha, hb, hne⟩ he => hne ?_
    have := h a ha
    have := h b hb
    omega
  have := nodup_bound s.classes.length _ h1 (fun x hx => by
    obtain ⟨c, hc, rfl⟩ := List.mem_map.1 hx
    have := h c hc
    omega)
  simpa using this

theorem inCS_iff {s : CS} {c : Int} : inCS s c = true ↔ 0 ≤ c ∧ c < s.classes.length := by simp [inCS]
/-- What is reached from c, behind what was reached already. -/
def reachGo (s : CS) : Nat → List Int → Int → List Int
  | 0, out, _ => out
  | f + 1, out, c => if inCS s c && !out.contains c then (supersOf s c).foldl (reachGo s f) (out ++ [c]) else out
/-- A list of numbers of classes, each once. -/
def Each (s : CS) (l : List Int) : Prop := l.Nodup ∧ Known s l
theorem Each.snoc {s : CS} {l : List Int} {c : Int} (h : Each s l) (hc : (inCS s c && !l.contains c) = true) : Each s (l ++ [c]) := by
  rw [Bool.and_eq_true] at hc
  obtain ⟨h1, h2⟩ := hc
  have h2 : c ∉ l := by simpa using h2
  refine ⟨?_, fun x hx => ?_⟩
  · rw [List.nodup_append]
    refine ⟨h.1, by simp, fun a ha b hb => ?_⟩
    rw [List.mem_singleton.1 hb]
    rintro rfl
    exact h2 ha
  · rcases List.mem_append.1 hx with hx | hx
    · exact h.2 x hx
    · rw [List.mem_singleton.1 hx]
      exact inCS_iff.1 h1
theorem Each.len {s : CS} {l : List Int} (h : Each s l) : l.length ≤ s.classes.length := known_bound h.1 h.2
theorem foldl_keeps {α β : Type} {I : β → Prop} (g : β → α → β) (hg : ∀ b x, I b → I (g b x)) : ∀ (l : List α) (b : β), I b → I (l.foldl g b)
  | [], _, h => h
  | x :: r, b, h => foldl_keeps g hg r (g b x) (hg b x h)
theorem reachGo_each (s : CS) : ∀ (f : Nat) (out : List Int) (c : Int), Each s out → Each s (reachGo s f out c) ∧ out.length ≤ (reachGo s f out c).length
  | 0, out, _, h => ⟨h, Nat.le_refl _⟩
  | f + 1, out, c, h => by
    unfold reachGo
    split
    · rename_i hc
      have := foldl_keeps (I := fun b => Each s b ∧ out.length ≤ b.length) (reachGo s f) (fun b x hb => by
        have := reachGo_each s f b x hb.1
        exact ⟨this.1, by omega⟩) (supersOf s c) (out ++ [c]) ⟨h.snoc hc, by simp⟩
      exact this
    · exact ⟨h, Nat.le_refl _⟩
/-- With rounds enough their number is of no matter. -/
theorem reachGo_more (s : CS) : ∀ (f g : Nat) (out : List Int) (c : Int), Each s out → s.classes.length - out.length < f → s.classes.length - out.length < g → reachGo s f out c = reachGo s g out c
  | 0, _, _, _, _, h, _ => absurd h (Nat.not_lt_zero _)
  | _, 0, _, _, _, _, h => absurd h (Nat.not_lt_zero _)
  | f + 1, g + 1, out, c, he, hf, hg => by
    unfold reachGo
    split
    · rename_i hc
      have h1 := he.snoc hc
      have hl := h1.len
      rw [List.length_append, List.length_singleton] at hl
      have : ∀ (l : List Int) (b : List Int), Each s b → out.length < b.length → l.foldl (reachGo s f) b = l.foldl (reachGo s g) b := by
        intro l
        induction l with
        | nil => intro b _ _; rfl
        | cons x r ih =>
          intro b hb hlt
          have e := reachGo_more s f g b x hb (by omega) (by omega)
          rw [List.foldl_cons, List.foldl_cons, e]
          have := reachGo_each s g b x hb
          exact ih _ this.1 (by omega)
      exact this _ _ h1 (by simp)
    · rfl
/-- What reached returns. -/
def reachedS (s : CS) (c : Int) : List Int := reachGo s (s.classes.length + 1) [] c
theorem reachedS_each (s : CS) (c : Int) : Each s (reachedS s c) := (reachGo_each s _ _ _ ⟨List.nodup_nil, fun _ h => by cases h⟩).1
end Go.Proofs.YtoncaejgflfhhaaGreatDoor
