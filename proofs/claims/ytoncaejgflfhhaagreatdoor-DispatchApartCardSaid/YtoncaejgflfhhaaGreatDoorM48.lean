/- The laws' argument, a slice of steps, read off memory: what the reading tells is what the walks ask. -/
import Derived.Test.YtoncaejgflfhhaaGreatDoorM45
import Derived.ChangeArms
import Derived.DataReads
import Derived.OpenShut
set_option linter.unusedVariables false
set_option linter.unusedSimpArgs false
namespace Go.Proofs.YtoncaejgflfhhaaGreatDoor
open Go.ChangeShapes Go.WideShapes

/-- Whatever reads as a datum of type t reads as a value of kind d. -/
def Opens {α : Type} (t : TypeId) (d : Rp α) : Prop :=
  ∀ (H : Type) (enc : TypeId × Value → H) (W : World) (base : Nat) (spare : Nat → Bool) (held : Bool) (fuel : Nat) (cs : List Value) (x : DataW H × List MemPlace),
    DataW.trod enc Tryz.prog W base spare held fuel t cs = some x → ∃ y, d.K W y cs

theorem opens_byte : Opens 5 Rp.byte := fun _ _ _ _ _ _ _ _ _ h => by
  obtain ⟨n, rfl, _, hw⟩ := DataW.trod_int Tryz.underlying5 h
  exact ⟨n, rfl, bounds_u8 hw⟩
theorem opens_int : Opens 3 Rp.int := fun _ _ _ _ _ _ _ _ _ h => by
  obtain ⟨n, rfl, _, hw⟩ := DataW.trod_int Tryz.underlying3 h
  exact ⟨n, rfl, bounds_i64 hw⟩

theorem cell_spot {w : World} {a : Addr} {u : Value} (h : w.cell? a = some u) : a.spot = none ∧ ∃ o, w.heap[a.block]? = some o := by
  unfold World.cell? at h
  split at h
  · rename_i o _ _ ho
    split at h
    · cases h
    · rename_i hs
      exact ⟨by simpa using hs, _, ho⟩
  · cases h
theorem addr_add (a : Addr) (i j : Nat) : (a.add i).add j = a.add (i + j) := by
  unfold Addr.add
  by_cases hi : i = 0 <;> by_cases hj : j = 0 <;> simp [hi, hj, Nat.add_assoc]
theorem addr_mk (a : Addr) (h : a.spot = none) (i : Nat) : a.add i = ⟨a.block, a.off + i, none⟩ := by
  obtain ⟨b, o, s⟩ := a
  simp only at h
  subst h
  unfold Addr.add
  split
  · rename_i hi
    subst hi
    rfl
  · rfl

theorem opens_slice {α : Type} {t e : TypeId} {d : Rp α} (ht : Tryz.prog.underlying t = some (.slice e)) (hc : Tryz.prog.cellsOf e = d.sz) (hz : 0 < d.sz) (ho : Opens e d) : Opens t (Rp.slice none d) := by
  intro H enc W base spare held fuel cs x h
  rcases DataW.trod_slice ht h with ⟨rfl, _⟩ | ⟨a, len, cap, elems, rest, n, _, rfl, _, hb, hl, hm, hlen, hel, _⟩
  · exact ⟨[], none, 0, rfl, Nat.le_refl _, Nat.zero_le _, fun _ => rfl, .inl rfl⟩
  · have key : ∀ k, k ≤ len → ∃ xs cs, xs.length = k ∧ d.L W xs cs ∧ ∀ j u, cs[j]? = some u → W.cell? (a.add j) = some u := by
      intro k
      induction k with
      | zero => exact fun _ => ⟨[], [], rfl, rfl, fun j u hu => by simp at hu⟩
      | succ k ih =>
        intro hk
        obtain ⟨xs, cs, h1, h2, h3⟩ := ih (by omega)
        have h4 := hel k (by omega)
        rw [List.getElem?_eq_getElem (by omega)] at h4
        obtain ⟨cs', h5, h6⟩ := Option.bind_eq_some_iff.1 h4
        obtain ⟨y, hy⟩ := ho _ _ _ _ _ _ _ _ _ h6
        obtain ⟨_, h7, h8⟩ := World.cells?_some h5
        refine ⟨xs ++ [y], cs ++ cs', by simp [h1], Rp.L_append h2 (Rp.L_single hy), fun j u hu => ?_⟩
        have hcl := Rp.L_len h2
        rw [h1] at hcl
        rcases Nat.lt_or_ge j cs.length with hj | hj
        · rw [List.getElem?_append_left hj] at hu
          exact h3 j u hu
        · rw [List.getElem?_append_right hj] at hu
          have hj2 := (List.getElem?_eq_some_iff.1 hu).1
          have h9 := h8 (j - cs.length) (by omega)
          rw [addr_add, hu, hc, ← hcl, show cs.length + (j - cs.length) = j from by omega] at h9
          exact h9
    obtain ⟨xs, cs, h1, h2, h3⟩ := key len (Nat.le_refl _)
    refine ⟨xs, some a, cap, by rw [h1], by omega, hm, (fun h => by cases h), ?_⟩
    match xs, h1, h2, h3 with
    | [], _, _, _ => exact .inl rfl
    | y :: ys, h1, h2, h3 =>
      have hcl := Rp.L_len h2
      have hpos : 0 < cs.length := by rw [hcl, List.length_cons, Nat.add_mul]; omega
      have h0 := h3 0 cs[0] (by simp [hpos])
      have hadd : a.add 0 = a := by simp [Addr.add]
      rw [hadd] at h0
      obtain ⟨hs, o, hob⟩ := cell_spot h0
      refine .inr ⟨a.block, a.off, o, cs, by obtain ⟨b, o', s⟩ := a; simp only at hs; subst hs; rfl, hob, (fun t ht => by cases ht), h2, fun j u hu => ?_⟩
      have := h3 j u hu
      rw [addr_mk a hs] at this
      exact this

theorem opens_sByte : Opens 54 sByte := opens_slice Tryz.underlying54 (by kernel_rfl) (by decide) opens_byte
/-- One of a struct's fields, or an array's elements. -/
theorem Opens.part {α : Type} {t : TypeId} {d : Rp α} (ho : Opens t d) {H : Type} {enc : TypeId × Value → H} {W : World} {base : Nat} {spare : Nat → Bool} {held : Bool} {fuel : Nat} {cs : List Value} {xs : List (DataW H × List MemPlace)} {i n : Nat}
    (hn : xs.length = n) (hi : i < n) (h : DataW.trod enc Tryz.prog W base spare held fuel t cs = xs[i]?) : ∃ y, d.K W y cs := by
  rw [List.getElem?_eq_getElem (by omega)] at h
  exact ho _ _ _ _ _ _ _ _ _ h
theorem Opens.field {α : Type} {t : TypeId} {d : Rp α} (ho : Opens t d) {H : Type} {enc : TypeId × Value → H} {W : World} {base : Nat} {spare : Nat → Bool} {held : Bool} {fuel : Nat} {l : List Value} {xs : List (DataW H × List MemPlace)} {i n k m : Nat} (cs : List Value)
    (hm : Tryz.prog.cellsOf t = m) (hn : xs.length = n) (hi : i < n) (hk : (l.drop k).take m = cs) (h : DataW.trod enc Tryz.prog W base spare held fuel t ((l.drop k).take (Tryz.prog.cellsOf t)) = xs[i]?) : ∃ y, d.K W y cs := by
  rw [hm, hk] at h
  exact ho.part hn hi h
theorem field_reads {t : TypeId} {H : Type} {enc : TypeId × Value → H} {W : World} {base : Nat} {spare : Nat → Bool} {held : Bool} {fuel : Nat} {l : List Value} {xs : List (DataW H × List MemPlace)} {i n k m : Nat} (cs : List Value)
    (hm : Tryz.prog.cellsOf t = m) (hn : xs.length = n) (hi : i < n) (hk : (l.drop k).take m = cs) (h : DataW.trod enc Tryz.prog W base spare held fuel t ((l.drop k).take (Tryz.prog.cellsOf t)) = xs[i]?) : ∃ x, DataW.trod enc Tryz.prog W base spare held fuel t cs = some x := by
  rw [hm, hk, List.getElem?_eq_getElem (by omega)] at h
  exact ⟨_, h⟩
theorem list_cons {n : Nat} {l : List Value} (h : l.length = n + 1) : ∃ a r, l = a :: r ∧ r.length = n := by
  match l, h with
  | a :: r, h => exact ⟨a, r, rfl, by simpa using h⟩
theorem list2 {l : List Value} (h : l.length = 2) : ∃ a b, l = [a, b] := by
  match l, h with
  | [a, b], _ => exact ⟨a, b, rfl⟩
theorem list4 {l : List Value} (h : l.length = 4) : ∃ a b c d, l = [a, b, c, d] := by
  match l, h with
  | [a, b, c, d], _ => exact ⟨a, b, c, d, rfl⟩
theorem list12 {l : List Value} (h : l.length = 12) : ∃ a b c d e f g i j k m n, l = [a, b, c, d, e, f, g, i, j, k, m, n] := by
  match l, h with
  | [a, b, c, d, e, f, g, i, j, k, m, n], _ => exact ⟨a, b, c, d, e, f, g, i, j, k, m, n, rfl⟩
theorem c54 : Tryz.prog.cellsOf 54 = 1 := by kernel_rfl
theorem c3 : Tryz.prog.cellsOf 3 = 1 := by kernel_rfl
theorem c5 : Tryz.prog.cellsOf 5 = 1 := by kernel_rfl
theorem c56 : Tryz.prog.cellsOf 56 = 4 := by kernel_rfl
theorem c58 : Tryz.prog.cellsOf 58 = 4 := by kernel_rfl
theorem c59 : Tryz.prog.cellsOf 59 = 1 := by kernel_rfl
theorem c61 : Tryz.prog.cellsOf 61 = 12 := by kernel_rfl
theorem c129 : Tryz.prog.cellsOf 129 = 2 := by kernel_rfl
theorem opens_pair : Opens 129 rPair := fun _ _ _ _ _ _ _ cs _ h => by
  obtain ⟨xs, m, _, _, hl, hn, hel⟩ := DataW.trod_array Tryz.underlying129 h
  rw [c129] at hl
  rw [c5] at hel
  obtain ⟨c0, c1, rfl⟩ := list2 hl
  obtain ⟨a, ha, ha'⟩ := opens_byte.part hn (by decide) (hel 0 (by decide))
  obtain ⟨b, hb, hb'⟩ := opens_byte.part hn (by decide) (hel 1 (by decide))
  simp at ha hb
  subst ha
  subst hb
  exact ⟨(a, b), rfl, ha', hb'⟩
theorem opens_sPair : Opens 59 sPair := opens_slice Tryz.underlying59 (by kernel_rfl) (by decide) opens_pair
theorem opens_given : Opens 58 rGiven := fun _ _ _ _ _ _ _ cs _ h => by
  obtain ⟨xs, n, _, _, hl, hn, hf⟩ := DataW.trod_struct Tryz.underlying58 h
  rw [c58] at hl
  obtain ⟨k0, k1, k2, k3, rfl⟩ := list4 hl
  obtain ⟨a, ha⟩ := opens_sByte.field [k0] c54 hn (by decide) rfl (hf 0 _ rfl)
  obtain ⟨b, hb⟩ := opens_sByte.field [k1] c54 hn (by decide) rfl (hf 1 _ rfl)
  obtain ⟨c, hc⟩ := opens_sByte.field [k2] c54 hn (by decide) rfl (hf 2 _ rfl)
  obtain ⟨d, hd, hd'⟩ := opens_int.field [k3] c3 hn (by decide) rfl (hf 3 _ rfl)
  cases hd
  exact ⟨⟨a, b, c, d⟩, _, _, _, rfl, ha, hb, hc, hd'⟩
theorem opens_step : Opens 61 rStep := fun _ _ _ _ _ _ _ cs _ h => by
  obtain ⟨xs, n, _, _, hl, hn, hf⟩ := DataW.trod_struct Tryz.underlying61 h
  rw [c61] at hl
  obtain ⟨k0, k1, k2, k3, k4, k5, k6, k7, k8, k9, k10, k11, rfl⟩ := list12 hl
  obtain ⟨kd, hk, hk'⟩ := opens_byte.field [k0] c5 hn (by decide) rfl (hf 0 _ rfl)
  obtain ⟨gn, hg, hg'⟩ := opens_byte.field [k1] c5 hn (by decide) rfl (hf 1 _ rfl)
  obtain ⟨_, hcl⟩ := field_reads (t := 56) [k2, k3, k4, k5] c56 hn (by decide) rfl (hf 2 _ rfl)
  obtain ⟨gv, hgv⟩ := opens_given.field [k6, k7, k8, k9] c58 hn (by decide) rfl (hf 3 _ rfl)
  obtain ⟨ar, har⟩ := opens_sPair.field [k10] c59 hn (by decide) rfl (hf 4 _ rfl)
  obtain ⟨fl, hfl, hfl'⟩ := opens_int.field [k11] c3 hn (by decide) rfl (hf 5 _ rfl)
  obtain ⟨ys, n', _, _, hl', hn', hf'⟩ := DataW.trod_struct Tryz.underlying56 hcl
  obtain ⟨cn, hcn, _⟩ := opens_byte.field [k2] c5 hn' (by decide) rfl (hf' 0 _ rfl)
  obtain ⟨su, hsu⟩ := opens_sByte.field [k3] c54 hn' (by decide) rfl (hf' 1 _ rfl)
  obtain ⟨sl, hsl⟩ := opens_sByte.field [k4] c54 hn' (by decide) rfl (hf' 2 _ rfl)
  obtain ⟨od, hod, _⟩ := opens_byte.field [k5] c5 hn' (by decide) rfl (hf' 3 _ rfl)
  cases hk
  cases hg
  cases hfl
  cases hcn
  cases hod
  obtain ⟨a, b, c, hq, h1, h2, h3, h4⟩ := hgv
  cases hq
  exact ⟨⟨kd, gn, cn, su, sl, od, gv, ar, fl⟩, _, _, _, _, _, _, rfl, hk', hg', hsu, hsl, ⟨_, _, _, rfl, h1, h2, h3, h4⟩, har, hfl'⟩
theorem opens_sStep : Opens 22 sStep := opens_slice Tryz.underlying22 (by kernel_rfl) (by decide) opens_step
end Go.Proofs.YtoncaejgflfhhaaGreatDoor
