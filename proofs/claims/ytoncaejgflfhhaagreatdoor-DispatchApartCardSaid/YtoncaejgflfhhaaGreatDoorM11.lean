/- class's precedence: which class must stand ahead of which. | class's precedence: its questions. -/
import Derived.Test.YtoncaejgflfhhaaGreatDoorM03
import Derived.Test.YtoncaejgflfhhaaGreatDoorM02
import Derived.Test.YtoncaejgflfhhaaGreatDoorM01
import Derived.IntWalk
set_option linter.unusedVariables false
set_option linter.unusedSimpArgs false
namespace Go.Proofs.YtoncaejgflfhhaaGreatDoor
open Go.RowKit

def supersOf (s : CS) (c : Int) : List Int := (s.classes[c.toNat]?.map (·.supers)).getD []
/-- Does class c say that a stands ahead of b? -/
def says (s : CS) (a b c : Int) : Bool :=
  match (supersOf s c).findIdx? (fun x => b == x) with
  | some i => decide (c = a) || (decide (0 < i) && decide ((supersOf s c)[i - 1]? = some a))
  | none => false
def aheadB (s : CS) (all : List Int) (a b : Int) : Bool := all.any (says s a b)
/-- The numbers are those of classes. -/
def Known (s : CS) (l : List Int) : Prop := ∀ c ∈ l, 0 ≤ c ∧ c < s.classes.length

theorem enters127 : Enters 127 := fun args w => by kernel_rfl

set_option maxHeartbeats 1000000 in
set_option maxRecDepth 100000 in
theorem ahead127 (s : CS) (all : List Int) (a b : Int) (ba bs : Nat) (e : Option Nat) (va vc vh : Value) (w : World) (hl : (Rp.slice e Rp.int).K w all [va]) (hs : sCls.K w s.classes [vc])
    (c0 : w.cell? ⟨ba, 0, none⟩ = some va) (c1 : w.cell? ⟨bs, 0, none⟩ = some vc) (hk : Known s all) :
    Calls Tryz.prog 127 #[.int .i64 a, .int .i64 b, .pointer (some ⟨ba, 0, none⟩), .pointer (some ⟨bs, 0, none⟩)] w (RV (.bool (aheadB s all a b)) w) := by
  have HL := Lib.hid hl
  have HS := Lib.hid hs
  obtain ⟨A, ca, hva, hm1, hm2, _, hra⟩ := hl
  obtain ⟨C, cc, hvc, hn1, hn2, _, hrc⟩ := hs
  cases hva
  cases hvc
  have hm : all.length ≤ 9223372036854775807 := by unfold maxLen at hm2; omega
  have hn : s.classes.length ≤ 9223372036854775807 := by unfold maxLen at hn2; omega
  have la := World.block_lt_of_cell? w _ c0
  have lb := World.block_lt_of_cell? w _ c1
  have HR := Lib.hid (And.intro hra hrc)
  have HK := Lib.hid hk
  clear hra hrc hk hm1 hm2 hn1 hn2
  go_enter Tryz.func127, Tryz.ntmps127
  go_wp2
  go_loopw [13] (fun i wr => ∃ j : Nat, j ≤ all.length ∧ i = .int .i64 j ∧ Below w.heap.size w wr ∧ ∀ m (hm : m < all.length), m < j → says s a b all[m] = false) (fun i _ => all.length - (intOf i).toNat)
  case atStart => exact ⟨0, Nat.zero_le _, rfl, Below.refl _ _, fun m _ h => absurd h (Nat.not_lt_zero _)⟩
  case round =>
    obtain ⟨j, hj, rfl, hB, hprev⟩ := hrel
    have HP := Lib.hid hprev
    clear hprev
    by_cases hlt : j < all.length
    · obtain ⟨b1, off1, cs1, hA, hbl1, ⟨rfl, hk1⟩, hcell1⟩ := Rp.Row_get (Rp.Row_mov (Same.of_below hB) HR.out.1) j hlt
      subst hA
      have e0 : wr.cell? ⟨b1, off1 + j, none⟩ = some (.int .i64 all[j]) := by have := hcell1 0 _ rfl; simpa [Rp.int, Rp.scalar] using this
      obtain ⟨hc0, hc1⟩ := HK.out all[j] (List.getElem_mem hlt)
      obtain ⟨c, hc⟩ : ∃ c, c = all[j] := ⟨_, rfl⟩
      rw [← hc] at e0 hc0 hc1
      obtain ⟨k, rfl⟩ : ∃ k : Nat, c = k := ⟨c.toNat, by omega⟩
      have hkl : k < s.classes.length := by omega
      obtain ⟨b2, off2, cs2, hA2, hbl2, hk2, hcell2⟩ := Rp.Row_get (Rp.Row_mov (Same.of_below hB) HR.out.2) k hkl
      subst hA2
      obtain ⟨v1, v2, rfl, hx1, hx2, _⟩ := hk2
      have e1 : wr.cell? ⟨b2, off2 + k * 5 + 1, none⟩ = some v1 := hcell2 1 _ rfl
      have d0 := cell_later hB c0
      have d1 := cell_later hB c1
      have l0 := World.block_lt_of_cell? wr _ d0
      have l1 := World.block_lt_of_cell? wr _ d1
      have hsup : supersOf s (k : Int) = s.classes[k].supers := by unfold supersOf; simp [hkl]
      obtain ⟨l, hl⟩ : ∃ l, l = s.classes[k].supers := ⟨_, rfl⟩
      rw [← hl] at hx1 hsup
      have HI := Lib.hid (index128 (some 3) l v1 b wr hx1)
      have HC := Lib.hid (And.intro hc (And.intro hsup hl))
      obtain ⟨D, kd, hv1, hl1, hl2, _, hrl⟩ := hx1
      cases hv1
      clear hc hsup hl hx2 hcell1 hcell2
      rcases fidx_cases (fun x => b == x) l with ⟨hf, hnone⟩ | ⟨i, hi, hf, hyes, _, hbef⟩
      · rw [hf] at HI
        have hno : says s a b (k : Int) = false := by
          unfold says
          rw [HC.out.2.1]
          have : l.findIdx? (fun x => b == x) = none := by
            rw [List.findIdx?_eq_none_iff]
            intro x hx
            simpa using List.any_eq_false.1 hnone x hx
          rw [this]
        have HN := Lib.hid hno
        clear hno hf hnone
        go_wp2_with (go_at_call 128; refine HI.out.mono ?_; rintro e w1 ⟨rfl, hB1⟩)
        exact ⟨⟨j + 1, by omega, by go_num, below_to hB hB1, fun m hm hmj => by
          rcases Nat.lt_succ_iff_lt_or_eq.1 hmj with h | h
          · exact HP.out m hm h
          · subst h; rw [← HC.out.1]; exact HN.out⟩, by simp [intOf]; omega⟩
      · rw [hf] at HI
        have hsay : says s a b (k : Int) = (decide ((k : Int) = a) || (decide (0 < i) && decide (l[i - 1]? = some a))) := by
          unfold says
          rw [HC.out.2.1]
          have : l.findIdx? (fun x => b == x) = some i := by
            rw [List.findIdx?_eq_some_iff_getElem]
            exact ⟨hi, hyes, fun j hj => by simpa using hbef j hj⟩
          rw [this]
        have HY := Lib.hid hsay
        clear hsay hf hyes hbef
        by_cases hka : (k : Int) = a
        · have HN : Hid (says s a b (k : Int) = true) := Lib.hid (by rw [HY.out]; simp [hka])
          have hkb : ((k : Int) == a) = true := by simpa using hka
          have HKA := Lib.hid hka
          clear hka
          go_wp2_with (go_at_call 128; refine HI.out.mono ?_; rintro e w1 ⟨rfl, hB1⟩)
          go_ret
          exact ⟨by rw [show aheadB s all a b = true from List.any_eq_true.2 ⟨all[j], List.getElem_mem _, by rw [← HC.out.1]; exact HN.out⟩]; rfl, below_to hB hB1⟩
        · have hkb : ((k : Int) == a) = false := by simpa using hka
          cases i with
          | zero =>
            have HN : Hid (says s a b (k : Int) = false) := Lib.hid (by rw [HY.out]; simp [hka])
            clear hka
            go_wp2_with (go_at_call 128; refine HI.out.mono ?_; rintro e w1 ⟨rfl, hB1⟩)
            exact ⟨⟨j + 1, by omega, by go_num, below_to hB hB1, fun m hm hmj => by
              rcases Nat.lt_succ_iff_lt_or_eq.1 hmj with h | h
              · exact HP.out m hm h
              · subst h; rw [← HC.out.1]; exact HN.out⟩, by simp [intOf]; omega⟩
          | succ i =>
            obtain ⟨b3, off3, cs3, hA3, hbl3, ⟨rfl, hk3⟩, hcell3⟩ := Rp.Row_get hrl i (by omega)
            subst hA3
            have q0 : wr.cell? ⟨b3, off3 + i, none⟩ = some (.int .i64 (l[i]'(by omega))) := by have := hcell3 0 _ rfl; simpa [Rp.int, Rp.scalar] using this
            have hg : l[i]? = some (l[i]'(by omega)) := List.getElem?_eq_getElem _
            obtain ⟨y, hy⟩ : ∃ y, y = (l[i]'(by omega)) := ⟨_, rfl⟩
            rw [← hy] at q0 hg
            have HG := Lib.hid hg
            have hll : l.length ≤ 9223372036854775807 := by unfold maxLen at hl2; omega
            have hi1 : (i : Int) + 1 < l.length := by omega
            clear hcell3 hk3 hy hg
            by_cases hya : y = a
            · have HN : Hid (says s a b (k : Int) = true) := Lib.hid (by rw [HY.out]; simp [HG.out, hya])
              have hyb : (y == a) = true := by simpa using hya
              have HYA := Lib.hid hya
              clear hya hka
              go_wp2_with (go_at_call 128; refine HI.out.mono ?_; rintro e w1 ⟨rfl, hB1⟩; have x0 := cell_later hB1 q0)
              go_ret
              exact ⟨by rw [show aheadB s all a b = true from List.any_eq_true.2 ⟨all[j], List.getElem_mem _, by rw [← HC.out.1]; exact HN.out⟩]; rfl, below_to hB hB1⟩
            · have HN : Hid (says s a b (k : Int) = false) := Lib.hid (by rw [HY.out]; simp [hka, HG.out, hya])
              have hyb : (y == a) = false := by simpa using hya
              clear hya hka
              go_wp2_with (go_at_call 128; refine HI.out.mono ?_; rintro e w1 ⟨rfl, hB1⟩; have x0 := cell_later hB1 q0)
              exact ⟨⟨j + 1, by omega, by go_num, below_to hB hB1, fun m hm hmj => by
                rcases Nat.lt_succ_iff_lt_or_eq.1 hmj with h | h
                · exact HP.out m hm h
                · subst h; rw [← HC.out.1]; exact HN.out⟩, by simp [intOf]; omega⟩
    · go_wp2
      go_ret
      have hjj : j = all.length := by omega
      exact ⟨by rw [show aheadB s all a b = false from List.any_eq_false.2 (fun x hx => by obtain ⟨m, hm, rfl⟩ := List.mem_iff_getElem.1 hx; rw [HP.out m hm (by omega)]; decide)]; rfl, hB⟩
end Go.Proofs.YtoncaejgflfhhaaGreatDoor
namespace Go.Proofs.YtoncaejgflfhhaaGreatDoor
open Go.RowKit

theorem enters130 : Enters 130 := fun args w => by kernel_rfl
theorem enters132 : Enters 132 := fun args w => by kernel_rfl
theorem enters135 : Enters 135 := fun args w => by kernel_rfl

set_option maxRecDepth 100000 in
theorem call130 (s : CS) (all : List Int) (a b : Int) (bf bb ba bs : Nat) (e : Option Nat) (va vc : Value) (w : World) (hl : (Rp.slice e Rp.int).K w all [va]) (hs : sCls.K w s.classes [vc])
    (c0 : w.cell? ⟨ba, 0, none⟩ = some va) (c1 : w.cell? ⟨bs, 0, none⟩ = some vc) (hk : Known s all)
    (cf : w.cell? ⟨bf, 0, none⟩ = some (.func (.func 127) #[] #[.pointer (some ⟨ba, 0, none⟩), .pointer (some ⟨bs, 0, none⟩)])) (cb : w.cell? ⟨bb, 0, none⟩ = some (.int .i64 b)) :
    Calls Tryz.prog 130 #[.int .i64 a, .pointer (some ⟨bf, 0, none⟩), .pointer (some ⟨bb, 0, none⟩)] w (RV (.bool (aheadB s all a b)) w) := by
  have H := Lib.hid (ahead127 s all a b ba bs e va vc vc w hl hs c0 c1 hk)
  have he := enters127
  unfold Enters at he
  have lf := World.block_lt_of_cell? w _ cf
  have lb := World.block_lt_of_cell? w _ cb
  clear hl hs c0 c1 hk
  go_enter Tryz.func130, Tryz.ntmps130
  go_wp2_with (refine H.out.mono ?_; rintro e w1 ⟨rfl, hB1⟩)
  go_ret
  exact ⟨rfl, hB1⟩

theorem pred130 (s : CS) (all left : List Int) (b : Int) (bf bb ba bs : Nat) (e : Option Nat) (va vc : Value) (w : World) (hl : (Rp.slice e Rp.int).K w all [va]) (hs : sCls.K w s.classes [vc])
    (c0 : w.cell? ⟨ba, 0, none⟩ = some va) (c1 : w.cell? ⟨bs, 0, none⟩ = some vc) (hk : Known s all)
    (cf : w.cell? ⟨bf, 0, none⟩ = some (.func (.func 127) #[] #[.pointer (some ⟨ba, 0, none⟩), .pointer (some ⟨bs, 0, none⟩)])) (cb : w.cell? ⟨bb, 0, none⟩ = some (.int .i64 b)) :
    Pred Rp.int 130 #[.pointer (some ⟨bf, 0, none⟩), .pointer (some ⟨bb, 0, none⟩)] w left (fun a => aheadB s all a b) := by
  intro a _ cs w' hb hx
  obtain ⟨rfl, _⟩ := hx
  exact call130 s all a b bf bb ba bs e va vc w' (K_below hl hb) (K_below hs hb) (cell_later hb c0) (cell_later hb c1) hk (cell_later hb cf) (cell_later hb cb)

/-- Is c the first of those that are free? -/
theorem call132 (c x : Int) (bf : Nat) (A : Addr) (n k : Nat) (w : World) (cf : w.cell? ⟨bf, 0, none⟩ = some (.slice (some A) (n + 1) k)) (cx : w.cell? A = some (.int .i64 x)) :
    Calls Tryz.prog 132 #[.int .i64 c, .pointer (some ⟨bf, 0, none⟩)] w (RV (.bool (c == x)) w) := by
  have lf := World.block_lt_of_cell? w _ cf
  go_enter Tryz.func132, Tryz.ntmps132
  go_wp2
  go_ret
  exact ⟨rfl, Below.refl _ _⟩

theorem call135 (c x : Int) (b : Nat) (w : World) (cx : w.cell? ⟨b, 0, none⟩ = some (.int .i64 x)) :
    Calls Tryz.prog 135 #[.int .i64 c, .pointer (some ⟨b, 0, none⟩)] w (RV (.bool (c == x)) w) := by
  have lf := World.block_lt_of_cell? w _ cx
  go_enter Tryz.func135, Tryz.ntmps135
  go_wp2
  go_ret
  exact ⟨rfl, Below.refl _ _⟩
end Go.Proofs.YtoncaejgflfhhaaGreatDoor
