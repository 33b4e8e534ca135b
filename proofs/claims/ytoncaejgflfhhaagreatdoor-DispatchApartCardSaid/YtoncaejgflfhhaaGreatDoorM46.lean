/- dispatch's RemoveMethod. | DispatchApart's plain law: what the state may become. No program here. -/
import Derived.Test.YtoncaejgflfhhaaGreatDoorM31
import Derived.Test.YtoncaejgflfhhaaGreatDoorM41
import Derived.Test.YtoncaejgflfhhaaGreatDoorM45
set_option linter.unusedVariables false
set_option linter.unusedSimpArgs false
namespace Go.Proofs.YtoncaejgflfhhaaGreatDoor
open Go.RowKit

def removeMethodS (s : St) (i : Int) (q : List ByteArray) (l : List Spec) : St × Int :=
  if h : 0 ≤ i ∧ i < s.gens.length then changedS s i.toNat (remM (s.gens[i.toNat]'(by omega)) q l).1 (remM (s.gens[i.toNat]'(by omega)) q l).2 else (emptySt, 5)

set_option maxHeartbeats 1000000 in
set_option maxRecDepth 100000 in
theorem removeMethod17 (s : St) (cs : List Value) (i : Int) (e e' : Option Nat) (q : List ByteArray) (l : List Spec) (vq vs : Value) (w : World) (h : rSt.K w s cs) (hq : (Rp.slice e Rp.str).K w q [vq]) (hs : (Rp.slice e' rSpec).K w l [vs]) (hok : okSt s) :
    Calls Tryz.prog 17 #[rSt.val cs, .int .i64 i, vq, vs] w (RE rSt (removeMethodS s i q l) w) := by
  have HI := Lib.hid (fun w' (hb : Below w.heap.size w w') => is31 s cs i w' (K_below h hb))
  by_cases hi : 0 ≤ i ∧ i < s.gens.length
  · rw [show inSt s i = true from by unfold inSt; simp [hi.1, hi.2]] at HI
    unfold removeMethodS
    rw [dif_pos hi]
    obtain ⟨n, rfl⟩ : ∃ n : Nat, i = n := ⟨i.toNat, by omega⟩
    have hn : n < s.gens.length := by omega
    simp only [Int.toNat_natCast]
    obtain ⟨g, hg⟩ : ∃ g, g = s.gens[n] := ⟨_, rfl⟩
    rw [← hg]
    have hgok : okGen g := hok.all g (by rw [hg]; exact List.getElem_mem _)
    have HC := Lib.hid (fun w' (hb : Below w.heap.size w w') g' gcs e (hg' : rGen.K w' g' gcs) => changed33 s cs n g' gcs e w' (K_below h hb) hg' hn hok.gens hok.caches)
    have HA := Lib.hid (fun w' (hb : Below w.heap.size w w') gcs (hg' : rGen.K w' g gcs) => rem48 g gcs e e' q l vq vs w' hg' (K_below hq hb) (K_below hs hb) hgok.1 hgok.2)
    obtain ⟨sg, sc, rfl, h1, h2, h3⟩ := h
    obtain ⟨A0, kk0, hv, _, _, _, hr⟩ := h1
    cases hv
    obtain ⟨B0, m0, rfl⟩ := slice_form h2
    obtain ⟨b, off, us, rfl, hbl, hk, hcell⟩ := Rp.Row_get hr n hn
    rw [← hg] at hk
    have HGK := Lib.hid hk
    obtain ⟨gm, rfl, hgm, hg1, hg2, hg3⟩ := hk
    obtain ⟨C0, n0, rfl⟩ := slice_form hgm
    have c0 : w.cell? ⟨b, off + n * 4, none⟩ = some (.string g.name) := hcell 0 _ rfl
    have c1 : w.cell? ⟨b, off + n * 4 + 1, none⟩ = some (.string g.comb) := hcell 1 _ rfl
    have c2 : w.cell? ⟨b, off + n * 4 + 2, none⟩ = some (.int .i64 g.req) := hcell 2 _ rfl
    have c3 : w.cell? ⟨b, off + n * 4 + 3, none⟩ = some (.slice C0 g.meths.length n0) := hcell 3 _ rfl
    obtain ⟨D1, n1, rfl⟩ := slice_form hq
    obtain ⟨D2, n2, rfl⟩ := slice_form hs
    rw [rSt_val] at HI HC ⊢
    obtain ⟨r, hr'⟩ : ∃ r, r = remM g q l := ⟨_, rfl⟩
    rw [← hr'] at HA ⊢
    obtain ⟨r1, r2⟩ := r
    obtain ⟨z, hz⟩ : ∃ z, z = changedS s n r1 r2 := ⟨_, rfl⟩
    have HZ := Lib.hid hz
    rw [← hz]
    clear h2 h3 hr hcell hg hgm hg1 hg2 hg3 hr' hz hgok hok
    obtain ⟨W0, hW0⟩ : ∃ W, W = (w.alloc (.cells #[.slice (some ⟨b, off, none⟩) s.gens.length kk0, .int .i64 s.hits, .int .i64 s.misses, .slice B0 s.caches.length m0, .int .i64 s.most, .int .i64 s.clock] 28)).alloc (.cells #[.slice none 0 0, .int .i64 0, .int .i64 0, .slice none 0 0, .int .i64 0, .int .i64 0] 28) := ⟨_, rfl⟩
    have hB0 : Below w.heap.size w W0 := hW0 ▸ below_more (below_one _ _) _
    have b0 : Box W0 w.heap.size 28 [.slice (some ⟨b, off, none⟩) s.gens.length kk0, .int .i64 s.hits, .int .i64 s.misses, .slice B0 s.caches.length m0, .int .i64 s.most, .int .i64 s.clock] := hW0 ▸ (Box.mk_ _ rfl rfl).alloc _
    have b2 : Box W0 (w.heap.size + 1) 28 [.slice none 0 0, .int .i64 0, .int .i64 0, .slice none 0 0, .int .i64 0, .int .i64 0] := hW0 ▸ Box.mk_ _ (by simp) rfl
    have HW0 := Lib.hid hW0
    clear hW0
    go_enter Tryz.func17, Tryz.ntmps17
    go_wp2_with (first
      | (go_at_call 31; rw [← HW0.out]; refine (HI.out _ hB0).mono ?_; rintro e w1 ⟨rfl, hB1⟩; have hT1 := below_to hB0 hB1; have x0 := b0.later hB1; have x2 := b2.later hB1; obtain ⟨p0, p1, p2, p3, p4, p5, pf, pl⟩ := x0.six; have d0 := cell_later hT1 c0; have d1 := cell_later hT1 c1; have d2 := cell_later hT1 c2; have d3 := cell_later hT1 c3)
      | (go_at_call 48; refine (HA.out _ hT1 _ (K_below HGK.out hT1)).mono ?_; rintro e w2 ⟨cs2, rfl, ⟨gm2, rfl, t1, t2⟩, hB2⟩; obtain ⟨E2, l2, rfl⟩ := slice_form t1; have hT2 := below_to hT1 hB2; have y0 := x0.later hB2; have y2 := x2.later hB2; have T := Lib.hid (And.intro t1 t2); clear t1 t2; have hX3 := below_one w2 (.cells #[.string r1.name, .string r1.comb, .int .i64 r1.req, .slice E2 r1.meths.length l2] 80); have hT3 := below_to hT2 hX3; have v0 := y0.later hX3; have v2 := y2.later hX3; have hg3 : rGen.K (w2.alloc (.cells #[.string r1.name, .string r1.comb, .int .i64 r1.req, .slice E2 r1.meths.length l2] 80)) r1 [.string r1.name, .string r1.comb, .int .i64 r1.req, .slice E2 r1.meths.length l2] := ⟨_, rfl, K_below T.out.1 hX3, T.out.2⟩; obtain ⟨a0, a1, a2, a3, a4, a5, af, al⟩ := y0.six)
      | (go_at_call 33; refine (HC.out _ hT3 _ _ _ hg3).mono ?_; rintro e w4 ⟨cs4, rfl, ⟨zg, zc, rfl, z1, z2, z3⟩, hB4⟩; obtain ⟨Z1, n3, rfl⟩ := slice_form z1; obtain ⟨Z2, n4, rfl⟩ := slice_form z2; have u2 := v2.later hB4; obtain ⟨o0, o1, o2, o3, o4, o5, of_, ol⟩ := u2.six; rw [← HZ.out] at *)
      | go_in)
    refine bodyPost_ret (v := .tuple #[.agg #[.slice Z1 z.1.gens.length n3, .int .i64 z.1.hits, .int .i64 z.1.misses, .slice Z2 z.1.caches.length n4, .int .i64 z.1.most, .int .i64 z.1.clock], .int .i64 z.2]) ?_ rfl ?_
    · simp [results, Tryz.results17, go_sem, o0, o1, o2, o3, o4, o5]
    · refine ⟨[.slice Z1 z.1.gens.length n3, .int .i64 z.1.hits, .int .i64 z.1.misses, .slice Z2 z.1.caches.length n4, .int .i64 z.1.most, .int .i64 z.1.clock], ?_, ?_, ?_⟩
      · rfl
      · refine ⟨_, _, rfl, ?_, ?_, z3⟩
        · have := K_put (d := sGen) rfl [.slice Z1 z.1.gens.length n3, .int .i64 z.1.hits, .int .i64 z.1.misses, .slice Z2 z.1.caches.length n4, .int .i64 z.1.most, .int .i64 z.1.clock] 0 z1 u2
          exact this
        · have := K_put (d := sMap) rfl [.slice Z1 z.1.gens.length n3, .int .i64 z.1.hits, .int .i64 z.1.misses, .slice Z2 z.1.caches.length n4, .int .i64 z.1.most, .int .i64 z.1.clock] 0 z2 u2
          exact this
      · have := below_put (b := w.heap.size + 1) (by omega) [.slice Z1 z.1.gens.length n3, .int .i64 z.1.hits, .int .i64 z.1.misses, .slice Z2 z.1.caches.length n4, .int .i64 z.1.most, .int .i64 z.1.clock] 0 (below_to hT3 hB4)
        exact this
  · rw [show inSt s i = false from by unfold inSt; simp; omega] at HI
    unfold removeMethodS
    rw [dif_neg hi]
    obtain ⟨sg, sc, rfl, h1, h2, h3⟩ := h
    obtain ⟨A0, k0, rfl⟩ := slice_form h1
    obtain ⟨B0, m0, rfl⟩ := slice_form h2
    obtain ⟨D1, n1, rfl⟩ := slice_form hq
    obtain ⟨D2, n2, rfl⟩ := slice_form hs
    rw [rSt_val] at HI ⊢
    clear h1 h2 h3 hi hok
    go_enter Tryz.func17, Tryz.ntmps17
    go_wp2_with (go_at_call 31; refine (HI.out _ (below_more (below_one _ _) _)).mono ?_; rintro e w1 ⟨rfl, hB1⟩; have b2 := (Box.mk_ (w.alloc _) (b := w.heap.size + 1) (by simp) rfl).later hB1; obtain ⟨p0, p1, p2, p3, p4, p5, pf, pl⟩ := b2.six)
    refine bodyPost_ret (v := .tuple #[.agg #[.slice none 0 0, .int .i64 0, .int .i64 0, .slice none 0 0, .int .i64 0, .int .i64 0], .int .i64 5]) ?_ rfl ?_
    · simp [results, Tryz.results17, go_sem, p0, p1, p2, p3, p4, p5]
    · refine ⟨[.slice none 0 0, .int .i64 0, .int .i64 0, .slice none 0 0, .int .i64 0, .int .i64 0], ?_, ?_, ?_⟩
      · rfl
      · exact emptySt_K _
      · have := below_put (b := w.heap.size + 1) (by omega) [.slice none 0 0, .int .i64 0, .int .i64 0, .slice none 0 0, .int .i64 0, .int .i64 0] 0 (below_to (below_more (below_one _ _) _) hB1)
        exact this
end Go.Proofs.YtoncaejgflfhhaaGreatDoor
namespace Go.Proofs.YtoncaejgflfhhaaGreatDoor
open Go.RowKit

def nG : ByteArray := ⟨#[71]⟩
def nH : ByteArray := ⟨#[72]⟩
def mG : Meth := ⟨[], [⟨false, 0, ⟨#[]⟩⟩], 1⟩
def gG : Gen := ⟨nG, sStd, 1, [mG]⟩
def gH (ms : List Meth) : Gen := ⟨nH, sStd, 1, ms⟩
def planG : Plan := ⟨[], [], [1], [], ⟨#[]⟩⟩
def lS1 : St := (ensureS (newS 5) nG sStd 1).1
def lS2 : St := (ensureS lS1 nH sStd 1).1
def lS3 : St := (addMethodS lS2 0 mG).1
def lS4 : St := (findS lS3 newCS 0 gG [argN 3] []).1
def kG : Key := looksS gG [argN 3]
def eG : Ent := ⟨planG, 42, 1⟩
theorem la0 : ensureS (newS 5) nG sStd 1 = (lS1, 0, 0) ∧ ensureS lS1 nH sStd 1 = (lS2, 1, 0) ∧ addMethodS lS2 0 mG = (lS3, 0) ∧ lS1 = ⟨[⟨nG, sStd, 1, []⟩], 0, 0, [[]], 5, 0⟩ ∧ lS2 = ⟨[⟨nG, sStd, 1, []⟩, gH []], 0, 0, [[], []], 5, 0⟩ ∧ lS3 = ⟨[gG, gH []], 0, 0, [[], []], 5, 0⟩ := by decide +kernel
theorem la1 : ∀ kd ∈ candK (fresh (stampS newCS) ((copiedS lS3).caches.getD 0 [])), findS lS3 newCS 0 gG [argN 3] kd = (lS4, planG, 0) := by decide +kernel
theorem la2 : lS4 = ⟨[gG, gH []], 0, 1, [[(kG, eG)], []], 5, 1⟩ := by decide +kernel
theorem stamp_new : stampS newCS = 42 := by decide +kernel
theorem known3 : knownS newCS [argN 3] = true := by decide +kernel
theorem lS3_copied : lS3.caches = (copiedS lS3).caches := by decide +kernel
theorem la1' {kd : Key} (h : Oldest kd (fresh (stampS newCS) ((copiedS lS3).caches.getD 0 []))) : findS lS3 newCS 0 gG [argN 3] kd = (lS4, planG, 0) := by
  obtain ⟨kd', h1, h2⟩ := find_pin (g := gG) (args := [argN 3]) rfl h lS3_copied
  rw [h2]
  exact la1 kd' h1
theorem planG_ok : okPlan planG := ⟨by decide, by decide, by decide, by decide⟩

/-- A method as the law makes it. -/
def okM (m : Meth) : Prop := m.quals.length ≤ 3 ∧ m.specs.length ≤ 9
theorem okM.big {m : Meth} (h : okM m) : bigM m := ⟨by have := h.1; omega, by have := h.2; omega⟩
/-- The state behind j steps. -/
structure LInv (j : Nat) (s : St) : Prop where
  shape : ∃ ms c1, s.gens = [gG, gH ms] ∧ s.caches = [[(kG, eG)], c1] ∧ ms.length ≤ j ∧ (∀ m ∈ ms, okM m) ∧ ∀ p ∈ c1, okPlan p.2.plan ∧ 0 ≤ p.2.used
  most : s.most = 5
  nums : 0 ≤ s.hits ∧ s.hits ≤ j + 1 ∧ 0 ≤ s.misses ∧ s.misses ≤ j + 1 ∧ 0 ≤ s.clock ∧ s.clock ≤ j + 1
theorem linv_start : LInv 0 lS4 := by
  rw [la2]
  exact ⟨⟨[], [], rfl, rfl, Nat.le_refl _, (fun m hm => nomatch hm), (fun p hp => nomatch hp)⟩, rfl, by decide⟩
theorem LInv.more {j : Nat} {s : St} (h : LInv j s) : LInv (j + 1) s := by
  obtain ⟨⟨ms, c1, h1, h2, h3, h4, h5⟩, h6, h7⟩ := h
  exact ⟨⟨ms, c1, h1, h2, by omega, h4, h5⟩, h6, by omega⟩
theorem okM_gG {m : Meth} (hm : m ∈ gG.meths) : okM m := by
  rw [List.mem_singleton.1 hm]
  exact ⟨by decide, by decide⟩
theorem LInv.ok {j : Nat} {s : St} (h : LInv j s) (hj : j ≤ 40) : okSt s := by
  obtain ⟨⟨ms, c1, h1, h2, h3, h4, h5⟩, h6, h7⟩ := h
  refine ⟨by rw [h1]; simp, by rw [h2]; simp, ?_⟩
  rw [h1]
  intro g hg
  rcases List.mem_cons.1 hg with rfl | hg
  · exact ⟨fun m hm => (okM_gG hm).big, by decide⟩
  · rw [List.mem_singleton.1 hg]
    exact ⟨fun m hm => (h4 m hm).big, by show ms.length ≤ 1000; omega⟩
theorem copied_two {s : St} {g0 g1 : Gen} {a b : List (Key × Ent)} (h1 : s.gens = [g0, g1]) (h2 : s.caches = [a, b]) : copiedS s = s := by
  unfold copiedS padC
  rw [h1, h2]
  cases s
  simp at h1 h2
  simp [h1, h2]
theorem linv_changed {j : Nat} {s : St} (h : LInv j s) (g : Gen) (ms : List Meth) (hg : g = gH ms) (hl : ms.length ≤ j + 1) (hm : ∀ m ∈ ms, okM m) : LInv (j + 1) (changedS s 1 g 0).1 := by
  subst hg
  obtain ⟨⟨ms', c1, h1, h2, h3, h4, h5⟩, h6, h7⟩ := h
  unfold changedS
  rw [if_pos rfl, copied_two h1 h2]
  refine ⟨⟨ms, [], ?_, ?_, hl, hm, fun p hp => nomatch hp⟩, h6, ?_⟩
  · show s.gens.set 1 _ = _
    rw [h1]; rfl
  · show s.caches.set 1 _ = _
    rw [h2]; rfl
  · exact ⟨h7.1, by show s.hits ≤ _; omega, h7.2.2.1, by show s.misses ≤ _; omega, h7.2.2.2.2.1, by show s.clock ≤ _; omega⟩
theorem linv_add {j : Nat} {s : St} (h : LInv j s) {m : Meth} (hm : okM m) (he : (addMethodS s 1 m).2 = 0) : LInv (j + 1) (addMethodS s 1 m).1 := by
  obtain ⟨ms, c1, h1, h2, h3, h4, h5⟩ := h.shape
  have hin : (0 : Int) ≤ 1 ∧ (1 : Int) < s.gens.length := by rw [h1]; simp
  have hg : s.gens[(1 : Int).toNat]'(by rw [h1]; simp) = gH ms := by simp [h1]
  unfold addMethodS at he ⊢
  rw [dif_pos hin] at he ⊢
  rw [hg] at he ⊢
  have ha : (addM (gH ms) m).2 = 0 := by
    unfold changedS at he
    split at he
    · assumption
    · exact he
  have h1' : ((1 : Int).toNat) = 1 := rfl
  rw [ha, h1']
  unfold addM at ha ⊢
  split at ha
  · exact absurd ha (by decide)
  · rename_i hsz
    rw [if_neg hsz]
    split at ha
    · rename_i hi
      rw [if_pos hi]
      split at ha
      · exact absurd ha (by decide)
      · rename_i hn
        rw [if_neg hn]
        refine linv_changed h _ (ms ++ [m]) rfl (by rw [List.length_append, List.length_singleton]; omega) fun x hx => ?_
        rcases List.mem_append.1 hx with hx | hx
        · exact h4 x hx
        · rw [List.mem_singleton.1 hx]; exact hm
    · rename_i hi
      rw [if_neg hi]
      refine linv_changed h _ (ms.set (fidx (fun x => hasM x m.quals m.specs) ms).toNat m) rfl (by rw [List.length_set]; omega) fun x hx => ?_
      rcases List.mem_or_eq_of_mem_set hx with hx | rfl
      · exact h4 x hx
      · exact hm
theorem linv_rem {j : Nat} {s : St} (h : LInv j s) {q : List ByteArray} {l : List Spec} (he : (removeMethodS s 1 q l).2 = 0) : LInv (j + 1) (removeMethodS s 1 q l).1 := by
  obtain ⟨ms, c1, h1, h2, h3, h4, h5⟩ := h.shape
  have hin : (0 : Int) ≤ 1 ∧ (1 : Int) < s.gens.length := by rw [h1]; simp
  have hg : s.gens[(1 : Int).toNat]'(by rw [h1]; simp) = gH ms := by simp [h1]
  unfold removeMethodS at he ⊢
  rw [dif_pos hin] at he ⊢
  rw [hg] at he ⊢
  have ha : (remM (gH ms) q l).2 = 0 := by
    unfold changedS at he
    split at he
    · assumption
    · exact he
  have h1' : ((1 : Int).toNat) = 1 := rfl
  rw [ha, h1']
  unfold remM at ha ⊢
  split at ha
  · exact absurd ha (by decide)
  · rename_i hi
    rw [if_neg hi]
    refine linv_changed h _ (ms.eraseIdx (fidx (fun x => hasM x q l) ms).toNat) rfl (by have := List.length_eraseIdx_le ms (fidx (fun x => hasM x q l) ms).toNat; omega) fun x hx => h4 x (List.mem_of_mem_eraseIdx hx)
theorem linv_flush {j : Nat} {s : St} (h : LInv j s) : LInv (j + 1) (flushS s 1) := by
  obtain ⟨⟨ms, c1, h1, h2, h3, h4, h5⟩, h6, h7⟩ := h
  unfold flushS
  rw [copied_two h1 h2]
  refine ⟨⟨ms, [], h1, ?_, by omega, h4, fun p hp => nomatch hp⟩, h6, ?_⟩
  · show flushTo 1 s.caches.length s.caches = _
    rw [h2]
    rfl
  · exact ⟨h7.1, by show s.hits ≤ _; omega, h7.2.2.1, by show s.misses ≤ _; omega, h7.2.2.2.2.1, by show s.clock ≤ _; omega⟩
theorem aput_sub {κ β : Type} [DecidableEq κ] {x : κ} {v : β} : ∀ {l : List (κ × β)} {p : κ × β}, p ∈ aput x v l → p ∈ l ∨ p.2 = v
  | [], p, h => .inr (by rw [List.mem_singleton.1 h])
  | (y, u) :: r, p, h => by
    unfold aput at h
    split at h
    · rcases List.mem_cons.1 h with rfl | h
      · exact .inr rfl
      · exact .inl (List.mem_cons_of_mem _ h)
    · rcases List.mem_cons.1 h with rfl | h
      · exact .inl (List.mem_cons_self ..)
      · rcases aput_sub h with h | h
        · exact .inl (List.mem_cons_of_mem _ h)
        · exact .inr h
theorem cacheS_sub {most now : Int} {k kd : Key} {x : Ent} {hit : Bool} {cache : List (Key × Ent)} {p : Key × Ent} (h : p ∈ cacheS most now k kd x hit cache) : p ∈ cache ∨ p.2 = x := by
  unfold cacheS at h
  have hd : ∀ {q : Key × Ent}, q ∈ (if hit = false ∧ fresh now cache ≠ [] ∧ most ≤ (fresh now cache).length then adel kd (fresh now cache) else fresh now cache) → q ∈ cache := by
    intro q hq
    split at hq
    · exact (List.mem_filter.1 (List.mem_filter.1 hq).1).1
    · exact (List.mem_filter.1 hq).1
  split at h
  · rcases aput_sub h with h | h
    · exact .inl (hd h)
    · exact .inr h
  · exact .inl (hd h)
theorem LInv.find1 {j : Nat} {s : St} (h : LInv j s) (hj : j ≤ 40) {args : List Arg} (ha : args.length ≤ 1000) : ∃ ms, okFind s newCS 1 (gH ms) args ∧ ∀ kd, LInv (j + 1) (findS s newCS 1 (gH ms) args kd).1 := by
  have hok := h.ok hj
  obtain ⟨⟨ms, c1, h1, h2, h3, h4, h5⟩, h6, h7⟩ := h
  have hc : copiedS s = s := copied_two h1 h2
  have hg1 : s.caches.getD 1 [] = c1 := by rw [h2]; rfl
  refine ⟨ms, ⟨hok, newCS_ok, by rw [h1]; rfl, by show (0 : Int) ≤ 1; decide, ha, fun m hm => by have := (h4 m hm).2; omega, by omega, by rw [hg1]; exact h5, by show ms.length ≤ 1000; omega⟩, fun kd => ?_⟩
  have tail : ∀ (ht ms' : Int) (now : Int) (k : Key) (x : Ent) (hit : Bool), (0 ≤ ht ∧ ht ≤ j + 2 ∧ 0 ≤ ms' ∧ ms' ≤ j + 2) → okPlan x.plan → 0 ≤ x.used → LInv (j + 1) (tailS { tickS s with hits := ht, misses := ms' } 1 now k kd x hit) := by
    intro ht ms' now k x hit hn hp hu
    refine ⟨⟨ms, cacheS s.most now k kd x hit c1, ?_, ?_, by omega, h4, ?_⟩, ?_, ?_⟩
    · show (copiedS s).gens = _
      rw [hc]; exact h1
    · show (copiedS s).caches.set 1 (cacheS (copiedS s).most now k kd x hit ((copiedS s).caches.getD 1 [])) = _
      rw [hc, hg1, h2]
      rfl
    · intro p hp'
      rcases cacheS_sub hp' with hp' | hp'
      · exact h5 p hp'
      · rw [hp']
        exact ⟨hp, hu⟩
    · show (copiedS s).most = 5
      rw [hc]; exact h6
    · refine ⟨hn.1, ?_, hn.2.2.1, ?_, ?_, ?_⟩
      · show ht ≤ _; omega
      · show ms' ≤ _; omega
      · show 0 ≤ s.clock + 1; omega
      · show s.clock + 1 ≤ _; omega
  unfold findS
  rw [hc]
  cases hh : hitE newCS (gH ms) args (s.caches.getD 1 []) with
  | some x =>
    have hx : okPlan x.plan := by
      unfold hitE at hh
      split at hh
      · exact nomatch hh
      · rename_i y hy
        split at hh
        · cases hh
          have hp := aget_mem hy
          rw [hg1] at hp
          exact (h5 _ hp).1
        · exact nomatch hh
    have := tail (s.hits + 1) (copiedS s).misses (stampS newCS) (looksS (gH ms) args) { x with used := s.clock + 1 } true (by rw [hc]; omega) hx (by show 0 ≤ s.clock + 1; omega)
    exact this
  | none =>
    show LInv (j + 1) (if _ then _ else _ : St × Plan × Int).1
    split
    · exact tail (copiedS s).hits (s.misses + 1) (stampS newCS) (looksS (gH ms) args) ⟨(effS newCS (gH ms) args).1, stampS newCS, s.clock + 1⟩ false (by rw [hc]; omega) (eff_ok _ _ _ (by show ms.length ≤ 1000; omega)) (by show 0 ≤ s.clock + 1; omega)
    · refine ⟨⟨ms, c1, ?_, ?_, by omega, h4, h5⟩, ?_, ?_⟩
      · show (copiedS s).gens = _
        rw [hc]; exact h1
      · show (copiedS s).caches = _
        rw [hc]; exact h2
      · show (copiedS s).most = 5
        rw [hc]; exact h6
      · refine ⟨?_, ?_, ?_, ?_, ?_, ?_⟩
        · show 0 ≤ (copiedS s).hits; rw [hc]; omega
        · show (copiedS s).hits ≤ _; rw [hc]; omega
        · show 0 ≤ s.misses + 1; omega
        · show s.misses + 1 ≤ _; omega
        · show 0 ≤ s.clock + 1; omega
        · show s.clock + 1 ≤ _; omega
theorem LInv.one {j : Nat} {s : St} (h : LInv j s) : entriesS s 0 = 1 := by
  obtain ⟨⟨ms, c1, h1, h2, h3, h4, h5⟩, h6, h7⟩ := h
  unfold entriesS
  rw [if_pos (by rw [h1]; simp), h2]
  rfl
/-- At the end: the entry is still there. -/
theorem LInv.last {j : Nat} {s : St} (h : LInv j s) (hj : j ≤ 40) : okFind s newCS 0 gG [argN 3] ∧ ∀ kd, (findS s newCS 0 gG [argN 3] kd).1.hits = s.hits + 1 ∧ (findS s newCS 0 gG [argN 3] kd).2 = (planG, 0) := by
  have hok := h.ok hj
  obtain ⟨⟨ms, c1, h1, h2, h3, h4, h5⟩, h6, h7⟩ := h
  have hc : copiedS s = s := copied_two h1 h2
  have hg0 : s.caches.getD 0 [] = [(kG, eG)] := by rw [h2]; rfl
  refine ⟨⟨hok, newCS_ok, by rw [h1]; rfl, by show (0 : Int) ≤ 1; decide, by decide, fun m hm => by have := (okM_gG hm).2; omega, by omega, ?_, by decide⟩, fun kd => ?_⟩
  · rw [hg0]
    intro p hp
    rw [List.mem_singleton.1 hp]
    exact ⟨planG_ok, by decide⟩
  · have hh : hitE newCS gG [argN 3] (s.caches.getD 0 []) = some eG := by
      rw [hg0]
      unfold hitE
      rw [show aget (looksS gG [argN 3]) [(kG, eG)] = some eG from if_pos rfl]
      exact if_pos ⟨stamp_new.symm, by decide, known3⟩
    unfold findS
    rw [hc, hh]
    exact ⟨rfl, rfl⟩
end Go.Proofs.YtoncaejgflfhhaaGreatDoor
