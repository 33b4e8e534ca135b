/- dispatch's AddMethod and RemoveMethod. -/
import Derived.Test.YtoncaejgflfhhaaGreatDoorM10
set_option linter.unusedVariables false
set_option linter.unusedSimpArgs false
namespace Go.Proofs.YtoncaejgflfhhaaGreatDoor
open Go.RowKit

def okGen (g : Gen) : Prop := (∀ x ∈ g.meths, bigM x) ∧ g.meths.length ≤ 1000
structure okSt (s : St) : Prop where
  gens : s.gens.length ≤ 100000
  caches : s.caches.length ≤ 100000
  all : ∀ g ∈ s.gens, okGen g
def addMethodS (s : St) (i : Int) (m : Meth) : St × Int :=
  if h : 0 ≤ i ∧ i < s.gens.length then changedS s i.toNat (addM (s.gens[i.toNat]'(by omega)) m).1 (addM (s.gens[i.toNat]'(by omega)) m).2 else (emptySt, 5)

set_option maxHeartbeats 1000000 in
set_option maxRecDepth 100000 in
theorem addMethod11 (s : St) (cs : List Value) (i : Int) (m : Meth) (mcs : List Value) (w : World) (h : rSt.K w s cs) (hm : rMeth.K w m mcs) (hok : okSt s) (hbm : bigM m) :
    Calls Tryz.prog 11 #[rSt.val cs, .int .i64 i, rMeth.val mcs] w (RE rSt (addMethodS s i m) w) := by
  have HI := Lib.hid (fun w' (hb : Below w.heap.size w w') => is31 s cs i w' (K_below h hb))
  by_cases hi : 0 ≤ i ∧ i < s.gens.length
  · rw [show inSt s i = true from by unfold inSt; simp [hi.1, hi.2]] at HI
    unfold addMethodS
    rw [dif_pos hi]
    obtain ⟨n, rfl⟩ : ∃ n : Nat, i = n := ⟨i.toNat, by omega⟩
    have hn : n < s.gens.length := by omega
    simp only [Int.toNat_natCast]
    obtain ⟨g, hg⟩ : ∃ g, g = s.gens[n] := ⟨_, rfl⟩
    rw [← hg]
    have hgok : okGen g := hok.all g (by rw [hg]; exact List.getElem_mem _)
    have HC := Lib.hid (fun w' (hb : Below w.heap.size w w') g' gcs e (hg' : rGen.K w' g' gcs) => changed33 s cs n g' gcs e w' (K_below h hb) hg' hn hok.gens hok.caches)
    have HA := Lib.hid (fun w' (hb : Below w.heap.size w w') gcs (hg' : rGen.K w' g gcs) => add32 g gcs m mcs w' hg' (K_below hm hb) hgok.1 hbm hgok.2)
    obtain ⟨sg, sc, rfl, h1, h2, h3⟩ := h
    obtain ⟨A0, kk0, hv, _, _, _, hr⟩ := h1
    cases hv
    obtain ⟨B0, m0, rfl⟩ := slice_form h2
    obtain ⟨b, off, us, rfl, hbl, hk, hcell⟩ := Rp.Row_get hr n hn
    rw [← hg] at hk
    have HGK := Lib.hid hk
    obtain ⟨gm, rfl, hgm, hg1, hg2, hg3⟩ := hk
    obtain ⟨C0, n0, rfl⟩ := slice_form hgm
    have c0 : w.cell? ⟨b, off + n * 4, none⟩ = some (.string g.name) := hcell 0 _ rfl
    have c1 : w.cell? ⟨b, off + n * 4 + 1, none⟩ = some (.string g.comb) := hcell 1 _ rfl
    have c2 : w.cell? ⟨b, off + n * 4 + 2, none⟩ = some (.int .i64 g.req) := hcell 2 _ rfl
    have c3 : w.cell? ⟨b, off + n * 4 + 3, none⟩ = some (.slice C0 g.meths.length n0) := hcell 3 _ rfl
    obtain ⟨mq, ms, rfl, m1, m2, m3⟩ := hm
    obtain ⟨D1, n1, rfl⟩ := slice_form m1
    obtain ⟨D2, n2, rfl⟩ := slice_form m2
    rw [rSt_val] at HI HC ⊢
    rw [rMeth_val] at HA ⊢
    obtain ⟨r, hr'⟩ : ∃ r, r = addM g m := ⟨_, rfl⟩
    rw [← hr'] at HA ⊢
    obtain ⟨r1, r2⟩ := r
    obtain ⟨z, hz⟩ : ∃ z, z = changedS s n r1 r2 := ⟨_, rfl⟩
    have HZ := Lib.hid hz
    rw [← hz]
    clear h2 h3 hr hcell hg hgm hg1 hg2 hg3 m1 m2 m3 hr' hz hgok hok hbm
    obtain ⟨W0, hW0⟩ : ∃ W, W = ((w.alloc (.cells #[.slice (some ⟨b, off, none⟩) s.gens.length kk0, .int .i64 s.hits, .int .i64 s.misses, .slice B0 s.caches.length m0, .int .i64 s.most, .int .i64 s.clock] 28)).alloc (.cells #[.slice D1 m.quals.length n1, .slice D2 m.specs.length n2, .int .i64 m.fn] 40)).alloc (.cells #[.slice none 0 0, .int .i64 0, .int .i64 0, .slice none 0 0, .int .i64 0, .int .i64 0] 28) := ⟨_, rfl⟩
    have hB0 : Below w.heap.size w W0 := hW0 ▸ below_more (below_more (below_one _ _) _) _
    have b0 : Box W0 w.heap.size 28 [.slice (some ⟨b, off, none⟩) s.gens.length kk0, .int .i64 s.hits, .int .i64 s.misses, .slice B0 s.caches.length m0, .int .i64 s.most, .int .i64 s.clock] := hW0 ▸ ((Box.mk_ _ rfl rfl).alloc _).alloc _
    have b1 : Box W0 (w.heap.size + 1) 40 [.slice D1 m.quals.length n1, .slice D2 m.specs.length n2, .int .i64 m.fn] := hW0 ▸ (Box.mk_ _ (by simp) rfl).alloc _
    have b2 : Box W0 (w.heap.size + 1 + 1) 28 [.slice none 0 0, .int .i64 0, .int .i64 0, .slice none 0 0, .int .i64 0, .int .i64 0] := hW0 ▸ Box.mk_ _ (by simp) rfl
    have HW0 := Lib.hid hW0
    clear hW0
    go_enter Tryz.func11, Tryz.ntmps11
    go_wp2_with (first
      | (go_at_call 31; rw [← HW0.out]; refine (HI.out _ hB0).mono ?_; rintro e w1 ⟨rfl, hB1⟩; have hT1 := below_to hB0 hB1; have x0 := b0.later hB1; have x1 := b1.later hB1; have x2 := b2.later hB1; obtain ⟨p0, p1, p2, p3, p4, p5, pf, pl⟩ := x0.six; obtain ⟨q0, q1, q2, qf, ql⟩ := x1.three; have d0 := cell_later hT1 c0; have d1 := cell_later hT1 c1; have d2 := cell_later hT1 c2; have d3 := cell_later hT1 c3)
      | go_in)
    go_region_held3 (fun w' => w'.cell? ⟨w.heap.size, 0, none⟩ = some (.slice (some ⟨b, off, none⟩) s.gens.length kk0) ∧ w'.cell? ⟨w.heap.size + 1, 0, none⟩ = some (.slice D1 m.quals.length n1) ∧ w'.cell? ⟨w.heap.size + 1, 1, none⟩ = some (.slice D2 m.specs.length n2) ∧ w'.cell? ⟨w.heap.size + 1, 2, none⟩ = some (.int .i64 m.fn) ∧
        w'.cell? ⟨b, off + n * 4, none⟩ = some (.string g.name) ∧ w'.cell? ⟨b, off + n * 4 + 1, none⟩ = some (.string g.comb) ∧ w'.cell? ⟨b, off + n * 4 + 2, none⟩ = some (.int .i64 g.req) ∧ w'.cell? ⟨b, off + n * 4 + 3, none⟩ = some (.slice C0 g.meths.length n0))
      (go_keep)
      (first
        | (go_at_call 32; have hX := below_drew w1; refine (HA.out _ (below_to hT1 hX) _ (K_below HGK.out (below_to hT1 hX))).mono ?_; rintro e w2 ⟨cs2, rfl, ⟨gm2, rfl, t1, t2⟩, hB2⟩; obtain ⟨E2, l2, rfl⟩ := slice_form t1; have hY := below_to hX hB2; have hT2 := below_to hT1 hY; have y0 := x0.later hY; have y2 := x2.later hY; have T := Lib.hid (And.intro t1 t2); clear t1 t2; have y1 := x1.later hY; obtain ⟨g0, g1, g2, g3, g4, g5, gf, gl⟩ := y0.six; obtain ⟨h0, h1, h2, hf, hl⟩ := y1.three; have k0 := cell_later hY d0; have k1 := cell_later hY d1; have k2 := cell_later hY d2; have k3 := cell_later hY d3)
        | (go_at_call 32; have hX := (below_one w1 (.cells #[.string ⟨#[]⟩, .string ⟨#[]⟩, .int .i64 0, .slice none 0 0] 80)).drew; refine (HA.out _ (below_to hT1 hX) _ (K_below HGK.out (below_to hT1 hX))).mono ?_; rintro e w2 ⟨cs2, rfl, ⟨gm2, rfl, t1, t2⟩, hB2⟩; obtain ⟨E2, l2, rfl⟩ := slice_form t1; have hY := below_to hX hB2; have hT2 := below_to hT1 hY; have y0 := x0.later hY; have y2 := x2.later hY; have T := Lib.hid (And.intro t1 t2); clear t1 t2; have y1 := x1.later hY; obtain ⟨g0, g1, g2, g3, g4, g5, gf, gl⟩ := y0.six; obtain ⟨h0, h1, h2, hf, hl⟩ := y1.three; have k0 := cell_later hY d0; have k1 := cell_later hY d1; have k2 := cell_later hY d2; have k3 := cell_later hY d3; have y3 := (Box.mk_ w1 (b := w1.heap.size) (cs := [.string ⟨#[]⟩, .string ⟨#[]⟩, .int .i64 0, .slice none 0 0]) (t := 80) rfl rfl).drew.later hB2; obtain ⟨i0, i1, i2, i3, iff, il⟩ := y3.four; have na : ¬ w1.heap.size = w.heap.size := (by omega); have nb : ¬ w1.heap.size = w.heap.size + 1 := (by omega); have nc : ¬ w1.heap.size = b := (by have := hT1.size; omega)))
    · obtain ⟨w3, hw3⟩ : ∃ w3, w3 = w2.alloc (.cells #[.string r1.name, .string r1.comb, .int .i64 r1.req, .slice E2 r1.meths.length l2] 80) := ⟨_, rfl⟩
      have hX3 : Below w2.heap.size w2 w3 := hw3 ▸ below_one _ _
      have hT3 := below_to hT2 hX3
      have v0 := y0.later hX3
      have v2 := y2.later hX3
      have v3 : Box w3 w2.heap.size 80 [.string r1.name, .string r1.comb, .int .i64 r1.req, .slice E2 r1.meths.length l2] := hw3 ▸ Box.mk_ _ rfl rfl
      have hg3 : rGen.K w3 r1 [.string r1.name, .string r1.comb, .int .i64 r1.req, .slice E2 r1.meths.length l2] := ⟨_, rfl, K_below T.out.1 hX3, T.out.2⟩
      rw [← hw3]
      have HW3 := Lib.hid hw3
      obtain ⟨a0, a1, a2, a3, a4, a5, af, al⟩ := v0.six
      obtain ⟨e0, e1, e2, e3, ef, el⟩ := v3.four
      clear hw3 g0 g1 g2 g3 g4 g5 gf gl h0 h1 h2 hf hl p0 p1 p2 p3 p4 p5 pf pl q0 q1 q2 qf ql d0 d1 d2 d3 k0 k1 k2 k3
      go_wp2_with (first
        | (go_at_call 33; refine (HC.out _ hT3 _ _ _ hg3).mono ?_; rintro e w4 ⟨cs4, rfl, ⟨zg, zc, rfl, z1, z2, z3⟩, hB4⟩; obtain ⟨Z1, n3, rfl⟩ := slice_form z1; obtain ⟨Z2, n4, rfl⟩ := slice_form z2; have u2 := v2.later hB4; obtain ⟨o0, o1, o2, o3, o4, o5, of_, ol⟩ := u2.six; rw [← HZ.out] at *)
        | go_in)
      refine bodyPost_ret (v := .tuple #[.agg #[.slice Z1 z.1.gens.length n3, .int .i64 z.1.hits, .int .i64 z.1.misses, .slice Z2 z.1.caches.length n4, .int .i64 z.1.most, .int .i64 z.1.clock], .int .i64 z.2]) ?_ rfl ?_
      · simp [results, Tryz.results11, go_sem, o0, o1, o2, o3, o4, o5]
      · refine ⟨[.slice Z1 z.1.gens.length n3, .int .i64 z.1.hits, .int .i64 z.1.misses, .slice Z2 z.1.caches.length n4, .int .i64 z.1.most, .int .i64 z.1.clock], ?_, ?_, ?_⟩
        · rfl
        · refine ⟨_, _, rfl, ?_, ?_, z3⟩
          · have := K_put (d := sGen) rfl [.slice Z1 z.1.gens.length n3, .int .i64 z.1.hits, .int .i64 z.1.misses, .slice Z2 z.1.caches.length n4, .int .i64 z.1.most, .int .i64 z.1.clock] 0 z1 u2
            exact this
          · have := K_put (d := sMap) rfl [.slice Z1 z.1.gens.length n3, .int .i64 z.1.hits, .int .i64 z.1.misses, .slice Z2 z.1.caches.length n4, .int .i64 z.1.most, .int .i64 z.1.clock] 0 z2 u2
            exact this
        · have := below_put (b := w.heap.size + 1 + 1) (by omega) [.slice Z1 z.1.gens.length n3, .int .i64 z.1.hits, .int .i64 z.1.misses, .slice Z2 z.1.caches.length n4, .int .i64 z.1.most, .int .i64 z.1.clock] 0 (below_to hT3 hB4)
          exact this
    · obtain ⟨w3, hw3⟩ : ∃ w3, w3 = (((w2.setCell ⟨w1.heap.size, 0, none⟩ (.string r1.name)).setCell ⟨w1.heap.size, 1, none⟩ (.string r1.comb)).setCell ⟨w1.heap.size, 2, none⟩ (.int .i64 r1.req)).setCell ⟨w1.heap.size, 3, none⟩ (.slice E2 r1.meths.length l2) := ⟨_, rfl⟩
      have hT3 : Below w.heap.size w w3 := (by rw [hw3]; exact below_put (b := w1.heap.size) hT1.size [.string r1.name, .string r1.comb, .int .i64 r1.req, .slice E2 r1.meths.length l2] 0 hT2)
      have v0 : Box w3 w.heap.size 28 [.slice (some ⟨b, off, none⟩) s.gens.length kk0, .int .i64 s.hits, .int .i64 s.misses, .slice B0 s.caches.length m0, .int .i64 s.most, .int .i64 s.clock] := (by rw [hw3]; exact Box.put_other (b := w1.heap.size) (by omega) [.string r1.name, .string r1.comb, .int .i64 r1.req, .slice E2 r1.meths.length l2] 0 y0)
      have v2 : Box w3 (w.heap.size + 1 + 1) 28 [.slice none 0 0, .int .i64 0, .int .i64 0, .slice none 0 0, .int .i64 0, .int .i64 0] := (by rw [hw3]; exact Box.put_other (b := w1.heap.size) (by have := x2.lt; omega) [.string r1.name, .string r1.comb, .int .i64 r1.req, .slice E2 r1.meths.length l2] 0 y2)
      have v3 : Box w3 w1.heap.size 80 [.string r1.name, .string r1.comb, .int .i64 r1.req, .slice E2 r1.meths.length l2] := (by rw [hw3]; exact (((y3.set 0 (.string r1.name)).set 1 (.string r1.comb)).set 2 (.int .i64 r1.req)).set 3 (.slice E2 r1.meths.length l2))
      have hg3 : rGen.K w3 r1 [.string r1.name, .string r1.comb, .int .i64 r1.req, .slice E2 r1.meths.length l2] := ⟨_, rfl, (by rw [hw3]; exact K_put (d := sMeth) rfl [.string r1.name, .string r1.comb, .int .i64 r1.req, .slice E2 r1.meths.length l2] 0 T.out.1 y3), T.out.2⟩
      rw [← hw3]
      have HW3 := Lib.hid hw3
      obtain ⟨a0, a1, a2, a3, a4, a5, af, al⟩ := v0.six
      obtain ⟨e0, e1, e2, e3, ef, el⟩ := v3.four
      clear hw3 g0 g1 g2 g3 g4 g5 gf gl h0 h1 h2 hf hl p0 p1 p2 p3 p4 p5 pf pl q0 q1 q2 qf ql d0 d1 d2 d3 k0 k1 k2 k3
      go_wp2_with (first
        | (go_at_call 33; refine (HC.out _ hT3 _ _ _ hg3).mono ?_; rintro e w4 ⟨cs4, rfl, ⟨zg, zc, rfl, z1, z2, z3⟩, hB4⟩; obtain ⟨Z1, n3, rfl⟩ := slice_form z1; obtain ⟨Z2, n4, rfl⟩ := slice_form z2; have u2 := v2.later hB4; obtain ⟨o0, o1, o2, o3, o4, o5, of_, ol⟩ := u2.six; rw [← HZ.out] at *)
        | go_in)
      refine bodyPost_ret (v := .tuple #[.agg #[.slice Z1 z.1.gens.length n3, .int .i64 z.1.hits, .int .i64 z.1.misses, .slice Z2 z.1.caches.length n4, .int .i64 z.1.most, .int .i64 z.1.clock], .int .i64 z.2]) ?_ rfl ?_
      · simp [results, Tryz.results11, go_sem, o0, o1, o2, o3, o4, o5]
      · refine ⟨[.slice Z1 z.1.gens.length n3, .int .i64 z.1.hits, .int .i64 z.1.misses, .slice Z2 z.1.caches.length n4, .int .i64 z.1.most, .int .i64 z.1.clock], ?_, ?_, ?_⟩
        · rfl
        · refine ⟨_, _, rfl, ?_, ?_, z3⟩
          · have := K_put (d := sGen) rfl [.slice Z1 z.1.gens.length n3, .int .i64 z.1.hits, .int .i64 z.1.misses, .slice Z2 z.1.caches.length n4, .int .i64 z.1.most, .int .i64 z.1.clock] 0 z1 u2
            exact this
          · have := K_put (d := sMap) rfl [.slice Z1 z.1.gens.length n3, .int .i64 z.1.hits, .int .i64 z.1.misses, .slice Z2 z.1.caches.length n4, .int .i64 z.1.most, .int .i64 z.1.clock] 0 z2 u2
            exact this
        · have := below_put (b := w.heap.size + 1 + 1) (by omega) [.slice Z1 z.1.gens.length n3, .int .i64 z.1.hits, .int .i64 z.1.misses, .slice Z2 z.1.caches.length n4, .int .i64 z.1.most, .int .i64 z.1.clock] 0 (below_to hT3 hB4)
          exact this
  · rw [show inSt s i = false from by unfold inSt; simp; omega] at HI
    unfold addMethodS
    rw [dif_neg hi]
    obtain ⟨sg, sc, rfl, h1, h2, h3⟩ := h
    obtain ⟨A0, k0, rfl⟩ := slice_form h1
    obtain ⟨B0, m0, rfl⟩ := slice_form h2
    obtain ⟨mq, ms, rfl, m1, m2, m3⟩ := hm
    obtain ⟨D1, n1, rfl⟩ := slice_form m1
    obtain ⟨D2, n2, rfl⟩ := slice_form m2
    rw [rSt_val] at HI ⊢
    rw [rMeth_val]
    clear h1 h2 h3 m1 m2 m3 hi hok hbm
    go_enter Tryz.func11, Tryz.ntmps11
    go_wp2_with (go_at_call 31; refine (HI.out _ (below_more (below_more (below_one _ _) _) _)).mono ?_; rintro e w1 ⟨rfl, hB1⟩; have b2 := (Box.mk_ ((w.alloc _).alloc _) (b := w.heap.size + 1 + 1) (by simp) rfl).later hB1; obtain ⟨p0, p1, p2, p3, p4, p5, pf, pl⟩ := b2.six)
    refine bodyPost_ret (v := .tuple #[.agg #[.slice none 0 0, .int .i64 0, .int .i64 0, .slice none 0 0, .int .i64 0, .int .i64 0], .int .i64 5]) ?_ rfl ?_
    · simp [results, Tryz.results11, go_sem, p0, p1, p2, p3, p4, p5]
    · refine ⟨[.slice none 0 0, .int .i64 0, .int .i64 0, .slice none 0 0, .int .i64 0, .int .i64 0], ?_, ?_, ?_⟩
      · rfl
      · exact emptySt_K _
      · have := below_put (b := w.heap.size + 1 + 1) (by omega) [.slice none 0 0, .int .i64 0, .int .i64 0, .slice none 0 0, .int .i64 0, .int .i64 0] 0 (below_to (below_more (below_more (below_one _ _) _) _) hB1)
        exact this
end Go.Proofs.YtoncaejgflfhhaaGreatDoor
