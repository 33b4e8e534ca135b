/- maps.DeleteFunc with Find's question: the walk. | maps.DeleteFunc of a nil map; oldest's question. -/
import Derived.Test.YtoncaejgflfhhaaGreatDoorM25
set_option linter.unusedVariables false
set_option linter.unusedSimpArgs false
namespace Go.Proofs.YtoncaejgflfhhaaGreatDoor
open Go.RowKit

def zeroCells : List Value := [.int .i64 0, .bool false, .string ⟨#[]⟩, .int .i64 0, .bool false, .string ⟨#[]⟩, .int .i64 0, .bool false, .string ⟨#[]⟩, .int .i64 0, .bool false, .string ⟨#[]⟩, .int .i64 0, .bool false, .string ⟨#[]⟩, .int .i64 0, .bool false, .string ⟨#[]⟩, .int .i64 0, .bool false, .string ⟨#[]⟩, .int .i64 0, .bool false, .string ⟨#[]⟩]
theorem MapIs.nodup {κ β : Type} {kv : κ → Value} {ok : κ → Prop} {d : Rp β} {P : Program} {k : TypeId} (K : Keys P k kv ok) {w : World} {b : Nat} {l : List (κ × β)} : MapIs kv ok d w b l → (l.map (·.1)).Nodup
  | ⟨_, _, _, h2, h3⟩ => h2.nodup K h3.2.2

theorem keyCells_one : ∀ k : Key, ∀ u ∈ keyCells k, u.oneCell' = true
  | [], u, h => by simp [keyCells] at h
  | p :: r, u, h => by
    simp only [keyCells, List.mem_cons] at h
    rcases h with rfl | rfl | rfl | h
    · rfl
    · rfl
    · rfl
    · exact keyCells_one r u h
theorem grown0 {w w' : World} (hb : Below w.heap.size w w') : w.grownBy w' none := ⟨hb.os, hb.tape, hb.output, hb.size, fun k hk _ => hb.block k hk⟩
theorem cell_grown {w w' : World} {b nb : Nat} {v : Value} (hg : w.grownBy w' (some b)) (hl : nb < w.heap.size) (hne : nb ≠ b) (h : w.cell? ⟨nb, 0, none⟩ = some v) : w'.cell? ⟨nb, 0, none⟩ = some v := by
  rw [World.cell?_of_block (w := w) (w' := w') (a := ⟨nb, 0, none⟩) (hg.block nb hl (by simpa using hne))]
  exact h

set_option maxHeartbeats 2000000 in
set_option maxRecDepth 100000 in
theorem deleteFunc41 (l : List (Key × Ent)) (b nb : Nat) (now : Int) (w : World) (hM : CacheIs w b l) (hn : w.cell? ⟨nb, 0, none⟩ = some (.int .i64 now)) :
    Calls Tryz.prog 41 #[.map (some b), .func (.func 42) #[] #[.pointer (some ⟨nb, 0, none⟩)]] w fun e w' => e = .returned (.tuple #[]) ∧ CacheIs w' b (fresh now l) ∧ w.grownBy w' (some b) ∧ ∀ E : Nat → Bool, E 1000 = false → Same E w w' := by
  have he := enters42
  unfold Enters at he
  have hnd := hM.nodup keysKey
  have hbl := hM.lt
  have hnb : nb ≠ b := by
    rintro rfl
    obtain ⟨es, clock, h1, _⟩ := hM
    simp [World.cell?, h1] at hn
  have hnbl := World.block_lt_of_cell? w _ hn
  have HND := Lib.hid (And.intro hnd (And.intro hM hn))
  clear hnd
  go_enter Tryz.func41, Tryz.ntmps41
  go_wp2_with (first
    | (at_range; refine wp_map_range _ rfl _ 119 rfl Tryz.underlying119 rfl hM ?_; rintro w0 hrg0 ⟨o0, hw0, _⟩; have hg0 : w.grownBy w0 (some b) := (by rw [hw0]; exact World.grownBy_alloc w _ _); clear hw0)
    | go_in)
  go_loopw [8] (fun _ wr => ∃ rest : List (Key × Ent), Ranging keyVal okKey rEnt wr w.heap.size b (toGo (fun p => !(p.2.stamp != now)) l rest) rest ∧ rest.Sublist l ∧ w.grownBy wr (some b))
    (fun _ wr => wr.rangeLeft b w.heap.size)
  case atStart => exact ⟨l, by rw [toGo_all]; exact hrg0, List.Sublist.refl _, hg0⟩
  case round =>
    obtain ⟨rest, hrg, hsub, hg⟩ := hrel
    have hncell : wr.cell? ⟨nb, 0, none⟩ = some (.int .i64 now) := by
      rw [World.cell?_of_block (w := w) (w' := wr) (a := ⟨nb, 0, none⟩) (hg.block nb hnbl (by simpa using hnb))]
      exact HND.out.2.2
    go_wp2_with (first
      | (at_next; refine wp_map_next _ rfl _ rfl rfl hrg rfl ?_ ?_)
      | go_in)
    · rintro rfl
      go_wp2
      go_end0
      obtain ⟨es, clock, h1, _⟩ := HND.out.2.1
      rw [toGo_none] at hrg
      exact ⟨rfl, hrg.map, hg, fun E hE => Same.grown hg h1 hE⟩
    · intro i x y cs w1 hi hok hK hrg1 hg1 hs1 hz1 hen
      have hc1 := Chg.of_iter hrg hg1 hs1 hz1
      have hgT1 := hg.andThen hg1 (fun j hj => .inl (by cases hj; exact Nat.le_refl _))
      have hl24 : (keyCells x).length = 24 := by rw [keyCells_length, hok.1]
      obtain ⟨c0, c1, c2, c3, rfl, hK0, hK1, hK2, hK3⟩ := entK_form hK
      obtain ⟨A0, k0, rfl⟩ := slice_form hK0
      obtain ⟨A1, k1, rfl⟩ := slice_form hK1
      obtain ⟨A2, k2, rfl⟩ := slice_form hK2
      obtain ⟨A3, k3, rfl⟩ := slice_form hK3
      rw [rEnt_val] at hen ⊢
      obtain ⟨kc, hkc⟩ : ∃ kc, kc = (keyCells x).toArray := ⟨_, rfl⟩
      have hkv : keyVal x = .agg kc := by rw [hkc]; rfl
      rw [hkv] at hen ⊢
      have hkl : kc.toList.length = 24 := by rw [hkc]; exact hl24
      have hks : (Tryz.prog.info? 114).map (·.size) = some kc.toList.length := by rw [hkl]; exact siz114
      have hk1 : ∀ u ∈ kc.toList, u.oneCell' = true := by
        rw [hkc]
        exact keyCells_one x
      have hE1 : ∀ u ∈ [Value.slice A0 y.plan.ar.length k0, .slice A1 y.plan.be.length k1, .slice A2 y.plan.pr.length k2, .slice A3 y.plan.af.length k3, .string y.plan.op, .int .i64 y.stamp, .int .i64 y.used], u.oneCell' = true := by simp [Value.oneCell']
      have hncell1 := cell_grown hgT1 hnbl hnb HND.out.2.2
      have HZ := Lib.hid (And.intro hz1 (And.intro hkv (And.intro hi (And.intro hok hc1))))
      have HK := Lib.hid hK
      have hlt1 := hrg1.lt
      clear hz1 hkc hK hK0 hK1 hK2 hK3 hc1 hncell hg1 hi hok
      have z1 : Box ((w1.alloc (.cells zeroCells.toArray 114)).alloc (.cells #[.slice none 0 0, .slice none 0 0, .slice none 0 0, .slice none 0 0, .string ⟨#[]⟩, .int .i64 0, .int .i64 0] 117)) w1.heap.size 114 zeroCells := (Box.mk_ _ rfl rfl).alloc _
      have z2 : Box ((w1.alloc (.cells zeroCells.toArray 114)).alloc (.cells #[.slice none 0 0, .slice none 0 0, .slice none 0 0, .slice none 0 0, .string ⟨#[]⟩, .int .i64 0, .int .i64 0] 117)) (w1.heap.size + 1) 117 [.slice none 0 0, .slice none 0 0, .slice none 0 0, .slice none 0 0, .string ⟨#[]⟩, .int .i64 0, .int .i64 0] := Box.mk_ _ (by simp) rfl
      have hX := below_more (below_one w1 (.cells zeroCells.toArray 114)) (.cells #[.slice none 0 0, .slice none 0 0, .slice none 0 0, .slice none 0 0, .string ⟨#[]⟩, .int .i64 0, .int .i64 0] 117)
      have hX0 := below_more (below_one w1 (.cells zeroCells.toArray 114)) (.cells #[.slice none 0 0, .slice none 0 0, .slice none 0 0, .slice none 0 0, .string ⟨#[]⟩, .int .i64 0, .int .i64 0] 117)
      have HQ := Lib.hid (fun w' (hb : Below w1.heap.size w1 w') (_ : w.grownBy w1 (some b)) => by have := stale42 x y [.slice A0 y.plan.ar.length k0, .slice A1 y.plan.be.length k1, .slice A2 y.plan.pr.length k2, .slice A3 y.plan.af.length k3, .string y.plan.op, .int .i64 y.stamp, .int .i64 y.used] nb now w' (K_below HK.out hb) (cell_later hb hncell1); rw [HZ.out.2.1] at this; exact this)
      cases hst : (y.stamp != now) with
      | true =>
       rw [hst] at HQ
       go_wp2_with (first
        | (refine wp_box_store rfl 114 _ _ rfl (us := kc.toList) rfl rfl z1 hks hkl.symm hk1 ?_; intro w2 y1 hc2; have y2 := hc2.box_ty z2 (by decide); have hX2 := hc2.below hX (Nat.le_refl _))
        | (refine wp_box_store rfl 117 _ _ rfl (us := [.slice A0 y.plan.ar.length k0, .slice A1 y.plan.be.length k1, .slice A2 y.plan.pr.length k2, .slice A3 y.plan.af.length k3, .string y.plan.op, .int .i64 y.stamp, .int .i64 y.used]) rfl rfl y2 siz117 rfl hE1 ?_; intro w3 x2 hc3; have x1 := hc3.box_ty y1 (by decide); have hX3 := hc3.below hX2 (by omega))
        | (refine wp_box_load rfl 114 _ rfl rfl x1 Tryz.underlying114 rfl hks ?_)
        | (refine wp_box_load rfl 114 _ rfl rfl u1 Tryz.underlying114 rfl hks ?_)
        | (refine wp_box_load rfl 117 _ rfl rfl x2 Tryz.underlying117 rfl siz117 ?_)
        | (refine (HQ.out _ hX3 hgT1).mono ?_; rintro e w4 ⟨rfl, hB4⟩; have hX4 := below_to hX3 hB4; have hg4 := hgT1.andThen (grown0 hX4) (fun j hj => by cases hj); have u1 := x1.later hB4; have hrg4 := (hc3.ranging (hc2.ranging (hrg1.below hX0) (by decide) (by decide) rfl) (by decide) (by decide) rfl).below hB4)
        | (at_delete; refine wp_range_drop _ rfl _ _ 119 114 rfl keysKey Tryz.underlying119 rfl rfl hrg4 (X := x) HZ.out.2.1.symm HZ.out.2.2.2.1 ?_; intro w5 hrg5 hg5 hs5 hz5)
        | go_in)
       have hir := HZ.out.2.2.1
       have hnr : (rest.map (·.1)).Nodup := (hsub.map _).nodup HND.out.1
       have hlt : i < rest.length := (List.getElem?_eq_some_iff.1 hir).1
       have hml : (x, y) ∈ l := hsub.subset (List.mem_of_getElem? hir)
       rw [toGo_drop (keep := fun p => !(p.2.stamp != now)) HND.out.1 hnr hml hir (by simp [hst]), adel_erase hnr hir] at hrg5
       go_frame
       go_roundw
       case rel => exact ⟨rest.eraseIdx i, hrg5, (List.eraseIdx_sublist rest i).trans hsub, hg4.andThen hg5 (fun j hj => .inr (by cases hj; rfl))⟩
       case measure => rw [hrg5.left, hrg.left, List.length_eraseIdx_of_lt hlt]; omega
      | false =>
       rw [hst] at HQ
       go_wp2_with (first
        | (refine wp_box_store rfl 114 _ _ rfl (us := kc.toList) rfl rfl z1 hks hkl.symm hk1 ?_; intro w2 y1 hc2; have y2 := hc2.box_ty z2 (by decide); have hX2 := hc2.below hX (Nat.le_refl _))
        | (refine wp_box_store rfl 117 _ _ rfl (us := [.slice A0 y.plan.ar.length k0, .slice A1 y.plan.be.length k1, .slice A2 y.plan.pr.length k2, .slice A3 y.plan.af.length k3, .string y.plan.op, .int .i64 y.stamp, .int .i64 y.used]) rfl rfl y2 siz117 rfl hE1 ?_; intro w3 x2 hc3; have x1 := hc3.box_ty y1 (by decide); have hX3 := hc3.below hX2 (by omega))
        | (refine wp_box_load rfl 114 _ rfl rfl x1 Tryz.underlying114 rfl hks ?_)
        | (refine wp_box_load rfl 114 _ rfl rfl u1 Tryz.underlying114 rfl hks ?_)
        | (refine wp_box_load rfl 117 _ rfl rfl x2 Tryz.underlying117 rfl siz117 ?_)
        | (refine (HQ.out _ hX3 hgT1).mono ?_; rintro e w4 ⟨rfl, hB4⟩; have hX4 := below_to hX3 hB4; have hg4 := hgT1.andThen (grown0 hX4) (fun j hj => by cases hj); have u1 := x1.later hB4; have hrg4 := (hc3.ranging (hc2.ranging (hrg1.below hX0) (by decide) (by decide) rfl) (by decide) (by decide) rfl).below hB4)
        | (at_delete; refine wp_range_drop _ rfl _ _ 119 114 rfl keysKey Tryz.underlying119 rfl rfl hrg4 (X := x) HZ.out.2.1.symm HZ.out.2.2.2.1 ?_; intro w5 hrg5 hg5 hs5 hz5)
        | go_in)
       have hir := HZ.out.2.2.1
       have hnr : (rest.map (·.1)).Nodup := (hsub.map _).nodup HND.out.1
       have hlt : i < rest.length := (List.getElem?_eq_some_iff.1 hir).1
       have hml : (x, y) ∈ l := hsub.subset (List.mem_of_getElem? hir)
       rw [toGo_keep (keep := fun p => !(p.2.stamp != now)) HND.out.1 hnr hml hir (by simp [hst])] at hrg4
       go_roundw
       case rel => exact ⟨rest.eraseIdx i, hrg4, (List.eraseIdx_sublist rest i).trans hsub, hg4⟩
       case measure => rw [hrg4.left, hrg.left, List.length_eraseIdx_of_lt hlt]; omega
end Go.Proofs.YtoncaejgflfhhaaGreatDoor
namespace Go.Proofs.YtoncaejgflfhhaaGreatDoor
open Go.RowKit

theorem deleteFunc41_nil (f : Value) (w : World) : Calls Tryz.prog 41 #[.map none, f] w fun e w' => e = .returned (.tuple #[]) ∧ Below w.heap.size w w' := by
  have hrg := run_range_nilMap (P := Tryz.prog) w 119 _ _ Tryz.underlying119
  have hnx : ∀ ty, (Instr.next (.pointer (some ⟨w.heap.size, 0, none⟩)) false ty).run Tryz.prog (w.alloc (.mapIter none 0 #[] 0)) = _ := fun ty => run_next_nilMap w ty 0 0 #[]
  go_enter Tryz.func41, Tryz.ntmps41
  go_wp2
  refine wp_loop_rounds 1 ?_
  rw [rounds_succ]
  go_wp2
  go_end0
  exact ⟨rfl, below_one _ _⟩

/-- oldest's question: is n less than the least so far? -/
theorem older88 (b : Nat) (n least : Int) (w : World) (hb : w.cell? ⟨b, 0, none⟩ = some (.int .i64 least)) :
    Calls Tryz.prog 88 #[.int .i64 n, .pointer (some ⟨b, 0, none⟩)] w (RV (.bool (decide (least < 0) || decide (n < least))) w) := by
  by_cases h : least < 0
  · have h' : (decide (least < 0) || decide (n < least)) = true := by simp [h]
    rw [h']
    clear h'
    go_enter Tryz.func88, Tryz.ntmps88
    go_wp2
    go_ret
    exact ⟨rfl, Below.refl _ _⟩
  · have h' : (decide (least < 0) || decide (n < least)) = decide (n < least) := by simp [h]
    rw [h']
    clear h'
    go_enter Tryz.func88, Tryz.ntmps88
    go_wp2
    go_ret
    exact ⟨rfl, Below.refl _ _⟩
end Go.Proofs.YtoncaejgflfhhaaGreatDoor
