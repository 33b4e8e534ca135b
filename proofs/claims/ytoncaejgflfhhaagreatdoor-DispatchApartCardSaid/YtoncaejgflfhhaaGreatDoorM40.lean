/- awake: its plain law. -/
import Derived.Test.YtoncaejgflfhhaaGreatDoorM33
import Derived.Test.YtoncaejgflfhhaaGreatDoorM35
import Derived.Test.YtoncaejgflfhhaaGreatDoorM37
import Derived.Test.YtoncaejgflfhhaaGreatDoorM39
set_option linter.unusedVariables false
set_option linter.unusedSimpArgs false
namespace Go.Proofs.YtoncaejgflfhhaaGreatDoor
open Go.RowKit

deriving instance DecidableEq for St
/-- kd is the key of an entry that is not younger than any other. -/
def oldB (kd : Key) (l : List (Key × Ent)) : Bool := l.any fun p => decide (p.1 = kd) && l.all fun q => decide (p.2.used ≤ q.2.used)
def candK (l : List (Key × Ent)) : List Key := if l = [] then [[]] else (l.map (·.1)).filter (oldB · l)
theorem find_pin {s : St} {c : CS} {n : Nat} {g : Gen} {args : List Arg} {kd : Key} {l : List (Key × Ent)} (hl : l = fresh (stampS c) ((copiedS s).caches.getD n [])) (h : Oldest kd l) (hs : s.caches = (copiedS s).caches) :
    ∃ kd' ∈ candK l, findS s c n g args kd = findS s c n g args kd' := by
  by_cases he : l = []
  · refine ⟨[], by rw [candK, if_pos he]; exact List.mem_singleton.2 rfl, ?_⟩
    have hf : fresh (stampS c) (s.caches.getD n []) = [] := by rw [hs, ← hl, he]
    have hk : ∀ (k1 : Key) (x : Ent) (hit : Bool), cacheS s.most (stampS c) k1 kd x hit ((copiedS s).caches.getD n []) = cacheS s.most (stampS c) k1 [] x hit ((copiedS s).caches.getD n []) := by
      intro k1 x hit
      unfold cacheS
      rw [← hl, he]
      simp
    unfold findS
    split
    · exact congrArg (·, _) (congrArg (fun z => ({ { tickS s with hits := s.hits + 1 } with caches := (copiedS s).caches.set n z } : St)) (hk _ _ _))
    · split
      · exact congrArg (·, _) (congrArg (fun z => ({ { tickS s with misses := s.misses + 1 } with caches := (copiedS s).caches.set n z } : St)) (hk _ _ _))
      · rfl
  · obtain ⟨x, h1, h2⟩ := h he
    refine ⟨kd, ?_, rfl⟩
    rw [candK, if_neg he]
    refine List.mem_filter.2 ⟨List.mem_map.2 ⟨(kd, x), h1, rfl⟩, ?_⟩
    refine List.any_eq_true.2 ⟨(kd, x), h1, ?_⟩
    simp
    intro a b hab
    exact h2 (a, b) hab
def argN (n : Int) : Arg := ⟨n, ⟨#[]⟩⟩
def mF : Meth := ⟨[], [⟨false, 0, ⟨#[]⟩⟩], 7⟩
def nF : ByteArray := ⟨#[70]⟩
def gF : Gen := ⟨nF, sStd, 1, [mF]⟩
def planF : Plan := ⟨[], [], [7], [], ⟨#[]⟩⟩
def aS0 : St := (ensureS (newS 2) nF sStd 1).1
def awN : List Int := [16, 16, 9, 2, 16]
def kdOf (s : St) (n : Nat) : Key := (candK (fresh (stampS newCS) ((copiedS s).caches.getD n []))).headD []
def awStep (s : St) (n : Int) : St := (findS s newCS 0 gF [argN n] (kdOf s 0)).1
def awS (k : Nat) : St := (awN.take k).foldl awStep (addMethodS aS0 0 mF).1
theorem aw0 : ensureS (newS 2) nF sStd 1 = (aS0, 0, 0) ∧ addMethodS aS0 0 mF = (awS 0, 0) ∧ aS0.gens = [⟨nF, sStd, 1, []⟩] ∧ awS 0 = ⟨[gF], 0, 0, [[]], 2, 0⟩ := by decide +kernel
theorem awPin : ∀ k ∈ List.range 5, ∀ kd ∈ candK (fresh (stampS newCS) ((copiedS (awS k)).caches.getD 0 [])), findS (awS k) newCS 0 gF [argN (awN.getD k 0)] kd = (awS (k + 1), planF, 0) := by decide +kernel
theorem awGen : ∀ k ∈ List.range 6, (awS k).gens = [gF] ∧ (awS k).caches = (copiedS (awS k)).caches ∧ (awS k).caches.length = 1 ∧ (0 ≤ (awS k).hits ∧ (awS k).hits ≤ 1000000 ∧ 0 ≤ (awS k).misses ∧ (awS k).misses ≤ 1000000 ∧ 0 ≤ (awS k).clock ∧ (awS k).clock ≤ 1000000) ∧ ((copiedS (awS k)).caches.getD 0 []).all (fun p => decide (p.2.plan = planF) && decide (0 ≤ p.2.used)) = true := by decide +kernel
theorem awEnd : (awS 5).misses = 4 ∧ (awS 5).hits = 1 ∧ entriesS (awS 5) 0 = 2 := by decide +kernel
theorem planF_ok : okPlan planF := ⟨by decide, by decide, by decide, by decide⟩
theorem newCS_ok : okCS newCS := ⟨by decide +kernel, by decide +kernel⟩
theorem awOk {k : Nat} (hk : k < 6) (n : Int) : okFind (awS k) newCS 0 gF [argN n] := by
  obtain ⟨h1, h2, h3, h4, h5⟩ := awGen k (List.mem_range.2 hk)
  refine ⟨⟨?_, ?_, ?_⟩, newCS_ok, ?_, by decide, by simp, ?_, h4, ?_, by decide⟩
  · rw [h1]; decide
  · rw [h3]; decide
  · rw [h1]
    intro g hg
    rw [List.mem_singleton.1 hg]
    exact ⟨by intro x hx; rw [List.mem_singleton.1 hx]; exact ⟨by decide, by decide⟩, by decide⟩
  · rw [h1]; rfl
  · intro m hm
    rw [List.mem_singleton.1 hm]
    decide
  · intro p hp
    rw [h2] at hp
    have := List.all_eq_true.1 h5 p hp
    simp at this
    rw [this.1]
    exact ⟨planF_ok, this.2⟩
theorem awStepOk {k : Nat} (hk : k < 5) {kd : Key} (h : Oldest kd (fresh (stampS newCS) ((copiedS (awS k)).caches.getD 0 []))) : findS (awS k) newCS 0 gF [argN (awN.getD k 0)] kd = (awS (k + 1), planF, 0) := by
  obtain ⟨kd', h1, h2⟩ := find_pin (g := gF) (args := [argN (awN.getD k 0)]) rfl h (awGen k (List.mem_range.2 (by omega))).2.1
  rw [h2]
  exact awPin k (List.mem_range.2 hk) kd' h1
theorem showF : showS planF = ⟨#[112, 114, 105, 109, 97, 114, 121, 32, 55]⟩ := by decide +kernel
end Go.Proofs.YtoncaejgflfhhaaGreatDoor
