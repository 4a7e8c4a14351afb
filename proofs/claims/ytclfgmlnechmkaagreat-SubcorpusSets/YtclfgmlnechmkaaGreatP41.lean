/-
  Part 41 of 43 of the proof of SubcorpusSetsSaid, by an abstract machine that stands in for the Go program: lemmas without conditions of their own.
-/
import Derived.Test.YtclfgmlnechmkaaGreatP13
import Derived.Test.YtclfgmlnechmkaaGreatP40
set_option linter.unusedSimpArgs false
set_option linter.unusedVariables false
namespace Go.VS.Fn
open Go.VS
variable {T : Nat → Option FnDef}

theorem sp_eq : sp = spV := rfl
theorem cmpS_ge (p q : Int × Int) : (Go.Proofs.ltOf cmpS p q = true) ↔ ltS p q := by
  simp only [Go.Proofs.ltOf, decide_eq_true_eq, cmpS, cmpI, ltS]
  by_cases h1 : p.1 < q.1
  · simp [h1]
  · by_cases h2 : q.1 < p.1
    · simp [h1, h2]; omega
    · have h3 : p.1 = q.1 := by omega
      by_cases h4 : p.2 < q.2
      · simp [h3, h4]
      · by_cases h5 : q.2 < p.2 <;> simp [h3, h4, h5]
theorem cmpS_false (p q : Int × Int) : (Go.Proofs.ltOf cmpS p q = false) ↔ ¬ ltS p q := by
  rw [← cmpS_ge]; simp
theorem cmpS_swo : Go.Sort.SWO (Go.Proofs.ltOf cmpS) where
  irrefl x := by rw [cmpS_false]; simp only [ltS]; omega
  trans x y z := by rw [cmpS_ge, cmpS_ge, cmpS_ge]; simp only [ltS]; omega
  ntrans x y z := by rw [cmpS_false, cmpS_false, cmpS_false]; simp only [ltS]; omega
theorem cmpS_one (x y : Int × Int) (h1 : Go.Proofs.ltOf cmpS x y = false) (h2 : Go.Proofs.ltOf cmpS y x = false) : x = y := by
  rw [cmpS_false] at h1 h2
  apply Prod.ext <;> (simp only [ltS] at h1 h2; omega)
theorem sortBy_sorted (ps : List (Int × Int)) : (sortBy cmpS ps).Pairwise leS := by
  have := List.pairwise_mergeSort (le := fun x y => !(Go.Proofs.ltOf cmpS) y x) (by
    intro a b c h1 h2
    simp only [Bool.not_eq_true', cmpS_false, ltS] at h1 h2 ⊢
    omega) (by
    intro a b
    simp only [Bool.or_eq_true, Bool.not_eq_true', cmpS_false, ltS]
    omega) ps
  refine List.Pairwise.imp ?_ this
  intro a b h
  simp only [Bool.not_eq_true', cmpS_false, ltS] at h
  simp only [leS]
  omega

theorem sortOk (h : T 44 = some (.prim (sortP 29 cmpS))) : SortOk T := by
  intro S0 s v xs hpf
  rcases hpf.row with ⟨rfl, rfl⟩ | ⟨r, rfl, h1, h2, h3, h4⟩
  · exact .prim h (v := V.undef) (s' := s) rfl ⟨[], .refl _, .nil, hpf, Nat.le_refl _⟩
  · refine .prim h (v := V.undef) (s' := s.set r (.row ((sortBy cmpS xs).map spV))) ?_ ⟨sortBy cmpS xs, List.mergeSort_perm _ _, sortBy_sorted xs, ⟨.inr ⟨r, ?_, h1, h2, ?_, ?_⟩, ?_⟩, Nat.le_refl _⟩
    · simp only [sortP, and_self, if_true, h3, sp_eq, asSps_map]
      rw [if_pos ⟨trivial, by omega⟩]
    · simp [sortBy]
    · rw [mem_set_at rfl]; rfl
    · simpa [sortBy] using h4
    · exact St.Le.set_ hpf.le h2
end Go.VS.Fn
