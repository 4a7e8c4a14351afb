/-
  Part 13 of 43 of the proof of SubcorpusSetsSaid, by an abstract machine that stands in for the Go program: lemmas without conditions of their own.
-/
import Derived.Test.YtclfgmlnechmkaaGreatP12
import Derived.Test.YtclfgmlnechmkaaGreatP11
set_option linter.unusedSimpArgs false
set_option linter.unusedVariables false
namespace Go.VS.Fn
open Go.VS
variable {T : Nat → Option FnDef}

abbrev leS (p q : Int × Int) : Prop := p.1 < q.1 ∨ (p.1 = q.1 ∧ p.2 ≤ q.2)
abbrev ltS (p q : Int × Int) : Prop := p.1 < q.1 ∨ (p.1 = q.1 ∧ p.2 < q.2)
theorem dd_sorted (l : List (Int × Int)) (h : l.Pairwise leS) : (dd l).Pairwise ltS ∧ ∀ x, (dd l).getLast? = some x → ∀ y ∈ dd l, leS y x := by
  induction l using snoc_ind with
  | h0 => exact ⟨List.Pairwise.nil, fun x h => by simp [dd] at h⟩
  | h1 l x ih =>
    rw [List.pairwise_append] at h
    obtain ⟨i1, i2⟩ := ih h.1
    rw [dd_snoc]
    by_cases hx : (dd l).getLast? = some x
    · rw [if_pos hx]; exact ⟨i1, i2⟩
    · rw [if_neg hx]
      have hle : ∀ y ∈ dd l, leS y x := fun y hy => h.2.2 y ((dd_mem l y).1 hy) x (by simp)
      refine ⟨?_, fun x' hx' y hy => ?_⟩
      · rw [List.pairwise_append]
        refine ⟨i1, by simp, fun y hy z hz => ?_⟩
        rw [List.mem_singleton.1 hz]
        have h1 := hle y hy
        by_cases hyx : y = x
        · subst hyx
          exfalso
          cases hlast : (dd l).getLast? with
          | none => rw [List.getLast?_eq_none_iff] at hlast; rw [hlast] at hy; cases hy
          | some z =>
            have h2 := i2 z hlast y hy
            have h3 := hle z (List.mem_of_getLast? hlast)
            have : z = y := by apply Prod.ext <;> (simp only [leS] at h2 h3; omega)
            subst this
            exact hx hlast
        · simp only [leS, ltS] at h1 ⊢
          by_cases e1 : y.1 = x.1
          · have : y.2 ≠ x.2 := fun e2 => hyx (Prod.ext e1 e2)
            omega
          · omega
      · simp at hx'
        subst hx'
        rcases List.mem_append.1 hy with h1 | h1
        · exact hle y h1
        · rw [List.mem_singleton.1 h1]; exact .inr ⟨rfl, Int.le_refl _⟩
/-- Ascending lists of the same spans are one. -/
theorem ext_lt {xs ys : List (Int × Int)} (hx : xs.Pairwise ltS) (hy : ys.Pairwise ltS) (h : ∀ p, p ∈ xs ↔ p ∈ ys) : xs = ys := by
  induction xs generalizing ys with
  | nil =>
    cases ys with
    | nil => rfl
    | cons y r => exact absurd ((h y).2 (by simp)) (by simp)
  | cons x xs ih =>
    cases ys with
    | nil => exact absurd ((h x).1 (by simp)) (by simp)
    | cons y ys =>
      rw [List.pairwise_cons] at hx hy
      have hxy : x = y := by
        rcases List.mem_cons.1 ((h x).1 (by simp)) with h1 | h1
        · exact h1
        · rcases List.mem_cons.1 ((h y).2 (by simp)) with h2 | h2
          · exact h2.symm
          · have a := hy.1 x h1
            have b := hx.1 y h2
            simp only [ltS] at a b
            omega
      subst hxy
      rw [ih hx.2 hy.2 fun p => ?_]
      refine ⟨fun hp => ?_, fun hp => ?_⟩
      · rcases List.mem_cons.1 ((h p).1 (by simp [hp])) with h1 | h1
        · subst h1
          have := hx.1 p hp
          simp only [ltS] at this; omega
        · exact h1
      · rcases List.mem_cons.1 ((h p).2 (by simp [hp])) with h1 | h1
        · subst h1
          have := hy.1 p hp
          simp only [ltS] at this; omega
        · exact h1

/-- A row, whole. -/
structure PF (S0 s : St) (v : V) (xs : List (Int × Int)) : Prop where
  row : (v = .nilsl ∧ xs = []) ∨ ∃ r, v = .row r 2 0 xs.length ∧ r < s.next ∧ S0.next ≤ r ∧ s.mem r = some (.row (xs.map sp)) ∧ xs.length ≤ 100000
  le : St.Le S0 s
theorem PF.pr {S0 s : St} {v : V} {xs : List (Int × Int)} (h : PF S0 s v xs) : PR S0 s v xs := by
  refine ⟨?_, h.le⟩
  rcases h.row with h1 | ⟨r, h1, h2, h3, h4, h5⟩
  · exact .inl h1
  · exact .inr ⟨r, [], h1, h2, h3, by rw [List.append_nil]; exact h4, by rw [List.append_nil]; exact h5⟩
/-- slices.SortFunc of spans by subcorpus.compare. -/
def SortOk (T : Nat → Option FnDef) : Prop := ∀ (S0 s : St) (v : V) (xs : List (Int × Int)), PF S0 s v xs → D T (.call 44 [v, .fn 29 [] []] s (fun _ s' => ∃ ys, ys.Perm xs ∧ ys.Pairwise leS ∧ PF S0 s' v ys ∧ s.next ≤ s'.next))

theorem sorted_spec (S : HS T) (hs : SortOk T) (v : V) (ls : List (V × List (Int × Int))) (s : St) (hv : IsL v (ls.map (·.1))) (hls : ∀ p ∈ ls, IsL p.1 (p.2.map sp)) (hn : (ls.flatMap (·.2)).length ≤ 100000) (hl : ls.length ≤ 1000) : D T (.call 26 [v] s (fun v s' => ∃ zs, PR s s' v zs ∧ zs.Pairwise ltS ∧ (∀ p, p ∈ zs ↔ ∃ l ∈ ls, p ∈ l.2) ∧ zs.length ≤ (ls.flatMap (·.2)).length)) := by
  refine C.fn S.h26 rfl ?_
  unfold v26
  dsimp only
  have hfm : ((ls.map fun l => (l.1, l.2.map sp)).flatMap (·.2)) = (ls.flatMap (·.2)).map sp := by
    rw [List.flatMap_map, List.map_flatMap]
  have hc : ∀ s, D T (.call 43 [v] s (fun u s' => PF s s' u (ls.flatMap (·.2)))) := fun s => by
    refine (concat_len S.h43 S.h103 (ls.map fun l => (l.1, l.2.map sp)) v s (by rw [List.map_map]; exact hv) ?_ (by rw [hfm, List.length_map]; omega) (by simpa using hl) ?_).mono_call ?_
    · intro p hp
      obtain ⟨l, hl, rfl⟩ := List.mem_map.1 hp
      exact hls l hl
    · intro p hp
      obtain ⟨l, hl, rfl⟩ := List.mem_map.1 hp
      exact wOk_of fun x hx => by obtain ⟨q, _, rfl⟩ := List.mem_map.1 hx; rfl
    · rintro u s' ⟨h1, h2, h3⟩
      rw [hfm] at h1
      refine ⟨?_, h2⟩
      rcases h1 with ⟨rfl, he⟩ | ⟨r, rfl, h4, h5⟩
      · exact .inl ⟨rfl, List.map_eq_nil_iff.1 he⟩
      · refine .inr ⟨r, by rw [List.length_map], h4, h3 _ _ _ _ rfl, h5, hn⟩
  (repeat' (first | (refine NXt ?_; try intro K hK) | (refine hK _ _ ?_; clear hK; clear K; try refine PX ?_) | ((first | refine GC_case_t (fun hr => ?_) (fun hr => ?_) | refine GC_case_f (fun hr => ?_) (fun hr => ?_)) <;> (have h := hr; (try simp only [RH, reduceCtorEq] at h); simp (disch := first|exact DB|fail) only [hr, RB, ↓reduceIte, Nat.reduceEqDiff, reduceCtorEq, Nat.reduceLeDiff, Nat.reduceAdd, Int.reduceToNat, Nat.reduceLT]; clear hr) <;> (try (exfalso; omega))) | (refine X_callc rfl ?_; simp (disch := first|exact DB|fail) only [List.nil_append, List.append_nil, RB, ↓reduceIte, Nat.reduceEqDiff, reduceCtorEq, Nat.reduceLeDiff, Nat.reduceAdd, Int.reduceToNat, Nat.reduceLT]; refine D.mono_call (hc _) ?_; rintro v s' hpf; (try simp only [NB] at hδ); refine ⟨by first | exact CK | (simp only [RC, Chk.ok, V.ent]; simp (disch := first|exact DB|fail) only [RT, RB, ↓reduceIte, Nat.reduceEqDiff, reduceCtorEq, Nat.reduceLeDiff, Nat.reduceAdd, Int.reduceToNat, Nat.reduceLT]), ?_⟩; try refine SBb ?_) | (show D _ (J.ops _ _ _ _); refine SBb ?_) | (refine T_app ?_; try refine SBb ?_) | (refine T_fork ?_ ?_) | (simp only [T_nil]) | (refine TS (fun h => ?_) (fun h => ?_) (hc := HCb) <;> (try simp only [RH, reduceCtorEq] at h) <;> (try (exfalso; omega))) | (show retR _ _ _ _ _; simp (disch := first|exact DB|fail) only [RR, RB, ↓reduceIte, Nat.reduceEqDiff, reduceCtorEq, Nat.reduceLeDiff, Nat.reduceAdd, Int.reduceToNat, Nat.reduceLT]) | exact rfl))
  (repeat' (first | (refine NXt ?_; try intro K hK) | (refine hK _ _ ?_; clear hK; clear K; try refine PX ?_) | ((first | refine GC_case_t (fun hr => ?_) (fun hr => ?_) | refine GC_case_f (fun hr => ?_) (fun hr => ?_)) <;> (have h := hr; (try simp only [RH, reduceCtorEq] at h); simp (disch := first|exact DB|fail) only [hr, RB, ↓reduceIte, Nat.reduceEqDiff, reduceCtorEq, Nat.reduceLeDiff, Nat.reduceAdd, Int.reduceToNat, Nat.reduceLT]; clear hr) <;> (try (exfalso; omega))) | (refine X_callc rfl ?_; simp (disch := first|exact DB|fail) only [List.nil_append, List.append_nil, RB, ↓reduceIte, Nat.reduceEqDiff, reduceCtorEq, Nat.reduceLeDiff, Nat.reduceAdd, Int.reduceToNat, Nat.reduceLT]; refine D.mono_call (hs _ _ _ _ hpf) ?_; rintro v s' ⟨ys, hperm, hsort, hpf2, hnx⟩; (try simp only [NB] at hδ); refine ⟨by first | exact CK | (simp only [RC, Chk.ok, V.ent]; simp (disch := first|exact DB|fail) only [RT, RB, ↓reduceIte, Nat.reduceEqDiff, reduceCtorEq, Nat.reduceLeDiff, Nat.reduceAdd, Int.reduceToNat, Nat.reduceLT]), ?_⟩; try refine SBb ?_) | (refine X_callc rfl ?_; simp (disch := first|exact DB|fail) only [List.nil_append, List.append_nil, RB, ↓reduceIte, Nat.reduceEqDiff, reduceCtorEq, Nat.reduceLeDiff, Nat.reduceAdd, Int.reduceToNat, Nat.reduceLT]; refine D.mono_call (Compact_spec S _ _ _ hpf2.pr) ?_; rintro v s' ⟨hpr, hnx2⟩; (try simp only [NB] at hδ); refine ⟨by first | exact CK | (simp only [RC, Chk.ok, V.ent]; simp (disch := first|exact DB|fail) only [RT, RB, ↓reduceIte, Nat.reduceEqDiff, reduceCtorEq, Nat.reduceLeDiff, Nat.reduceAdd, Int.reduceToNat, Nat.reduceLT]), ?_⟩; try refine SBb ?_) | (show D _ (J.ops _ _ _ _); refine SBb ?_) | (refine T_app ?_; try refine SBb ?_) | (refine T_fork ?_ ?_) | (simp only [T_nil]) | (refine TS (fun h => ?_) (fun h => ?_) (hc := HCb) <;> (try simp only [RH, reduceCtorEq] at h) <;> (try (exfalso; omega))) | (show retR _ _ _ _ _; simp (disch := first|exact DB|fail) only [RR, RB, ↓reduceIte, Nat.reduceEqDiff, reduceCtorEq, Nat.reduceLeDiff, Nat.reduceAdd, Int.reduceToNat, Nat.reduceLT]) | exact rfl))
  refine ⟨dd ys, hpr, (dd_sorted ys hsort).1, fun p => ?_, by rw [← hperm.length_eq]; exact dd_len ys⟩
  rw [dd_mem, hperm.mem_iff, List.mem_flatMap]

/-- A slice with just the spans of which P holds, ascending, each once. -/
def SetIs (v : V) (P : Int × Int → Prop) (n : Nat) : Prop := ∃ zs : List (Int × Int), IsL v (zs.map sp) ∧ zs.Pairwise ltS ∧ (∀ p, p ∈ zs ↔ P p) ∧ zs.length ≤ n
theorem PR.frz {S0 s : St} {v : V} {zs : List (Int × Int)} (h : PR S0 s v zs) : ∃ v' s', freezeV v s = some (v', s') ∧ IsL v' (zs.map sp) ∧ St.Le S0 s' := by
  rcases h.row with ⟨rfl, rfl⟩ | ⟨r, ys, rfl, hr, hr0, hm, hlm⟩
  · exact ⟨.nilsl, s, rfl, .nil, h.le⟩
  · refine ⟨.sl s.next 0 0 ((((zs ++ ys).map sp).drop 0).take zs.length), (s.kill r).new (.tip 0 ((((zs ++ ys).map sp).drop 0).take zs.length).length 2), ?_, ?_, St.Le.new_ (St.Le.kill_ h.le hr0)⟩
    · rw [freeze_row, hm]
      simp
    · rw [List.drop_zero, List.map_append, List.take_append_of_le_length (by simp), List.take_of_length_le (by simp)]
      exact .sl

theorem Unite_spec (S : HS T) (hs : SortOk T) (va vb : V) (xs ys : List (Int × Int)) (ha : IsL va (xs.map sp)) (hb : IsL vb (ys.map sp)) (hn : xs.length + ys.length ≤ 100000) (s : St) : D T (.call 8 [va, vb] s (fun v s' => SetIs v (fun p => p ∈ xs ∨ p ∈ ys) (xs.length + ys.length) ∧ St.Gr s s')) := by
  refine C.fn S.h8 rfl ?_
  unfold v8
  dsimp only
  (repeat' (first | (refine NXt ?_; try intro K hK) | (refine hK _ _ ?_; clear hK; clear K; try refine PX ?_) | ((first | refine GC_case_t (fun hr => ?_) (fun hr => ?_) | refine GC_case_f (fun hr => ?_) (fun hr => ?_)) <;> (have h := hr; (try simp only [RH, reduceCtorEq] at h); simp (disch := first|exact DB|fail) only [hr, RB, ↓reduceIte, Nat.reduceEqDiff, reduceCtorEq, Nat.reduceLeDiff, Nat.reduceAdd, Int.reduceToNat, Nat.reduceLT, ha.cells1, hb.cells1, ha.notTup, hb.notTup, Nat.reduceLT]; clear hr) <;> (try (exfalso; omega))) | (refine X_callc rfl ?_; simp (disch := first|exact DB|fail) only [List.nil_append, List.append_nil, RB, ↓reduceIte, Nat.reduceEqDiff, reduceCtorEq, Nat.reduceLeDiff, Nat.reduceAdd, Int.reduceToNat, Nat.reduceLT, ha.cells1, hb.cells1, ha.notTup, hb.notTup, Nat.reduceLT]; refine D.mono_call (sorted_spec S hs _ [(va, xs), (vb, ys)] _ (.inr ⟨_, _, _, rfl⟩) (by simp [ha, hb]) (by simpa using hn) (by simp)) ?_; rintro v s' ⟨zs, hpr, hzs, hmem, hzl⟩; (try simp only [NB] at hδ); refine ⟨by first | exact CK | (simp only [RC, Chk.ok, V.ent]; simp (disch := first|exact DB|fail) only [RT, RB, ↓reduceIte, Nat.reduceEqDiff, reduceCtorEq, Nat.reduceLeDiff, Nat.reduceAdd, Int.reduceToNat, Nat.reduceLT, ha.cells1, hb.cells1, ha.notTup, hb.notTup, Nat.reduceLT]), ?_⟩; try simp (disch := first|exact DB|fail) only [RB, ↓reduceIte, Nat.reduceEqDiff, reduceCtorEq, Nat.reduceLeDiff, Nat.reduceAdd, Int.reduceToNat, Nat.reduceLT, ha.cells1, hb.cells1, ha.notTup, hb.notTup, Nat.reduceLT]) | (show D _ (J.ops _ _ _ _); simp (disch := first|exact DB|fail) only [RB, ↓reduceIte, Nat.reduceEqDiff, reduceCtorEq, Nat.reduceLeDiff, Nat.reduceAdd, Int.reduceToNat, Nat.reduceLT, ha.cells1, hb.cells1, ha.notTup, hb.notTup, Nat.reduceLT]) | (refine T_app ?_; try simp (disch := first|exact DB|fail) only [RB, ↓reduceIte, Nat.reduceEqDiff, reduceCtorEq, Nat.reduceLeDiff, Nat.reduceAdd, Int.reduceToNat, Nat.reduceLT, ha.cells1, hb.cells1, ha.notTup, hb.notTup, Nat.reduceLT]) | (refine T_fork ?_ ?_) | (simp only [T_nil]) | (refine TS (fun h => ?_) (fun h => ?_) (hc := by (simp (disch := first|exact DB|fail) only [RB, ↓reduceIte, Nat.reduceEqDiff, reduceCtorEq, Nat.reduceLeDiff, Nat.reduceAdd, Int.reduceToNat, Nat.reduceLT, ha.cells1, hb.cells1, ha.notTup, hb.notTup, Nat.reduceLT]) <;> rfl) <;> (try simp only [RH, reduceCtorEq] at h) <;> (try (exfalso; omega))) | (show retR _ _ _ _ _; simp (disch := first|exact DB|fail) only [RR, RB, ↓reduceIte, Nat.reduceEqDiff, reduceCtorEq, Nat.reduceLeDiff, Nat.reduceAdd, Int.reduceToNat, Nat.reduceLT, ha.cells1, hb.cells1, ha.notTup, hb.notTup, Nat.reduceLT]) | exact rfl))
  obtain ⟨v', s2, e, hi, hl⟩ := hpr.frz
  ((have E := e; first | exact SXb | refine SEb ?_) <;> (try clear E))
  (repeat' (first | (refine NXt ?_; try intro K hK) | (refine hK _ _ ?_; clear hK; clear K; try refine PX ?_) | ((first | refine GC_case_t (fun hr => ?_) (fun hr => ?_) | refine GC_case_f (fun hr => ?_) (fun hr => ?_)) <;> (have h := hr; (try simp only [RH, reduceCtorEq] at h); simp (disch := first|exact DB|fail) only [hr, RB, ↓reduceIte, Nat.reduceEqDiff, reduceCtorEq, Nat.reduceLeDiff, Nat.reduceAdd, Int.reduceToNat, Nat.reduceLT]; clear hr) <;> (try (exfalso; omega))) | (show D _ (J.ops _ _ _ _); refine SBb ?_) | (refine T_app ?_; try refine SBb ?_) | (refine T_fork ?_ ?_) | (simp only [T_nil]) | (refine TS (fun h => ?_) (fun h => ?_) (hc := HCb) <;> (try simp only [RH, reduceCtorEq] at h) <;> (try (exfalso; omega))) | (show retR _ _ _ _ _; simp (disch := first|exact DB|fail) only [RR, RB, ↓reduceIte, Nat.reduceEqDiff, reduceCtorEq, Nat.reduceLeDiff, Nat.reduceAdd, Int.reduceToNat, Nat.reduceLT]) | exact rfl))
  exact ⟨⟨zs, hi, hzs, fun p => by rw [hmem]; simp, by simpa using hzl⟩, by (exact LEb)⟩

theorem keep_spec (S : HS T) (hs : SortOk T) (va f : V) (xs : List (Int × Int)) (P : Int × Int → Bool) (ha : IsL va (xs.map sp)) (hn : xs.length ≤ 100000) (s : St) (hf : FnS T s f P) (hfc : f.cells = [f] ∧ f.notTup = true) : D T (.call 24 [va, f] s (fun v s' => SetIs v (fun p => p ∈ xs ∧ P p = true) xs.length ∧ St.Gr s s')) := by
  refine C.fn S.h24 rfl ?_
  unfold v24
  dsimp only
  (repeat' (first | (refine NXt ?_; try intro K hK) | (refine hK _ _ ?_; clear hK; clear K; try refine PX ?_) | ((first | refine GC_case_t (fun hr => ?_) (fun hr => ?_) | refine GC_case_f (fun hr => ?_) (fun hr => ?_)) <;> (have h := hr; (try simp only [RH, reduceCtorEq] at h); simp (disch := first|exact DB|fail) only [hr, RB, ↓reduceIte, Nat.reduceEqDiff, reduceCtorEq, Nat.reduceLeDiff, Nat.reduceAdd, Int.reduceToNat, Nat.reduceLT, ha.cells1, ha.notTup, hfc.1, hfc.2, Nat.reduceLT]; clear hr) <;> (try (exfalso; omega))) | (refine X_callc rfl ?_; simp (disch := first|exact DB|fail) only [List.nil_append, List.append_nil, RB, ↓reduceIte, Nat.reduceEqDiff, reduceCtorEq, Nat.reduceLeDiff, Nat.reduceAdd, Int.reduceToNat, Nat.reduceLT, ha.cells1, ha.notTup, hfc.1, hfc.2, Nat.reduceLT]; refine D.mono_call (sorted_spec S hs _ [(va, xs)] _ (.inr ⟨_, _, _, rfl⟩) (by simp [ha]) (by simpa using hn) (by simp)) ?_; rintro v s' ⟨zs, hpr, hzs, hmem, hzl⟩; (try simp only [NB] at hδ); refine ⟨by first | exact CK | (simp only [RC, Chk.ok, V.ent]; simp (disch := first|exact DB|fail) only [RT, RB, ↓reduceIte, Nat.reduceEqDiff, reduceCtorEq, Nat.reduceLeDiff, Nat.reduceAdd, Int.reduceToNat, Nat.reduceLT, ha.cells1, ha.notTup, hfc.1, hfc.2, Nat.reduceLT]), ?_⟩; try simp (disch := first|exact DB|fail) only [RB, ↓reduceIte, Nat.reduceEqDiff, reduceCtorEq, Nat.reduceLeDiff, Nat.reduceAdd, Int.reduceToNat, Nat.reduceLT, ha.cells1, ha.notTup, hfc.1, hfc.2, Nat.reduceLT]) | (show D _ (J.ops _ _ _ _); simp (disch := first|exact DB|fail) only [RB, ↓reduceIte, Nat.reduceEqDiff, reduceCtorEq, Nat.reduceLeDiff, Nat.reduceAdd, Int.reduceToNat, Nat.reduceLT, ha.cells1, ha.notTup, hfc.1, hfc.2, Nat.reduceLT]) | (refine T_app ?_; try simp (disch := first|exact DB|fail) only [RB, ↓reduceIte, Nat.reduceEqDiff, reduceCtorEq, Nat.reduceLeDiff, Nat.reduceAdd, Int.reduceToNat, Nat.reduceLT, ha.cells1, ha.notTup, hfc.1, hfc.2, Nat.reduceLT]) | (refine T_fork ?_ ?_) | (simp only [T_nil]) | (refine TS (fun h => ?_) (fun h => ?_) (hc := by (simp (disch := first|exact DB|fail) only [RB, ↓reduceIte, Nat.reduceEqDiff, reduceCtorEq, Nat.reduceLeDiff, Nat.reduceAdd, Int.reduceToNat, Nat.reduceLT, ha.cells1, ha.notTup, hfc.1, hfc.2, Nat.reduceLT]) <;> rfl) <;> (try simp only [RH, reduceCtorEq] at h) <;> (try (exfalso; omega))) | (show retR _ _ _ _ _; simp (disch := first|exact DB|fail) only [RR, RB, ↓reduceIte, Nat.reduceEqDiff, reduceCtorEq, Nat.reduceLeDiff, Nat.reduceAdd, Int.reduceToNat, Nat.reduceLT, ha.cells1, ha.notTup, hfc.1, hfc.2, Nat.reduceLT]) | exact rfl))
  have hle := hpr.le
  have hF : FnS T ((s.new (.obj [f])).new (.tip 0 1 1)) (.fn 39 [] [.ptr s.next 0]) (fun p => !P p) := by
    refine ⟨39, [], [.ptr s.next 0], rfl, fun p s' hg => ?_⟩
    obtain ⟨δ, hδ, rfl⟩ := hg
    (try simp only [NB] at hδ)
    exact keep1_spec S f P p s.next _ (by ((first | exact SCb | refine SBb ?_)); omega) (by (first | exact SCb | refine SBb ?_)) (hf.mono (by (exact LEb)))
  (repeat' (first | (refine NXt ?_; try intro K hK) | (refine hK _ _ ?_; clear hK; clear K; try refine PX ?_) | ((first | refine GC_case_t (fun hr => ?_) (fun hr => ?_) | refine GC_case_f (fun hr => ?_) (fun hr => ?_)) <;> (have h := hr; (try simp only [RH, reduceCtorEq] at h); simp (disch := first|exact DB|fail) only [hr, RB, ↓reduceIte, Nat.reduceEqDiff, reduceCtorEq, Nat.reduceLeDiff, Nat.reduceAdd, Int.reduceToNat, Nat.reduceLT]; clear hr) <;> (try (exfalso; omega))) | (refine X_callc rfl ?_; simp (disch := first|exact DB|fail) only [List.nil_append, List.append_nil, RB, ↓reduceIte, Nat.reduceEqDiff, reduceCtorEq, Nat.reduceLeDiff, Nat.reduceAdd, Int.reduceToNat, Nat.reduceLT]; refine D.mono_call (DeleteFunc_spec S _ _ _ _ _ hpr hF) ?_; rintro v s' ⟨hpr2, hn2⟩; (try simp only [NB] at hδ); refine ⟨by first | exact CK | (simp only [RC, Chk.ok, V.ent]; simp (disch := first|exact DB|fail) only [RT, RB, ↓reduceIte, Nat.reduceEqDiff, reduceCtorEq, Nat.reduceLeDiff, Nat.reduceAdd, Int.reduceToNat, Nat.reduceLT]), ?_⟩; try refine SBb ?_) | (show D _ (J.ops _ _ _ _); refine SBb ?_) | (refine T_app ?_; try refine SBb ?_) | (refine T_fork ?_ ?_) | (simp only [T_nil]) | (refine TS (fun h => ?_) (fun h => ?_) (hc := HCb) <;> (try simp only [RH, reduceCtorEq] at h) <;> (try (exfalso; omega))) | (show retR _ _ _ _ _; simp (disch := first|exact DB|fail) only [RR, RB, ↓reduceIte, Nat.reduceEqDiff, reduceCtorEq, Nat.reduceLeDiff, Nat.reduceAdd, Int.reduceToNat, Nat.reduceLT]) | exact rfl))
  obtain ⟨v', s2, e, hi, hl⟩ := hpr2.frz
  ((have E := e; first | exact SXb | refine SEb ?_) <;> (try clear E))
  (repeat' (first | (refine NXt ?_; try intro K hK) | (refine hK _ _ ?_; clear hK; clear K; try refine PX ?_) | ((first | refine GC_case_t (fun hr => ?_) (fun hr => ?_) | refine GC_case_f (fun hr => ?_) (fun hr => ?_)) <;> (have h := hr; (try simp only [RH, reduceCtorEq] at h); simp (disch := first|exact DB|fail) only [hr, RB, ↓reduceIte, Nat.reduceEqDiff, reduceCtorEq, Nat.reduceLeDiff, Nat.reduceAdd, Int.reduceToNat, Nat.reduceLT]; clear hr) <;> (try (exfalso; omega))) | (show D _ (J.ops _ _ _ _); refine SBb ?_) | (refine T_app ?_; try refine SBb ?_) | (refine T_fork ?_ ?_) | (simp only [T_nil]) | (refine TS (fun h => ?_) (fun h => ?_) (hc := HCb) <;> (try simp only [RH, reduceCtorEq] at h) <;> (try (exfalso; omega))) | (show retR _ _ _ _ _; simp (disch := first|exact DB|fail) only [RR, RB, ↓reduceIte, Nat.reduceEqDiff, reduceCtorEq, Nat.reduceLeDiff, Nat.reduceAdd, Int.reduceToNat, Nat.reduceLT]) | exact rfl))
  exact ⟨⟨_, hi, hzs.filter _, fun p => by rw [List.mem_filter, hmem]; simp, Nat.le_trans (List.length_filter_le _ _) (by simpa using hzl)⟩, by (exact LEb)⟩

theorem Subtract_spec (S : HS T) (hs : SortOk T) (va vb : V) (xs ys : List (Int × Int)) (ha : IsL va (xs.map sp)) (hb : IsL vb (ys.map sp)) (hn : xs.length ≤ 100000) (hn2 : ys.length ≤ 100000) (s : St) : D T (.call 6 [va, vb] s (fun v s' => SetIs v (fun p => p ∈ xs ∧ p ∉ ys) xs.length ∧ St.Gr s s')) := by
  refine C.fn S.h6 rfl ?_
  unfold v6
  dsimp only
  have hF : FnS T (s.new (.obj [vb])) (.fn 23 [] [.ptr s.next 0]) (fun p => !decide (p ∈ ys)) := by
    refine ⟨23, [], [.ptr s.next 0], rfl, fun p s' hg => ?_⟩
    obtain ⟨δ, hδ, rfl⟩ := hg
    (try simp only [NB] at hδ)
    exact Subtract1_spec S vb ys hb hn2 p s.next _ (by ((first | exact SCb | refine SBb ?_)); omega) (by (first | exact SCb | refine SBb ?_))
  ((have E := And.intro hb.cells1 hb.notTup; (repeat' (first | (refine NXt ?_; try intro K hK) | (refine hK _ _ ?_; clear hK; clear K; try refine PX ?_) | ((first | refine GC_case_t (fun hr => ?_) (fun hr => ?_) | refine GC_case_f (fun hr => ?_) (fun hr => ?_)) <;> (have h := hr; (try simp only [RH, reduceCtorEq] at h); refine SHb ?_; clear hr) <;> (try (exfalso; omega))) | (refine X_callc rfl ?_; refine SNb ?_; refine D.mono_call (keep_spec S hs _ _ _ _ ha hn _ hF ⟨rfl, rfl⟩) ?_; rintro v s' ⟨⟨zs, hi, hzs, hmem, hlm⟩, δ, hδ, rfl⟩; (try simp only [NB] at hδ); refine ⟨by exact CEb, ?_⟩; try refine SEb ?_) | (show D _ (J.ops _ _ _ _); refine SEb ?_) | (refine T_app ?_; try refine SEb ?_) | (refine T_fork ?_ ?_) | (simp only [T_nil]) | (refine TS (fun h => ?_) (fun h => ?_) (hc := HEb) <;> (try simp only [RH, reduceCtorEq] at h) <;> (try (exfalso; omega))) | (show retR _ _ _ _ _; refine SRb ?_) | exact rfl))) <;> (try clear E))
  exact ⟨⟨zs, hi, hzs, fun p => by rw [hmem]; simp, hlm⟩, by (exact LEb)⟩
theorem Intersect_spec (S : HS T) (hs : SortOk T) (va vb : V) (xs ys : List (Int × Int)) (ha : IsL va (xs.map sp)) (hb : IsL vb (ys.map sp)) (hn : xs.length ≤ 100000) (hn2 : ys.length ≤ 100000) (s : St) : D T (.call 7 [va, vb] s (fun v s' => SetIs v (fun p => p ∈ xs ∧ p ∈ ys) xs.length ∧ St.Gr s s')) := by
  refine C.fn S.h7 rfl ?_
  unfold v7
  dsimp only
  have hF : FnS T (s.new (.obj [vb])) (.fn 25 [] [.ptr s.next 0]) (fun p => decide (p ∈ ys)) := by
    refine ⟨25, [], [.ptr s.next 0], rfl, fun p s' hg => ?_⟩
    obtain ⟨δ, hδ, rfl⟩ := hg
    (try simp only [NB] at hδ)
    exact Intersect1_spec S vb ys hb hn2 p s.next _ (by ((first | exact SCb | refine SBb ?_)); omega) (by (first | exact SCb | refine SBb ?_))
  ((have E := And.intro hb.cells1 hb.notTup; (repeat' (first | (refine NXt ?_; try intro K hK) | (refine hK _ _ ?_; clear hK; clear K; try refine PX ?_) | ((first | refine GC_case_t (fun hr => ?_) (fun hr => ?_) | refine GC_case_f (fun hr => ?_) (fun hr => ?_)) <;> (have h := hr; (try simp only [RH, reduceCtorEq] at h); refine SHb ?_; clear hr) <;> (try (exfalso; omega))) | (refine X_callc rfl ?_; refine SNb ?_; refine D.mono_call (keep_spec S hs _ _ _ _ ha hn _ hF ⟨rfl, rfl⟩) ?_; rintro v s' ⟨⟨zs, hi, hzs, hmem, hlm⟩, δ, hδ, rfl⟩; (try simp only [NB] at hδ); refine ⟨by exact CEb, ?_⟩; try refine SEb ?_) | (show D _ (J.ops _ _ _ _); refine SEb ?_) | (refine T_app ?_; try refine SEb ?_) | (refine T_fork ?_ ?_) | (simp only [T_nil]) | (refine TS (fun h => ?_) (fun h => ?_) (hc := HEb) <;> (try simp only [RH, reduceCtorEq] at h) <;> (try (exfalso; omega))) | (show retR _ _ _ _ _; refine SRb ?_) | exact rfl))) <;> (try clear E))
  exact ⟨⟨zs, hi, hzs, fun p => by rw [hmem]; simp, hlm⟩, by (exact LEb)⟩
theorem Inside_spec (S : HS T) (hs : SortOk T) (va vb : V) (xs ys : List (Int × Int)) (ha : IsL va (xs.map sp)) (hb : IsL vb (ys.map sp)) (hn : xs.length ≤ 100000) (hn2 : ys.length ≤ 100000) (s : St) : D T (.call 10 [va, vb] s (fun v s' => SetIs v (fun p => p ∈ xs ∧ ∃ q ∈ ys, q.1 ≤ p.1 ∧ p.2 ≤ q.2) xs.length ∧ St.Gr s s')) := by
  refine C.fn S.h10 rfl ?_
  unfold v10
  dsimp only
  have hF : FnS T (s.new (.obj [vb])) (.fn 27 [] [.ptr s.next 0]) (fun p => ys.any fun q => decide (q.1 ≤ p.1 ∧ p.2 ≤ q.2)) := by
    refine ⟨27, [], [.ptr s.next 0], rfl, fun p s' hg => ?_⟩
    obtain ⟨δ, hδ, rfl⟩ := hg
    (try simp only [NB] at hδ)
    exact Inside1_spec S vb ys hb hn2 p s.next _ (by ((first | exact SCb | refine SBb ?_)); omega) (by (first | exact SCb | refine SBb ?_))
  ((have E := And.intro hb.cells1 hb.notTup; (repeat' (first | (refine NXt ?_; try intro K hK) | (refine hK _ _ ?_; clear hK; clear K; try refine PX ?_) | ((first | refine GC_case_t (fun hr => ?_) (fun hr => ?_) | refine GC_case_f (fun hr => ?_) (fun hr => ?_)) <;> (have h := hr; (try simp only [RH, reduceCtorEq] at h); refine SHb ?_; clear hr) <;> (try (exfalso; omega))) | (refine X_callc rfl ?_; refine SNb ?_; refine D.mono_call (keep_spec S hs _ _ _ _ ha hn _ hF ⟨rfl, rfl⟩) ?_; rintro v s' ⟨⟨zs, hi, hzs, hmem, hlm⟩, δ, hδ, rfl⟩; (try simp only [NB] at hδ); refine ⟨by exact CEb, ?_⟩; try refine SEb ?_) | (show D _ (J.ops _ _ _ _); refine SEb ?_) | (refine T_app ?_; try refine SEb ?_) | (refine T_fork ?_ ?_) | (simp only [T_nil]) | (refine TS (fun h => ?_) (fun h => ?_) (hc := HEb) <;> (try simp only [RH, reduceCtorEq] at h) <;> (try (exfalso; omega))) | (show retR _ _ _ _ _; refine SRb ?_) | exact rfl))) <;> (try clear E))
  exact ⟨⟨zs, hi, hzs, fun p => by rw [hmem]; simp, hlm⟩, by (exact LEb)⟩
end Go.VS.Fn

namespace Go.VS.Fn
open Go.VS
variable {T : Nat → Option FnDef}

abbrev isUnit (x : V) : Prop := ∃ a b c d, x = .agg [.int .i32 a, .int .i64 b, .int .i64 c, .bool d]
theorem isUnit_cells {x : V} (h : isUnit x) : x.cells.length = 4 := by obtain ⟨a, b, c, d, rfl⟩ := h; rfl

theorem unit_set {L : List V} {k : Nat} {z : V} (h : ∀ y ∈ L, isUnit y) (hz : isUnit z) : ∀ y ∈ L.set k z, isUnit y := fun y hy => by
  rcases List.mem_or_eq_of_mem_set hy with h' | h'
  · exact h y h'
  · rw [h']; exact hz
theorem decode_step (s : ByteArray) (pos : Nat) : 1 ≤ (Utf8.decode s pos).2 := by
  simp only [Utf8.decode]
  repeat' split
  all_goals simp

theorem nxt_it {s : St} {m : Nat} : nxtV (.iter m) s = match s.mem m with
    | some (.siter l pos) => (if pos < l.length then some (.tup [.bool true, .int .i64 pos, .int .i32 (Utf8.decode (toB l) pos).1], s.set m (.siter l (pos + (Utf8.decode (toB l) pos).2))) else some (.tup [.bool false], s))
    | _ => none := by
  cases h : s.mem m with
  | none => simp only [nxtV, h]
  | some e => cases e <;> simp only [nxtV, h]

set_option maxHeartbeats 1000000 in
theorem Units_spec (h : T 100 = some (.body v100)) (l : List Nat) (hl : l.length ≤ 100000) (s : St) : D T (.call 100 [.str l] s (fun v s' => (∃ xs, IsL v xs ∧ xs.length ≤ 100000 ∧ ∀ x ∈ xs, isUnit x) ∧ St.Gr s s')) := by
  (refine C.fn (by assumption) rfl ?_)
  unfold v100
  dsimp only
  (repeat' (first | (refine NXa ?_; try intro K hK) | (refine hK _ _ ?_; clear hK; clear K; try refine PX ?_) | ((first | refine GC_case_t (fun hr => ?_) (fun hr => ?_) | refine GC_case_f (fun hr => ?_) (fun hr => ?_)) <;> (have h := hr; (try simp only [RH, reduceCtorEq] at h); simp (disch := first|exact DA|fail) only [hr, RA, ↓reduceIte, Nat.reduceEqDiff, reduceCtorEq, Nat.reduceLeDiff, Nat.reduceAdd]; clear hr) <;> (try (exfalso; omega))) | (show D _ (J.ops _ _ _ _); refine SBa ?_) | (refine TS (fun h => ?_) (fun h => ?_) (hc := HCa) <;> (try simp only [RH, reduceCtorEq] at h) <;> (try (exfalso; omega))) | (show retR _ _ _ _ _; simp (disch := first|exact DA|fail) only [RR, RA, ↓reduceIte, Nat.reduceEqDiff, reduceCtorEq, Nat.reduceLeDiff, Nat.reduceAdd]) | exact rfl))
  refine W.seq (W.bloop (fun n F s' => ∃ pos v ms, n = l.length - pos ∧ F 8 = .iter s.next ∧ s'.mem s.next = some (.siter l pos) ∧ F 3 = v ∧ MRow s' v 4 ms ∧ ms.length ≤ pos ∧ ms.length ≤ l.length ∧ (∀ y ∈ ms, isUnit y) ∧ (∀ i kk o n, v = .row i kk o n → s.next < i) ∧ St.Le s s' ∧ s.next < s'.next) l.length ?_ ?_)
  · exact ⟨0, .nilsl, [], by simp, IA, by (first | exact SCa | refine SBa ?_), IA, .inl ⟨rfl, rfl⟩, by simp, by simp, by simp, by simp, by (exact LEa), by (first | exact SCa | refine SBa ?_); omega⟩
  rintro n F s' hfr ⟨pos, u, ms, rfl, h8, hit, h3, hm, hml, hml2, hmP, hnew, hle, hlt⟩
  by_cases hp : pos < l.length
  · have hw := decode_step (toB l) pos
    generalize hdw : (Utf8.decode (toB l) pos).2 = dw at hw
    generalize hdr : (Utf8.decode (toB l) pos).1 = dr
    have hwk : ∀ L : List V, (∀ y ∈ L, isUnit y) → wOk 4 L = true := fun L hL => wOk_of fun x hx => isUnit_cells (hL x hx)
    rcases hm with ⟨rfl, rfl⟩ | ⟨i, rfl, hin, hmem⟩
    · (repeat' (first | (refine NXa ?_; try intro K hK) | (refine hK _ _ ?_; clear hK; clear K; try refine PX ?_) | ((first | refine GC_case_t (fun hr => ?_) (fun hr => ?_) | refine GC_case_f (fun hr => ?_) (fun hr => ?_)) <;> (have h := hr; (try simp only [RH, reduceCtorEq] at h); simp (disch := first|exact DA|fail) only [hr, RA, ↓reduceIte, Nat.reduceEqDiff, reduceCtorEq, Nat.reduceLeDiff, Nat.reduceAdd, hfr, h8, hit, nxt_it, hp, h3, hdw, hdr, Nat.zero_lt_one]; clear hr) <;> (try (exfalso; omega))) | (show D _ (J.ops _ _ _ _); simp (disch := first|exact DA|fail) only [RA, ↓reduceIte, Nat.reduceEqDiff, reduceCtorEq, Nat.reduceLeDiff, Nat.reduceAdd, hfr, h8, hit, nxt_it, hp, h3, hdw, hdr, Nat.zero_lt_one]) | (refine TS (fun h => ?_) (fun h => ?_) (hc := by (simp (disch := first|exact DA|fail) only [RA, ↓reduceIte, Nat.reduceEqDiff, reduceCtorEq, Nat.reduceLeDiff, Nat.reduceAdd, hfr, h8, hit, nxt_it, hp, h3, hdw, hdr, Nat.zero_lt_one]) <;> rfl) <;> (try simp only [RH, reduceCtorEq] at h) <;> (try (exfalso; omega))) | (show retR _ _ _ _ _; simp (disch := first|exact DA|fail) only [RR, RA, ↓reduceIte, Nat.reduceEqDiff, reduceCtorEq, Nat.reduceLeDiff, Nat.reduceAdd, hfr, h8, hit, nxt_it, hp, h3, hdw, hdr, Nat.zero_lt_one]) | exact rfl))
      refine X_appR (v := .nilsl) (xs := []) rfl rfl (.inl ⟨rfl, rfl⟩) rfl rfl rfl (by simp) (by omega) ?_
      intro v' δ' hδ' hm3 hv'
      (try simp only [NA] at hδ')
      generalize hwe : V.rid _ _ = w at hm3 hv' ⊢
      have hw1 : s.next < w := by simp only [V.rid, nx_new, nx_set] at hwe; omega
      have hnew' : ∀ i kk o n, v' = .row i kk o n → s.next < i := fun i kk o n e => by
        have := hv' i kk o n e
        simp only [nx_new, nx_set] at this
        omega
      (repeat' (first | (refine NXa ?_; try intro K hK) | (refine hK _ _ ?_; clear hK; clear K; try refine PX ?_) | ((first | refine GC_case_t (fun hr => ?_) (fun hr => ?_) | refine GC_case_f (fun hr => ?_) (fun hr => ?_)) <;> (have h := hr; (try simp only [RH, reduceCtorEq] at h); simp (disch := first|exact DA|fail) only [hr, RA, ↓reduceIte, Nat.reduceEqDiff, reduceCtorEq, Nat.reduceLeDiff, Nat.reduceAdd, hfr, h8]; clear hr) <;> (try (exfalso; omega))) | (show D _ (J.ops _ _ _ _); simp (disch := first|exact DA|fail) only [RA, ↓reduceIte, Nat.reduceEqDiff, reduceCtorEq, Nat.reduceLeDiff, Nat.reduceAdd, hfr, h8]) | (refine TS (fun h => ?_) (fun h => ?_) (hc := by (simp (disch := first|exact DA|fail) only [RA, ↓reduceIte, Nat.reduceEqDiff, reduceCtorEq, Nat.reduceLeDiff, Nat.reduceAdd, hfr, h8]) <;> rfl) <;> (try simp only [RH, reduceCtorEq] at h) <;> (try (exfalso; omega))) | (show retR _ _ _ _ _; simp (disch := first|exact DA|fail) only [RR, RA, ↓reduceIte, Nat.reduceEqDiff, reduceCtorEq, Nat.reduceLeDiff, Nat.reduceAdd, hfr, h8]) | exact rfl))
      refine ⟨l.length - (pos + dw), by omega, pos + dw, v', _, rfl, (by (simp (disch := first|exact DA|fail) only [RA, ↓reduceIte, Nat.reduceEqDiff, reduceCtorEq, Nat.reduceLeDiff, Nat.reduceAdd, h8, Int.natCast_add, Int.natCast_one, Int.natCast_succ]) <;> rfl), by (first | exact SCa | refine SBa ?_), IA, hm3, ?_, ?_, ?_, hnew', by (exact LEa), by (first | exact SCa | refine SBa ?_); omega⟩
      · simp; omega
      · simp; omega
      · intro y hy
        rcases List.mem_append.1 hy with hy | hy
        · cases hy
        · rw [List.mem_singleton.1 hy]; exact ⟨_, _, _, _, rfl⟩
    · have hi0 := hnew _ _ _ _ rfl
      rcases Nat.eq_zero_or_pos ms.length with hn0 | hn0
      · have hm0 := List.length_eq_zero_iff.1 hn0
        subst hm0
        (repeat' (first | (refine NXa ?_; try intro K hK) | (refine hK _ _ ?_; clear hK; clear K; try refine PX ?_) | ((first | refine GC_case_t (fun hr => ?_) (fun hr => ?_) | refine GC_case_f (fun hr => ?_) (fun hr => ?_)) <;> (have h := hr; (try simp only [RH, reduceCtorEq] at h); simp (disch := first|exact DA|fail) only [hr, RA, ↓reduceIte, Nat.reduceEqDiff, reduceCtorEq, Nat.reduceLeDiff, Nat.reduceAdd, hfr, h8, hit, nxt_it, hp, h3, hdw, hdr, Nat.zero_lt_one, hmem]; clear hr) <;> (try (exfalso; omega))) | (show D _ (J.ops _ _ _ _); simp (disch := first|exact DA|fail) only [RA, ↓reduceIte, Nat.reduceEqDiff, reduceCtorEq, Nat.reduceLeDiff, Nat.reduceAdd, hfr, h8, hit, nxt_it, hp, h3, hdw, hdr, Nat.zero_lt_one, hmem]) | (refine TS (fun h => ?_) (fun h => ?_) (hc := by (simp (disch := first|exact DA|fail) only [RA, ↓reduceIte, Nat.reduceEqDiff, reduceCtorEq, Nat.reduceLeDiff, Nat.reduceAdd, hfr, h8, hit, nxt_it, hp, h3, hdw, hdr, Nat.zero_lt_one, hmem]) <;> rfl) <;> (try simp only [RH, reduceCtorEq] at h) <;> (try (exfalso; omega))) | (show retR _ _ _ _ _; simp (disch := first|exact DA|fail) only [RR, RA, ↓reduceIte, Nat.reduceEqDiff, reduceCtorEq, Nat.reduceLeDiff, Nat.reduceAdd, hfr, h8, hit, nxt_it, hp, h3, hdw, hdr, Nat.zero_lt_one, hmem]) | exact rfl))
        refine X_appR (v := .row i 4 0 0) (xs := []) rfl rfl (.inr ⟨i, rfl, by simp only [nx_new, nx_set]; omega, by rw [mem_new_ne (by simp only [nx_set]; omega), mem_set_ne (by omega), hmem]⟩) rfl rfl rfl (by simp) (by omega) ?_
        intro v' δ' hδ' hm3 hv'
        (try simp only [NA] at hδ')
        generalize hwe : V.rid _ _ = w at hm3 hv' ⊢
        have hw1 : s.next < w := by simp only [V.rid, nx_new, nx_set] at hwe; omega
        have hnew' : ∀ i kk o n, v' = .row i kk o n → s.next < i := fun i kk o n e => by
          have := hv' i kk o n e
          simp only [nx_new, nx_set] at this
          omega
        (repeat' (first | (refine NXa ?_; try intro K hK) | (refine hK _ _ ?_; clear hK; clear K; try refine PX ?_) | ((first | refine GC_case_t (fun hr => ?_) (fun hr => ?_) | refine GC_case_f (fun hr => ?_) (fun hr => ?_)) <;> (have h := hr; (try simp only [RH, reduceCtorEq] at h); simp (disch := first|exact DA|fail) only [hr, RA, ↓reduceIte, Nat.reduceEqDiff, reduceCtorEq, Nat.reduceLeDiff, Nat.reduceAdd, hfr, h8]; clear hr) <;> (try (exfalso; omega))) | (show D _ (J.ops _ _ _ _); simp (disch := first|exact DA|fail) only [RA, ↓reduceIte, Nat.reduceEqDiff, reduceCtorEq, Nat.reduceLeDiff, Nat.reduceAdd, hfr, h8]) | (refine TS (fun h => ?_) (fun h => ?_) (hc := by (simp (disch := first|exact DA|fail) only [RA, ↓reduceIte, Nat.reduceEqDiff, reduceCtorEq, Nat.reduceLeDiff, Nat.reduceAdd, hfr, h8]) <;> rfl) <;> (try simp only [RH, reduceCtorEq] at h) <;> (try (exfalso; omega))) | (show retR _ _ _ _ _; simp (disch := first|exact DA|fail) only [RR, RA, ↓reduceIte, Nat.reduceEqDiff, reduceCtorEq, Nat.reduceLeDiff, Nat.reduceAdd, hfr, h8]) | exact rfl))
        refine ⟨l.length - (pos + dw), by omega, pos + dw, v', _, rfl, (by (simp (disch := first|exact DA|fail) only [RA, ↓reduceIte, Nat.reduceEqDiff, reduceCtorEq, Nat.reduceLeDiff, Nat.reduceAdd, h8, Int.natCast_add, Int.natCast_one, Int.natCast_succ]) <;> rfl), by (first | exact SCa | refine SBa ?_), IA, hm3, ?_, ?_, ?_, hnew', by (exact LEa), by (first | exact SCa | refine SBa ?_); omega⟩
        · simp; omega
        · simp; omega
        · intro y hy
          rcases List.mem_append.1 hy with hy | hy
          · cases hy
          · rw [List.mem_singleton.1 hy]; exact ⟨_, _, _, _, rfl⟩
      · have hun := hmP _ (List.getElem_mem (show ((ms.length : Int) - 1).toNat < ms.length by omega))
        obtain ⟨a2, b2, c2, d2, hx2⟩ := hun
        generalize hms : ms.set ((ms.length : Int) - 1).toNat (.agg [.int .i32 a2, .int .i64 b2, .int .i64 (IntKind.i64.wrap (pos - b2)), .bool d2]) = ms2
        have hl2 : ms2.length = ms.length := by rw [← hms, List.length_set]
        have hP2 : ∀ y ∈ ms2, isUnit y := fun y hy => by
          rw [← hms] at hy
          rcases List.mem_or_eq_of_mem_set hy with h | h
          · exact hmP y h
          · rw [h]; exact ⟨_, _, _, _, rfl⟩
        (repeat' (first | (refine NXa ?_; try intro K hK) | (refine hK _ _ ?_; clear hK; clear K; try refine PX ?_) | ((first | refine GC_case_t (fun hr => ?_) (fun hr => ?_) | refine GC_case_f (fun hr => ?_) (fun hr => ?_)) <;> (have h := hr; (try simp only [RH, reduceCtorEq] at h); simp (disch := first|exact DA|fail) only [hr, RA, ↓reduceIte, Nat.reduceEqDiff, reduceCtorEq, Nat.reduceLeDiff, Nat.reduceAdd, hfr, h8, hit, nxt_it, hp, h3, hdw, hdr, Nat.zero_lt_one, hmem, hx2, hms]; clear hr) <;> (try (exfalso; omega))) | (show D _ (J.ops _ _ _ _); simp (disch := first|exact DA|fail) only [RA, ↓reduceIte, Nat.reduceEqDiff, reduceCtorEq, Nat.reduceLeDiff, Nat.reduceAdd, hfr, h8, hit, nxt_it, hp, h3, hdw, hdr, Nat.zero_lt_one, hmem, hx2, hms]) | (refine TS (fun h => ?_) (fun h => ?_) (hc := by (simp (disch := first|exact DA|fail) only [RA, ↓reduceIte, Nat.reduceEqDiff, reduceCtorEq, Nat.reduceLeDiff, Nat.reduceAdd, hfr, h8, hit, nxt_it, hp, h3, hdw, hdr, Nat.zero_lt_one, hmem, hx2, hms]) <;> rfl) <;> (try simp only [RH, reduceCtorEq] at h) <;> (try (exfalso; omega))) | (show retR _ _ _ _ _; simp (disch := first|exact DA|fail) only [RR, RA, ↓reduceIte, Nat.reduceEqDiff, reduceCtorEq, Nat.reduceLeDiff, Nat.reduceAdd, hfr, h8, hit, nxt_it, hp, h3, hdw, hdr, Nat.zero_lt_one, hmem, hx2, hms]) | exact rfl))
        refine X_appR (v := .row i 4 0 ms.length) (xs := ms2) rfl rfl (.inr ⟨i, by rw [hl2], by simp only [nx_new, nx_set]; omega, by rw [mem_new_ne (by simp only [nx_set]; omega), mem_set_at rfl]⟩) rfl rfl rfl (by simp; omega) (by omega) ?_
        intro v' δ' hδ' hm3 hv'
        (try simp only [NA] at hδ')
        generalize hwe : V.rid _ _ = w at hm3 hv' ⊢
        have hw1 : s.next < w := by simp only [V.rid, nx_new, nx_set] at hwe; omega
        have hnew' : ∀ i kk o n, v' = .row i kk o n → s.next < i := fun i kk o n e => by
          have := hv' i kk o n e
          simp only [nx_new, nx_set] at this
          omega
        (repeat' (first | (refine NXa ?_; try intro K hK) | (refine hK _ _ ?_; clear hK; clear K; try refine PX ?_) | ((first | refine GC_case_t (fun hr => ?_) (fun hr => ?_) | refine GC_case_f (fun hr => ?_) (fun hr => ?_)) <;> (have h := hr; (try simp only [RH, reduceCtorEq] at h); simp (disch := first|exact DA|fail) only [hr, RA, ↓reduceIte, Nat.reduceEqDiff, reduceCtorEq, Nat.reduceLeDiff, Nat.reduceAdd, hfr, h8]; clear hr) <;> (try (exfalso; omega))) | (show D _ (J.ops _ _ _ _); simp (disch := first|exact DA|fail) only [RA, ↓reduceIte, Nat.reduceEqDiff, reduceCtorEq, Nat.reduceLeDiff, Nat.reduceAdd, hfr, h8]) | (refine TS (fun h => ?_) (fun h => ?_) (hc := by (simp (disch := first|exact DA|fail) only [RA, ↓reduceIte, Nat.reduceEqDiff, reduceCtorEq, Nat.reduceLeDiff, Nat.reduceAdd, hfr, h8]) <;> rfl) <;> (try simp only [RH, reduceCtorEq] at h) <;> (try (exfalso; omega))) | (show retR _ _ _ _ _; simp (disch := first|exact DA|fail) only [RR, RA, ↓reduceIte, Nat.reduceEqDiff, reduceCtorEq, Nat.reduceLeDiff, Nat.reduceAdd, hfr, h8]) | exact rfl))
        refine ⟨l.length - (pos + dw), by omega, pos + dw, v', _, rfl, (by (simp (disch := first|exact DA|fail) only [RA, ↓reduceIte, Nat.reduceEqDiff, reduceCtorEq, Nat.reduceLeDiff, Nat.reduceAdd, h8, Int.natCast_add, Int.natCast_one, Int.natCast_succ]) <;> rfl), by (first | exact SCa | refine SBa ?_), IA, hm3, ?_, ?_, ?_, hnew', by (exact LEa), by (first | exact SCa | refine SBa ?_); omega⟩
        · simp; omega
        · simp; omega
        · intro y hy
          rcases List.mem_append.1 hy with hy | hy
          · exact hP2 y hy
          · rw [List.mem_singleton.1 hy]; exact ⟨_, _, _, _, rfl⟩
  · rcases hm with ⟨rfl, rfl⟩ | ⟨i, rfl, hin, hmem⟩
    · (repeat' (first | (refine NXa ?_; try intro K hK) | (refine hK _ _ ?_; clear hK; clear K; try refine PX ?_) | ((first | refine GC_case_t (fun hr => ?_) (fun hr => ?_) | refine GC_case_f (fun hr => ?_) (fun hr => ?_)) <;> (have h := hr; (try simp only [RH, reduceCtorEq] at h); simp (disch := first|exact DA|fail) only [hr, RA, ↓reduceIte, Nat.reduceEqDiff, reduceCtorEq, Nat.reduceLeDiff, Nat.reduceAdd, hfr, h8, hit, nxt_it, hp, h3]; clear hr) <;> (try (exfalso; omega))) | (show D _ (J.ops _ _ _ _); simp (disch := first|exact DA|fail) only [RA, ↓reduceIte, Nat.reduceEqDiff, reduceCtorEq, Nat.reduceLeDiff, Nat.reduceAdd, hfr, h8, hit, nxt_it, hp, h3]) | (refine TS (fun h => ?_) (fun h => ?_) (hc := by (simp (disch := first|exact DA|fail) only [RA, ↓reduceIte, Nat.reduceEqDiff, reduceCtorEq, Nat.reduceLeDiff, Nat.reduceAdd, hfr, h8, hit, nxt_it, hp, h3]) <;> rfl) <;> (try simp only [RH, reduceCtorEq] at h) <;> (try (exfalso; omega))) | (show retR _ _ _ _ _; simp (disch := first|exact DA|fail) only [RR, RA, ↓reduceIte, Nat.reduceEqDiff, reduceCtorEq, Nat.reduceLeDiff, Nat.reduceAdd, hfr, h8, hit, nxt_it, hp, h3]) | exact rfl))
      refine W.seq (W.range (N := 0) (fun k F s' => St.Le s s' ∧ F 3 = .nilsl) IA IA (by omega) rfl ST ⟨by (exact LEa), (by (simp (disch := first|exact DA|fail) only [RA, ↓reduceIte, Nat.reduceEqDiff, reduceCtorEq, Nat.reduceLeDiff, Nat.reduceAdd, h3, Int.natCast_add, Int.natCast_one, Int.natCast_succ]) <;> rfl)⟩ ?_ ?_)
      · intro k F s' hk; omega
      · rintro F2 s2 hfr2 ⟨hle2, h32⟩
        (repeat' (first | (refine NXa ?_; try intro K hK) | (refine hK _ _ ?_; clear hK; clear K; try refine PX ?_) | ((first | refine GC_case_t (fun hr => ?_) (fun hr => ?_) | refine GC_case_f (fun hr => ?_) (fun hr => ?_)) <;> (have h := hr; (try simp only [RH, reduceCtorEq] at h); simp (disch := first|exact DA|fail) only [hr, RA, ↓reduceIte, Nat.reduceEqDiff, reduceCtorEq, Nat.reduceLeDiff, Nat.reduceAdd, hfr2, h3, h32]; clear hr) <;> (try (exfalso; omega))) | (show D _ (J.ops _ _ _ _); simp (disch := first|exact DA|fail) only [RA, ↓reduceIte, Nat.reduceEqDiff, reduceCtorEq, Nat.reduceLeDiff, Nat.reduceAdd, hfr2, h3, h32]) | (refine TS (fun h => ?_) (fun h => ?_) (hc := by (simp (disch := first|exact DA|fail) only [RA, ↓reduceIte, Nat.reduceEqDiff, reduceCtorEq, Nat.reduceLeDiff, Nat.reduceAdd, hfr2, h3, h32]) <;> rfl) <;> (try simp only [RH, reduceCtorEq] at h) <;> (try (exfalso; omega))) | (show retR _ _ _ _ _; simp (disch := first|exact DA|fail) only [RR, RA, ↓reduceIte, Nat.reduceEqDiff, reduceCtorEq, Nat.reduceLeDiff, Nat.reduceAdd, hfr2, h3, h32]) | exact rfl))
        exact ⟨⟨[], .nil, by simp, by simp⟩, by (exact LEa)⟩
    · have hi0 := hnew _ _ _ _ rfl
      rcases Nat.eq_zero_or_pos ms.length with hn0 | hn0
      · have hm0 := List.length_eq_zero_iff.1 hn0
        subst hm0
        (repeat' (first | (refine NXa ?_; try intro K hK) | (refine hK _ _ ?_; clear hK; clear K; try refine PX ?_) | ((first | refine GC_case_t (fun hr => ?_) (fun hr => ?_) | refine GC_case_f (fun hr => ?_) (fun hr => ?_)) <;> (have h := hr; (try simp only [RH, reduceCtorEq] at h); simp (disch := first|exact DA|fail) only [hr, RA, ↓reduceIte, Nat.reduceEqDiff, reduceCtorEq, Nat.reduceLeDiff, Nat.reduceAdd, hfr, h8, hit, nxt_it, hp, h3, hmem]; clear hr) <;> (try (exfalso; omega))) | (show D _ (J.ops _ _ _ _); simp (disch := first|exact DA|fail) only [RA, ↓reduceIte, Nat.reduceEqDiff, reduceCtorEq, Nat.reduceLeDiff, Nat.reduceAdd, hfr, h8, hit, nxt_it, hp, h3, hmem]) | (refine TS (fun h => ?_) (fun h => ?_) (hc := by (simp (disch := first|exact DA|fail) only [RA, ↓reduceIte, Nat.reduceEqDiff, reduceCtorEq, Nat.reduceLeDiff, Nat.reduceAdd, hfr, h8, hit, nxt_it, hp, h3, hmem]) <;> rfl) <;> (try simp only [RH, reduceCtorEq] at h) <;> (try (exfalso; omega))) | (show retR _ _ _ _ _; simp (disch := first|exact DA|fail) only [RR, RA, ↓reduceIte, Nat.reduceEqDiff, reduceCtorEq, Nat.reduceLeDiff, Nat.reduceAdd, hfr, h8, hit, nxt_it, hp, h3, hmem]) | exact rfl))
        refine W.seq (W.range (N := 0) (fun k F s' => St.Le s s' ∧ i < s'.next ∧ F 3 = .row i 4 0 0 ∧ ∃ M, s'.mem i = some (.row M) ∧ M.length = 0 ∧ ∀ y ∈ M, isUnit y) IA IA (by omega) rfl ST ⟨by (exact LEa), by exact DA, (by (simp (disch := first|exact DA|fail) only [RA, ↓reduceIte, Nat.reduceEqDiff, reduceCtorEq, Nat.reduceLeDiff, Nat.reduceAdd, h3, Int.natCast_add, Int.natCast_one, Int.natCast_succ]) <;> rfl), [], by first | assumption | (simp (disch := first|exact DA|fail) only [RA, ↓reduceIte, Nat.reduceEqDiff, reduceCtorEq, Nat.reduceLeDiff, Nat.reduceAdd, hmem, h3]), by rfl, by simp⟩ ?_ ?_)
        · intro k F s' hk; omega
        · rintro F2 s2 hfr2 ⟨hle2, hin2, h32, L, hL, hLl, hLP⟩
          (repeat' (first | (refine NXa ?_; try intro K hK) | (refine hK _ _ ?_; clear hK; clear K; try refine PX ?_) | ((first | refine GC_case_t (fun hr => ?_) (fun hr => ?_) | refine GC_case_f (fun hr => ?_) (fun hr => ?_)) <;> (have h := hr; (try simp only [RH, reduceCtorEq] at h); simp (disch := first|exact DA|fail) only [hr, RA, ↓reduceIte, Nat.reduceEqDiff, reduceCtorEq, Nat.reduceLeDiff, Nat.reduceAdd, hfr2, h3, h32, hL, hLl]; clear hr) <;> (try (exfalso; omega))) | (show D _ (J.ops _ _ _ _); simp (disch := first|exact DA|fail) only [RA, ↓reduceIte, Nat.reduceEqDiff, reduceCtorEq, Nat.reduceLeDiff, Nat.reduceAdd, hfr2, h3, h32, hL, hLl]) | (refine TS (fun h => ?_) (fun h => ?_) (hc := by (simp (disch := first|exact DA|fail) only [RA, ↓reduceIte, Nat.reduceEqDiff, reduceCtorEq, Nat.reduceLeDiff, Nat.reduceAdd, hfr2, h3, h32, hL, hLl]) <;> rfl) <;> (try simp only [RH, reduceCtorEq] at h) <;> (try (exfalso; omega))) | (show retR _ _ _ _ _; simp (disch := first|exact DA|fail) only [RR, RA, ↓reduceIte, Nat.reduceEqDiff, reduceCtorEq, Nat.reduceLeDiff, Nat.reduceAdd, hfr2, h3, h32, hL, hLl]) | exact rfl))
          exact ⟨⟨[], .sl, by simp, by simp⟩, by (exact LEa)⟩
      · have hun := hmP _ (List.getElem_mem (show ((ms.length : Int) - 1).toNat < ms.length by omega))
        obtain ⟨a2, b2, c2, d2, hx2⟩ := hun
        generalize hms : ms.set ((ms.length : Int) - 1).toNat (.agg [.int .i32 a2, .int .i64 b2, .int .i64 (IntKind.i64.wrap (l.length - b2)), .bool d2]) = ms2
        have hl2 : ms2.length = ms.length := by rw [← hms, List.length_set]
        have hP2 : ∀ y ∈ ms2, isUnit y := fun y hy => by
          rw [← hms] at hy
          rcases List.mem_or_eq_of_mem_set hy with h | h
          · exact hmP y h
          · rw [h]; exact ⟨_, _, _, _, rfl⟩
        (repeat' (first | (refine NXa ?_; try intro K hK) | (refine hK _ _ ?_; clear hK; clear K; try refine PX ?_) | ((first | refine GC_case_t (fun hr => ?_) (fun hr => ?_) | refine GC_case_f (fun hr => ?_) (fun hr => ?_)) <;> (have h := hr; (try simp only [RH, reduceCtorEq] at h); simp (disch := first|exact DA|fail) only [hr, RA, ↓reduceIte, Nat.reduceEqDiff, reduceCtorEq, Nat.reduceLeDiff, Nat.reduceAdd, hfr, h8, hit, nxt_it, hp, h3, hmem, hx2, hms]; clear hr) <;> (try (exfalso; omega))) | (show D _ (J.ops _ _ _ _); simp (disch := first|exact DA|fail) only [RA, ↓reduceIte, Nat.reduceEqDiff, reduceCtorEq, Nat.reduceLeDiff, Nat.reduceAdd, hfr, h8, hit, nxt_it, hp, h3, hmem, hx2, hms]) | (refine TS (fun h => ?_) (fun h => ?_) (hc := by (simp (disch := first|exact DA|fail) only [RA, ↓reduceIte, Nat.reduceEqDiff, reduceCtorEq, Nat.reduceLeDiff, Nat.reduceAdd, hfr, h8, hit, nxt_it, hp, h3, hmem, hx2, hms]) <;> rfl) <;> (try simp only [RH, reduceCtorEq] at h) <;> (try (exfalso; omega))) | (show retR _ _ _ _ _; simp (disch := first|exact DA|fail) only [RR, RA, ↓reduceIte, Nat.reduceEqDiff, reduceCtorEq, Nat.reduceLeDiff, Nat.reduceAdd, hfr, h8, hit, nxt_it, hp, h3, hmem, hx2, hms]) | exact rfl))
        refine W.seq (W.range (N := ms.length) (fun k F s' => St.Le s s' ∧ i < s'.next ∧ F 3 = .row i 4 0 ms.length ∧ ∃ M, s'.mem i = some (.row M) ∧ M.length = ms.length ∧ ∀ y ∈ M, isUnit y) IA IA (by omega) rfl ST ⟨by (exact LEa), by exact DA, (by (simp (disch := first|exact DA|fail) only [RA, ↓reduceIte, Nat.reduceEqDiff, reduceCtorEq, Nat.reduceLeDiff, Nat.reduceAdd, h3, Int.natCast_add, Int.natCast_one, Int.natCast_succ]) <;> rfl), ms2, by simp (disch := first|exact DA|fail) only [RA, ↓reduceIte, Nat.reduceEqDiff, reduceCtorEq, Nat.reduceLeDiff, Nat.reduceAdd, hms], hl2, hP2⟩ ?_ ?_)
        · rintro k F2 s2 hk hfr2 hi2 ⟨hle2, hin2, h32, L, hL, hLl, hLP⟩
          obtain ⟨a3, b3, c3, d3, hx3⟩ := hLP _ (List.getElem_mem (show k < L.length by omega))
          by_cases hq : a3 = 65533
          · (repeat' (first | (refine NXa ?_; try intro K hK) | (refine hK _ _ ?_; clear hK; clear K; try refine PX ?_) | ((first | refine GC_case_t (fun hr => ?_) (fun hr => ?_) | refine GC_case_f (fun hr => ?_) (fun hr => ?_)) <;> (have h := hr; (try simp only [RH, reduceCtorEq] at h); simp (disch := first|exact DA|fail) only [hr, RA, ↓reduceIte, Nat.reduceEqDiff, reduceCtorEq, Nat.reduceLeDiff, Nat.reduceAdd, hfr2, hi2, h3, h32, hL, hx3, hLl, hq, ne_eq, decide_not, eq_self, decide_true, Bool.not_true]; clear hr) <;> (try (exfalso; omega))) | (show D _ (J.ops _ _ _ _); simp (disch := first|exact DA|fail) only [RA, ↓reduceIte, Nat.reduceEqDiff, reduceCtorEq, Nat.reduceLeDiff, Nat.reduceAdd, hfr2, hi2, h3, h32, hL, hx3, hLl, hq, ne_eq, decide_not, eq_self, decide_true, Bool.not_true]) | (refine TS (fun h => ?_) (fun h => ?_) (hc := by (simp (disch := first|exact DA|fail) only [RA, ↓reduceIte, Nat.reduceEqDiff, reduceCtorEq, Nat.reduceLeDiff, Nat.reduceAdd, hfr2, hi2, h3, h32, hL, hx3, hLl, hq, ne_eq, decide_not, eq_self, decide_true, Bool.not_true]) <;> rfl) <;> (try simp only [RH, reduceCtorEq] at h) <;> (try (exfalso; omega))) | (show retR _ _ _ _ _; simp (disch := first|exact DA|fail) only [RR, RA, ↓reduceIte, Nat.reduceEqDiff, reduceCtorEq, Nat.reduceLeDiff, Nat.reduceAdd, hfr2, hi2, h3, h32, hL, hx3, hLl, hq, ne_eq, decide_not, eq_self, decide_true, Bool.not_true]) | exact rfl))
            all_goals exact ⟨by (exact LEa), by exact DA, (by (simp (disch := first|exact DA|fail) only [RA, ↓reduceIte, Nat.reduceEqDiff, reduceCtorEq, Nat.reduceLeDiff, Nat.reduceAdd, h32, Int.natCast_add, Int.natCast_one, Int.natCast_succ]) <;> rfl), _, IA, by simp [hLl], unit_set hLP ⟨_, _, _, _, rfl⟩⟩
          · (repeat' (first | (refine NXa ?_; try intro K hK) | (refine hK _ _ ?_; clear hK; clear K; try refine PX ?_) | ((first | refine GC_case_t (fun hr => ?_) (fun hr => ?_) | refine GC_case_f (fun hr => ?_) (fun hr => ?_)) <;> (have h := hr; (try simp only [RH, reduceCtorEq] at h); simp (disch := first|exact DA|fail) only [hr, RA, ↓reduceIte, Nat.reduceEqDiff, reduceCtorEq, Nat.reduceLeDiff, Nat.reduceAdd, hfr2, hi2, h3, h32, hL, hx3, hLl, hq]; clear hr) <;> (try (exfalso; omega))) | (show D _ (J.ops _ _ _ _); simp (disch := first|exact DA|fail) only [RA, ↓reduceIte, Nat.reduceEqDiff, reduceCtorEq, Nat.reduceLeDiff, Nat.reduceAdd, hfr2, hi2, h3, h32, hL, hx3, hLl, hq]) | (refine TS (fun h => ?_) (fun h => ?_) (hc := by (simp (disch := first|exact DA|fail) only [RA, ↓reduceIte, Nat.reduceEqDiff, reduceCtorEq, Nat.reduceLeDiff, Nat.reduceAdd, hfr2, hi2, h3, h32, hL, hx3, hLl, hq]) <;> rfl) <;> (try simp only [RH, reduceCtorEq] at h) <;> (try (exfalso; omega))) | (show retR _ _ _ _ _; simp (disch := first|exact DA|fail) only [RR, RA, ↓reduceIte, Nat.reduceEqDiff, reduceCtorEq, Nat.reduceLeDiff, Nat.reduceAdd, hfr2, hi2, h3, h32, hL, hx3, hLl, hq]) | exact rfl))
            all_goals exact ⟨by (exact LEa), by exact DA, (by (simp (disch := first|exact DA|fail) only [RA, ↓reduceIte, Nat.reduceEqDiff, reduceCtorEq, Nat.reduceLeDiff, Nat.reduceAdd, h32, Int.natCast_add, Int.natCast_one, Int.natCast_succ]) <;> rfl), _, IA, by simp [hLl], unit_set hLP ⟨_, _, _, _, rfl⟩⟩
        · rintro F2 s2 hfr2 ⟨hle2, hin2, h32, L, hL, hLl, hLP⟩
          (repeat' (first | (refine NXa ?_; try intro K hK) | (refine hK _ _ ?_; clear hK; clear K; try refine PX ?_) | ((first | refine GC_case_t (fun hr => ?_) (fun hr => ?_) | refine GC_case_f (fun hr => ?_) (fun hr => ?_)) <;> (have h := hr; (try simp only [RH, reduceCtorEq] at h); simp (disch := first|exact DA|fail) only [hr, RA, ↓reduceIte, Nat.reduceEqDiff, reduceCtorEq, Nat.reduceLeDiff, Nat.reduceAdd, hfr2, h3, h32, hL, hLl]; clear hr) <;> (try (exfalso; omega))) | (show D _ (J.ops _ _ _ _); simp (disch := first|exact DA|fail) only [RA, ↓reduceIte, Nat.reduceEqDiff, reduceCtorEq, Nat.reduceLeDiff, Nat.reduceAdd, hfr2, h3, h32, hL, hLl]) | (refine TS (fun h => ?_) (fun h => ?_) (hc := by (simp (disch := first|exact DA|fail) only [RA, ↓reduceIte, Nat.reduceEqDiff, reduceCtorEq, Nat.reduceLeDiff, Nat.reduceAdd, hfr2, h3, h32, hL, hLl]) <;> rfl) <;> (try simp only [RH, reduceCtorEq] at h) <;> (try (exfalso; omega))) | (show retR _ _ _ _ _; simp (disch := first|exact DA|fail) only [RR, RA, ↓reduceIte, Nat.reduceEqDiff, reduceCtorEq, Nat.reduceLeDiff, Nat.reduceAdd, hfr2, h3, h32, hL, hLl]) | exact rfl))
          exact ⟨⟨_, .sl, by simp; omega, fun x hx => hLP x (List.mem_of_mem_take hx)⟩, by (exact LEa)⟩
end Go.VS.Fn

namespace Go.VS.Fn
open Go.VS
variable {T : Nat → Option FnDef}

theorem Valid01_spec (h100 : T 100 = some (.body v100)) (h : T 99 = some (.body v99)) (l : List Nat) (hl : l.length ≤ 100000) (s : St) : D T (.call 99 [.str l] s (fun v s' => (∃ b, v = .bool b) ∧ St.Gr s s')) := by
  (refine C.fn (by assumption) rfl ?_)
  unfold v99
  dsimp only
  (repeat' (first | (refine NXt ?_; try intro K hK) | (refine hK _ _ ?_; clear hK; clear K; try refine PX ?_) | ((first | refine GC_case_t (fun hr => ?_) (fun hr => ?_) | refine GC_case_f (fun hr => ?_) (fun hr => ?_)) <;> (have h := hr; (try simp only [RH, reduceCtorEq] at h); simp (disch := first|exact DB|fail) only [hr, RB, ↓reduceIte, Nat.reduceEqDiff, reduceCtorEq, Nat.reduceLeDiff, Nat.reduceAdd, Int.reduceToNat, Nat.reduceLT]; clear hr) <;> (try (exfalso; omega))) | (refine X_callc rfl ?_; simp (disch := first|exact DB|fail) only [List.nil_append, List.append_nil, RB, ↓reduceIte, Nat.reduceEqDiff, reduceCtorEq, Nat.reduceLeDiff, Nat.reduceAdd, Int.reduceToNat, Nat.reduceLT]; refine D.mono_call (Units_spec h100 _ (by omega) _) ?_; rintro v s' ⟨⟨xs, hxs, hxl, hx⟩, δ, hδ, rfl⟩; (try simp only [NB] at hδ); refine ⟨by first | exact CK | (simp only [RC, Chk.ok, V.ent]; simp (disch := first|exact DB|fail) only [RT, RB, ↓reduceIte, Nat.reduceEqDiff, reduceCtorEq, Nat.reduceLeDiff, Nat.reduceAdd, Int.reduceToNat, Nat.reduceLT]), ?_⟩; try refine SBb ?_) | (show D _ (J.ops _ _ _ _); refine SBb ?_) | (refine T_app ?_; try refine SBb ?_) | (refine T_fork ?_ ?_) | (simp only [T_nil]) | (refine TS (fun h => ?_) (fun h => ?_) (hc := HCb) <;> (try simp only [RH, reduceCtorEq] at h) <;> (try (exfalso; omega))) | (show retR _ _ _ _ _; simp (disch := first|exact DB|fail) only [RR, RB, ↓reduceIte, Nat.reduceEqDiff, reduceCtorEq, Nat.reduceLeDiff, Nat.reduceAdd, Int.reduceToNat, Nat.reduceLT]) | exact rfl))
  ((have E := And.intro hxs.len hxs.notStr; first | exact SXb | refine SEb ?_) <;> (try clear E))
  ((have E := And.intro hxs.len hxs.notStr; (repeat' (first | (refine NXt ?_; try intro K hK) | (refine hK _ _ ?_; clear hK; clear K; try refine PX ?_) | ((first | refine GC_case_t (fun hr => ?_) (fun hr => ?_) | refine GC_case_f (fun hr => ?_) (fun hr => ?_)) <;> (have h := hr; (try simp only [RH, reduceCtorEq] at h); refine SHb ?_; clear hr) <;> (try (exfalso; omega))) | (show D _ (J.ops _ _ _ _); refine SEb ?_) | (refine T_app ?_; try refine SEb ?_) | (refine T_fork ?_ ?_) | (simp only [T_nil]) | (refine TS (fun h => ?_) (fun h => ?_) (hc := HEb) <;> (try simp only [RH, reduceCtorEq] at h) <;> (try (exfalso; omega))) | (show retR _ _ _ _ _; refine SRb ?_) | exact rfl))) <;> (try clear E))
  refine W.seq (W.rangeG (N := xs.length) (fun k F s' => True) IB IB (by omega) rfl ST trivial ?_ ?_)
  · rintro k F δ2 hk hfr hi hδ2 -
    (try simp only [NB] at hδ2)
    obtain ⟨a, b, c, d, hu⟩ := hx _ (List.getElem_mem hk)
    cases d
    · ((have E := And.intro hfr (And.intro hi (And.intro hxs.ixE hu)); (repeat' (first | (refine NXt ?_; try intro K hK) | (refine hK _ _ ?_; clear hK; clear K; try refine PX ?_) | ((first | refine GC_case_t (fun hr => ?_) (fun hr => ?_) | refine GC_case_f (fun hr => ?_) (fun hr => ?_)) <;> (have h := hr; (try simp only [RH, reduceCtorEq] at h); refine SHb ?_; clear hr) <;> (try (exfalso; omega))) | (show D _ (J.ops _ _ _ _); refine SEb ?_) | (refine T_app ?_; try refine SEb ?_) | (refine T_fork ?_ ?_) | (simp only [T_nil]) | (refine TS (fun h => ?_) (fun h => ?_) (hc := HEb) <;> (try simp only [RH, reduceCtorEq] at h) <;> (try (exfalso; omega))) | (show retR _ _ _ _ _; refine SRb ?_) | exact rfl))) <;> (try clear E))
      all_goals exact ⟨⟨_, rfl⟩, by (exact LEb)⟩
    · ((have E := And.intro hfr (And.intro hi (And.intro hxs.ixE hu)); (repeat' (first | (refine NXt ?_; try intro K hK) | (refine hK _ _ ?_; clear hK; clear K; try refine PX ?_) | ((first | refine GC_case_t (fun hr => ?_) (fun hr => ?_) | refine GC_case_f (fun hr => ?_) (fun hr => ?_)) <;> (have h := hr; (try simp only [RH, reduceCtorEq] at h); refine SHb ?_; clear hr) <;> (try (exfalso; omega))) | (show D _ (J.ops _ _ _ _); refine SEb ?_) | (refine T_app ?_; try refine SEb ?_) | (refine T_fork ?_ ?_) | (simp only [T_nil]) | (refine TS (fun h => ?_) (fun h => ?_) (hc := HEb) <;> (try simp only [RH, reduceCtorEq] at h) <;> (try (exfalso; omega))) | (show retR _ _ _ _ _; refine SRb ?_) | exact rfl))) <;> (try clear E))
      all_goals exact ⟨by (exact LEb), trivial⟩
  · rintro F δ2 hfr hδ2 -
    ((have E := hfr; (repeat' (first | (refine NXt ?_; try intro K hK) | (refine hK _ _ ?_; clear hK; clear K; try refine PX ?_) | ((first | refine GC_case_t (fun hr => ?_) (fun hr => ?_) | refine GC_case_f (fun hr => ?_) (fun hr => ?_)) <;> (have h := hr; (try simp only [RH, reduceCtorEq] at h); refine SHb ?_; clear hr) <;> (try (exfalso; omega))) | (show D _ (J.ops _ _ _ _); refine SEb ?_) | (refine T_app ?_; try refine SEb ?_) | (refine T_fork ?_ ?_) | (simp only [T_nil]) | (refine TS (fun h => ?_) (fun h => ?_) (hc := HEb) <;> (try simp only [RH, reduceCtorEq] at h) <;> (try (exfalso; omega))) | (show retR _ _ _ _ _; refine SRb ?_) | exact rfl))) <;> (try clear E))
    exact ⟨⟨_, rfl⟩, by (exact LEb)⟩

theorem VV_holds (h100 : T 100 = some (.body v100)) (h99 : T 99 = some (.body v99)) (h : T 97 = some (.body v97)) : VV T := by
  intro l s
  by_cases hl : l.length ≤ 120
  · (refine C.fn (by assumption) rfl ?_)
    unfold v97
    dsimp only
    have hm : l.length ≤ most := by simp only [most]; omega
    have hL : ∀ c g : Nat, IsL (.sl c g 0 (l.map VS.bv)) (l.map VS.bv) := fun c g => .sl
    ((have E := hm; (repeat' (first | (refine NXt ?_; try intro K hK) | (refine hK _ _ ?_; clear hK; clear K; try refine PX ?_) | ((first | refine GC_case_t (fun hr => ?_) (fun hr => ?_) | refine GC_case_f (fun hr => ?_) (fun hr => ?_)) <;> (have h := hr; (try simp only [RH, reduceCtorEq] at h); refine SHb ?_; clear hr) <;> (try (exfalso; omega))) | (refine X_callc rfl ?_; refine SNb ?_; refine D.mono_call (Valid01_spec h100 h99 _ (by omega) _) ?_; rintro v s' ⟨⟨b, rfl⟩, δ, hδ, rfl⟩; (try simp only [NB] at hδ); refine ⟨by exact CEb, ?_⟩; try refine SEb ?_) | (show D _ (J.ops _ _ _ _); refine SEb ?_) | (refine T_app ?_; try refine SEb ?_) | (refine T_fork ?_ ?_) | (simp only [T_nil]) | (refine TS (fun h => ?_) (fun h => ?_) (hc := HEb) <;> (try simp only [RH, reduceCtorEq] at h) <;> (try (exfalso; omega))) | (show retR _ _ _ _ _; refine SRb ?_) | exact rfl))) <;> (try clear E))
    · exact ⟨⟨_, rfl⟩, by (exact LEb)⟩
    refine W.seq (W.rangeG (N := l.length) (fun k F s' => True) IB IB (by omega) rfl ST trivial ?_ ?_)
    · rintro k F δ2 hk hfr hi hδ2 -
      (try simp only [NB] at hδ2)
      (repeat' (first | (refine NXt ?_; try intro K hK) | (refine hK _ _ ?_; clear hK; clear K; try refine PX ?_) | ((first | refine GC_case_t (fun hr => ?_) (fun hr => ?_) | refine GC_case_f (fun hr => ?_) (fun hr => ?_)) <;> (have h := hr; (try simp only [RH, reduceCtorEq] at h); simp (disch := first|exact DB|fail) only [hr, RB, ↓reduceIte, Nat.reduceEqDiff, reduceCtorEq, Nat.reduceLeDiff, Nat.reduceAdd, Int.reduceToNat, Nat.reduceLT, hfr, hi, (hL _ _).ixm, VS.bv]; clear hr) <;> (try (exfalso; omega))) | (show D _ (J.ops _ _ _ _); simp (disch := first|exact DB|fail) only [RB, ↓reduceIte, Nat.reduceEqDiff, reduceCtorEq, Nat.reduceLeDiff, Nat.reduceAdd, Int.reduceToNat, Nat.reduceLT, hfr, hi, (hL _ _).ixm, VS.bv]) | (refine T_app ?_; try simp (disch := first|exact DB|fail) only [RB, ↓reduceIte, Nat.reduceEqDiff, reduceCtorEq, Nat.reduceLeDiff, Nat.reduceAdd, Int.reduceToNat, Nat.reduceLT, hfr, hi, (hL _ _).ixm, VS.bv]) | (refine T_fork ?_ ?_) | (simp only [T_nil]) | (refine TS (fun h => ?_) (fun h => ?_) (hc := by (simp (disch := first|exact DB|fail) only [RB, ↓reduceIte, Nat.reduceEqDiff, reduceCtorEq, Nat.reduceLeDiff, Nat.reduceAdd, Int.reduceToNat, Nat.reduceLT, hfr, hi, (hL _ _).ixm, VS.bv]) <;> rfl) <;> (try simp only [RH, reduceCtorEq] at h) <;> (try (exfalso; omega))) | (show retR _ _ _ _ _; simp (disch := first|exact DB|fail) only [RR, RB, ↓reduceIte, Nat.reduceEqDiff, reduceCtorEq, Nat.reduceLeDiff, Nat.reduceAdd, Int.reduceToNat, Nat.reduceLT, hfr, hi, (hL _ _).ixm, VS.bv]) | exact rfl))
      all_goals first | exact ⟨⟨_, rfl⟩, by (exact LEb)⟩ | exact ⟨by (exact LEb), trivial⟩
    · rintro F δ2 hfr hδ2 -
      ((have E := hfr; (repeat' (first | (refine NXt ?_; try intro K hK) | (refine hK _ _ ?_; clear hK; clear K; try refine PX ?_) | ((first | refine GC_case_t (fun hr => ?_) (fun hr => ?_) | refine GC_case_f (fun hr => ?_) (fun hr => ?_)) <;> (have h := hr; (try simp only [RH, reduceCtorEq] at h); refine SHb ?_; clear hr) <;> (try (exfalso; omega))) | (show D _ (J.ops _ _ _ _); refine SEb ?_) | (refine T_app ?_; try refine SEb ?_) | (refine T_fork ?_ ?_) | (simp only [T_nil]) | (refine TS (fun h => ?_) (fun h => ?_) (hc := HEb) <;> (try simp only [RH, reduceCtorEq] at h) <;> (try (exfalso; omega))) | (show retR _ _ _ _ _; refine SRb ?_) | exact rfl))) <;> (try clear E))
      exact ⟨⟨_, rfl⟩, by (exact LEb)⟩
  · (refine C.fn (by assumption) rfl ?_)
    unfold v97
    dsimp only
    (repeat' (first | (refine NXt ?_; try intro K hK) | (refine hK _ _ ?_; clear hK; clear K; try refine PX ?_) | ((first | refine GC_case_t (fun hr => ?_) (fun hr => ?_) | refine GC_case_f (fun hr => ?_) (fun hr => ?_)) <;> (have h := hr; (try simp only [RH, reduceCtorEq] at h); simp (disch := first|exact DB|fail) only [hr, RB, ↓reduceIte, Nat.reduceEqDiff, reduceCtorEq, Nat.reduceLeDiff, Nat.reduceAdd, Int.reduceToNat, Nat.reduceLT]; clear hr) <;> (try (exfalso; omega))) | (show D _ (J.ops _ _ _ _); refine SBb ?_) | (refine T_app ?_; try refine SBb ?_) | (refine T_fork ?_ ?_) | (simp only [T_nil]) | (refine TS (fun h => ?_) (fun h => ?_) (hc := HCb) <;> (try simp only [RH, reduceCtorEq] at h) <;> (try (exfalso; omega))) | (show retR _ _ _ _ _; simp (disch := first|exact DB|fail) only [RR, RB, ↓reduceIte, Nat.reduceEqDiff, reduceCtorEq, Nat.reduceLeDiff, Nat.reduceAdd, Int.reduceToNat, Nat.reduceLT]) | exact rfl))
    exact ⟨⟨_, rfl⟩, by (exact LEb)⟩
end Go.VS.Fn

namespace Go.VS.Fn
open Go.VS
variable {T : Nat → Option FnDef}

theorem Same_true (S : HS T) (va vb : V) (xs ys : List (Int × Int)) (ha : IsL va (xs.map sp)) (hb : IsL vb (ys.map sp)) (hl : xs.length ≤ 100000) (he : xs = ys) (s : St) : D T (.call 9 [va, vb] s (fun v s' => v = .bool true ∧ s = s')) := by
  refine (Same_spec S.h9 va vb xs ys ha hb s (by omega)).mono_call ?_
  rintro v s' ⟨rfl, rfl⟩
  exact ⟨by rw [decide_eq_true he], rfl⟩

set_option maxHeartbeats 2000000 in
theorem known_spec (S : HS T) (hs : SortOk T) (s : St) : D T (.call 12 [] s (fun v s' => v = .bool true ∧ St.Gr s s')) := by
  refine C.fn S.h12 rfl ?_
  unfold v12
  dsimp only
  (repeat' (first | (refine NXt ?_; try intro K hK) | (refine hK _ _ ?_; clear hK; clear K; try refine PX ?_) | ((first | refine GC_case_t (fun hr => ?_) (fun hr => ?_) | refine GC_case_f (fun hr => ?_) (fun hr => ?_)) <;> (have h := hr; (try simp only [RH, reduceCtorEq] at h); simp (disch := first|exact DB|fail) only [hr, RB, ↓reduceIte, Nat.reduceEqDiff, reduceCtorEq, Nat.reduceLeDiff, Nat.reduceAdd, Int.reduceToNat, Nat.reduceLT, decide_true, Nat.reduceLeDiff, Bool.and_true, Nat.beq_refl]; clear hr) <;> (try (exfalso; omega))) | (refine X_callc rfl ?_; simp (disch := first|exact DB|fail) only [List.nil_append, List.append_nil, RB, ↓reduceIte, Nat.reduceEqDiff, reduceCtorEq, Nat.reduceLeDiff, Nat.reduceAdd, Int.reduceToNat, Nat.reduceLT, decide_true, Nat.reduceLeDiff, Bool.and_true, Nat.beq_refl]; refine D.mono_call (Unite_spec S hs _ _ [(2, 3), (0, 1)] [(0, 1)] (.inr ⟨_, _, _, rfl⟩) (.inr ⟨_, _, _, rfl⟩) (by simp) _) ?_; rintro v s' ⟨⟨z1, h1, p1, m1, l1⟩, δ, hδ, rfl⟩; (try simp only [NB] at hδ); refine ⟨by first | exact CK | (simp only [RC, Chk.ok, V.ent]; simp (disch := first|exact DB|fail) only [RT, RB, ↓reduceIte, Nat.reduceEqDiff, reduceCtorEq, Nat.reduceLeDiff, Nat.reduceAdd, Int.reduceToNat, Nat.reduceLT, decide_true, Nat.reduceLeDiff, Bool.and_true, Nat.beq_refl]), ?_⟩; try simp (disch := first|exact DB|fail) only [RB, ↓reduceIte, Nat.reduceEqDiff, reduceCtorEq, Nat.reduceLeDiff, Nat.reduceAdd, Int.reduceToNat, Nat.reduceLT, decide_true, Nat.reduceLeDiff, Bool.and_true, Nat.beq_refl]) | (refine X_callc rfl ?_; simp (disch := first|exact DB|fail) only [List.nil_append, List.append_nil, RB, ↓reduceIte, Nat.reduceEqDiff, reduceCtorEq, Nat.reduceLeDiff, Nat.reduceAdd, Int.reduceToNat, Nat.reduceLT, decide_true, Nat.reduceLeDiff, Bool.and_true, Nat.beq_refl]; refine D.mono_call (Same_true S _ _ _ [(0, 1), (2, 3)] h1 (.inr ⟨_, _, _, rfl⟩) (Nat.le_trans l1 (by simp)) (ext_lt p1 (by simp [ltS]) (fun p => by rw [m1]; grind)) _) ?_; rintro v s' ⟨rfl, rfl⟩; (try simp only [NB] at hδ); refine ⟨by first | exact CK | (simp only [RC, Chk.ok, V.ent]; simp (disch := first|exact DB|fail) only [RT, RB, ↓reduceIte, Nat.reduceEqDiff, reduceCtorEq, Nat.reduceLeDiff, Nat.reduceAdd, Int.reduceToNat, Nat.reduceLT, decide_true, Nat.reduceLeDiff, Bool.and_true, Nat.beq_refl]), ?_⟩; try simp (disch := first|exact DB|fail) only [RB, ↓reduceIte, Nat.reduceEqDiff, reduceCtorEq, Nat.reduceLeDiff, Nat.reduceAdd, Int.reduceToNat, Nat.reduceLT, decide_true, Nat.reduceLeDiff, Bool.and_true, Nat.beq_refl]) | (refine X_callc rfl ?_; simp (disch := first|exact DB|fail) only [List.nil_append, List.append_nil, RB, ↓reduceIte, Nat.reduceEqDiff, reduceCtorEq, Nat.reduceLeDiff, Nat.reduceAdd, Int.reduceToNat, Nat.reduceLT, decide_true, Nat.reduceLeDiff, Bool.and_true, Nat.beq_refl]; refine D.mono_call (Subtract_spec S hs _ _ _ _ h1 h1 (Nat.le_trans l1 (by simp)) (Nat.le_trans l1 (by simp)) _) ?_; rintro v s' ⟨⟨z2, h2, p2, m2, l2⟩, δ, hδ, rfl⟩; (try simp only [NB] at hδ); refine ⟨by first | exact CK | (simp only [RC, Chk.ok, V.ent]; simp (disch := first|exact DB|fail) only [RT, RB, ↓reduceIte, Nat.reduceEqDiff, reduceCtorEq, Nat.reduceLeDiff, Nat.reduceAdd, Int.reduceToNat, Nat.reduceLT, decide_true, Nat.reduceLeDiff, Bool.and_true, Nat.beq_refl]), ?_⟩; try simp (disch := first|exact DB|fail) only [RB, ↓reduceIte, Nat.reduceEqDiff, reduceCtorEq, Nat.reduceLeDiff, Nat.reduceAdd, Int.reduceToNat, Nat.reduceLT, decide_true, Nat.reduceLeDiff, Bool.and_true, Nat.beq_refl]) | (show D _ (J.ops _ _ _ _); simp (disch := first|exact DB|fail) only [RB, ↓reduceIte, Nat.reduceEqDiff, reduceCtorEq, Nat.reduceLeDiff, Nat.reduceAdd, Int.reduceToNat, Nat.reduceLT, decide_true, Nat.reduceLeDiff, Bool.and_true, Nat.beq_refl]) | (refine T_app ?_; try simp (disch := first|exact DB|fail) only [RB, ↓reduceIte, Nat.reduceEqDiff, reduceCtorEq, Nat.reduceLeDiff, Nat.reduceAdd, Int.reduceToNat, Nat.reduceLT, decide_true, Nat.reduceLeDiff, Bool.and_true, Nat.beq_refl]) | (refine T_fork ?_ ?_) | (simp only [T_nil]) | (refine TS (fun h => ?_) (fun h => ?_) (hc := by (simp (disch := first|exact DB|fail) only [RB, ↓reduceIte, Nat.reduceEqDiff, reduceCtorEq, Nat.reduceLeDiff, Nat.reduceAdd, Int.reduceToNat, Nat.reduceLT, decide_true, Nat.reduceLeDiff, Bool.and_true, Nat.beq_refl]) <;> rfl) <;> (try simp only [RH, reduceCtorEq] at h) <;> (try (exfalso; omega))) | (show retR _ _ _ _ _; simp (disch := first|exact DB|fail) only [RR, RB, ↓reduceIte, Nat.reduceEqDiff, reduceCtorEq, Nat.reduceLeDiff, Nat.reduceAdd, Int.reduceToNat, Nat.reduceLT, decide_true, Nat.reduceLeDiff, Bool.and_true, Nat.beq_refl]) | (simp (disch := first|exact DB|fail) only [RB, ↓reduceIte, Nat.reduceEqDiff, reduceCtorEq, Nat.reduceLeDiff, Nat.reduceAdd, Int.reduceToNat, Nat.reduceLT, decide_true, Nat.reduceLeDiff, Bool.and_true, Nat.beq_refl]) | exact rfl))
  have hz2 : z2 = [] := List.eq_nil_iff_forall_not_mem.2 fun p hp => by have := (m2 p).1 hp; exact this.2 this.1
  subst hz2
  ((have E := And.intro h2.lenm h2.notStr; first | exact SXb | refine SEb ?_) <;> (try clear E))
  (repeat' (first | (refine NXt ?_; try intro K hK) | (refine hK _ _ ?_; clear hK; clear K; try refine PX ?_) | ((first | refine GC_case_t (fun hr => ?_) (fun hr => ?_) | refine GC_case_f (fun hr => ?_) (fun hr => ?_)) <;> (have h := hr; (try simp only [RH, reduceCtorEq] at h); simp (disch := first|exact DB|fail) only [hr, RB, ↓reduceIte, Nat.reduceEqDiff, reduceCtorEq, Nat.reduceLeDiff, Nat.reduceAdd, Int.reduceToNat, Nat.reduceLT]; clear hr) <;> (try (exfalso; omega))) | (show D _ (J.ops _ _ _ _); refine SBb ?_) | (refine T_app ?_; try refine SBb ?_) | (refine T_fork ?_ ?_) | (simp only [T_nil]) | (refine TS (fun h => ?_) (fun h => ?_) (hc := HCb) <;> (try simp only [RH, reduceCtorEq] at h) <;> (try (exfalso; omega))) | (show retR _ _ _ _ _; simp (disch := first|exact DB|fail) only [RR, RB, ↓reduceIte, Nat.reduceEqDiff, reduceCtorEq, Nat.reduceLeDiff, Nat.reduceAdd, Int.reduceToNat, Nat.reduceLT]) | exact rfl))
  exact ⟨by simp, by (exact LEb)⟩
end Go.VS.Fn

namespace Go.VS.Fn
open Go.VS
variable {T : Nat → Option FnDef}

def v33T : Code := match v33.code with | .seq _ (.seq _ (.seq _ (.seq _ (.seq t _)))) => t | _ => .skip

structure HR (T : Nat → Option FnDef) : Prop where
  h18 : T 18 = some (.body v18)
  h33 : T 33 = some (.body v33)
  h116 : T 116 = some (.body v116)
  h117 : T 117 = some (.body v117)

theorem Contains18_spec (R : HR T) (p q : Int × Int) (s : St) : D T (.call 18 [sp p, sp q] s (fun v s' => v = .bool (decide (p.1 ≤ q.1 ∧ q.2 ≤ p.2)) ∧ St.Gr s s')) := by
  refine C.fn R.h18 rfl ?_
  unfold v18
  dsimp only
  ((have E := sp_def; (repeat' (first | (refine NXt ?_; try intro K hK) | (refine hK _ _ ?_; clear hK; clear K; try refine PX ?_) | ((first | refine GC_case_t (fun hr => ?_) (fun hr => ?_) | refine GC_case_f (fun hr => ?_) (fun hr => ?_)) <;> (have h := hr; (try simp only [RH, reduceCtorEq] at h); refine SHb ?_; clear hr) <;> (try (exfalso; omega))) | (show D _ (J.ops _ _ _ _); refine SEb ?_) | (refine T_app ?_; try refine SEb ?_) | (refine T_fork ?_ ?_) | (simp only [T_nil]) | (refine TS (fun h => ?_) (fun h => ?_) (hc := HEb) <;> (try simp only [RH, reduceCtorEq] at h) <;> (try (exfalso; omega))) | (show retR _ _ _ _ _; refine SRb ?_) | exact rfl))) <;> (try clear E))
  all_goals exact ⟨by congr 1; by_cases h1 : p.1 ≤ q.1 <;> by_cases h2 : q.2 ≤ p.2 <;> simp [h1, h2] <;> omega, by (exact LEb)⟩

theorem has_spec (R : HR T) (v : V) (xs : List (Int × Int)) (hL : IsL v (xs.map sp)) (hl : xs.length ≤ 100000) (p : Int × Int) (s : St) : D T (.call 116 [v, sp p] s (fun v s' => v = .bool (decide (p ∈ xs)) ∧ St.Gr s s')) := by
  refine C.fn R.h116 rfl ?_
  unfold v116
  dsimp only
  ((have E := And.intro hL.lenm (And.intro hL.notStr sp_def); (repeat' (first | (refine NXt ?_; try intro K hK) | (refine hK _ _ ?_; clear hK; clear K; try refine PX ?_) | ((first | refine GC_case_t (fun hr => ?_) (fun hr => ?_) | refine GC_case_f (fun hr => ?_) (fun hr => ?_)) <;> (have h := hr; (try simp only [RH, reduceCtorEq] at h); refine SHb ?_; clear hr) <;> (try (exfalso; omega))) | (show D _ (J.ops _ _ _ _); refine SEb ?_) | (refine T_app ?_; try refine SEb ?_) | (refine T_fork ?_ ?_) | (simp only [T_nil]) | (refine TS (fun h => ?_) (fun h => ?_) (hc := HEb) <;> (try simp only [RH, reduceCtorEq] at h) <;> (try (exfalso; omega))) | (show retR _ _ _ _ _; refine SRb ?_) | exact rfl))) <;> (try clear E))
  refine W.seq (W.rangeG (N := xs.length) (fun k F' s' => p ∉ xs.take k) IB IB (by omega) rfl ST (by simp) ?_ ?_)
  · rintro k F δ hk hfr hi hδ hI
    (try simp only [NB] at hδ)
    ((have E := And.intro hfr (And.intro hi (And.intro hL.ixmE sp_def)); (repeat' (first | (refine NXt ?_; try intro K hK) | (refine hK _ _ ?_; clear hK; clear K; try refine PX ?_) | ((first | refine GC_case_t (fun hr => ?_) (fun hr => ?_) | refine GC_case_f (fun hr => ?_) (fun hr => ?_)) <;> (have h := hr; (try simp only [RH, reduceCtorEq] at h); refine SHb ?_; clear hr) <;> (try (exfalso; omega))) | (show D _ (J.ops _ _ _ _); refine SEb ?_) | (refine T_app ?_; try refine SEb ?_) | (refine T_fork ?_ ?_) | (simp only [T_nil]) | (refine TS (fun h => ?_) (fun h => ?_) (hc := HEb) <;> (try simp only [RH, reduceCtorEq] at h) <;> (try (exfalso; omega))) | (show retR _ _ _ _ _; refine SRb ?_) | exact rfl))) <;> (try clear E))
    · refine ⟨?_, by (exact LEb)⟩
      have e : p = xs[k] := by apply Prod.ext <;> simp_all
      rw [decide_eq_true (show p ∈ xs by rw [e]; exact List.getElem_mem hk)]
    · refine ⟨by (exact LEb), ?_⟩
      rw [List.take_succ_eq_append_getElem hk]
      simp only [List.mem_append, List.mem_singleton, not_or]
      refine ⟨hI, fun e => ?_⟩
      subst e
      simp_all
  · rintro F δ hfr hδ hI
    rw [List.take_length] at hI
    ((have E := hfr; (repeat' (first | (refine NXt ?_; try intro K hK) | (refine hK _ _ ?_; clear hK; clear K; try refine PX ?_) | ((first | refine GC_case_t (fun hr => ?_) (fun hr => ?_) | refine GC_case_f (fun hr => ?_) (fun hr => ?_)) <;> (have h := hr; (try simp only [RH, reduceCtorEq] at h); refine SHb ?_; clear hr) <;> (try (exfalso; omega))) | (show D _ (J.ops _ _ _ _); refine SEb ?_) | (refine T_app ?_; try refine SEb ?_) | (refine T_fork ?_ ?_) | (simp only [T_nil]) | (refine TS (fun h => ?_) (fun h => ?_) (hc := HEb) <;> (try simp only [RH, reduceCtorEq] at h) <;> (try (exfalso; omega))) | (show retR _ _ _ _ _; refine SRb ?_) | exact rfl))) <;> (try clear E))
    exact ⟨by rw [decide_eq_false hI], by (exact LEb)⟩

theorem within30_spec (R : HR T) (v : V) (xs : List (Int × Int)) (hL : IsL v (xs.map sp)) (hl : xs.length ≤ 100000) (p : Int × Int) (s : St) : D T (.call 117 [sp p, v] s (fun v s' => v = .bool (xs.any fun q => decide (q.1 ≤ p.1 ∧ p.2 ≤ q.2)) ∧ St.Gr s s')) := by
  refine C.fn R.h117 rfl ?_
  unfold v117
  dsimp only
  ((have E := And.intro hL.lenm (And.intro hL.notStr sp_def); (repeat' (first | (refine NXt ?_; try intro K hK) | (refine hK _ _ ?_; clear hK; clear K; try refine PX ?_) | ((first | refine GC_case_t (fun hr => ?_) (fun hr => ?_) | refine GC_case_f (fun hr => ?_) (fun hr => ?_)) <;> (have h := hr; (try simp only [RH, reduceCtorEq] at h); refine SHb ?_; clear hr) <;> (try (exfalso; omega))) | (show D _ (J.ops _ _ _ _); refine SEb ?_) | (refine T_app ?_; try refine SEb ?_) | (refine T_fork ?_ ?_) | (simp only [T_nil]) | (refine TS (fun h => ?_) (fun h => ?_) (hc := HEb) <;> (try simp only [RH, reduceCtorEq] at h) <;> (try (exfalso; omega))) | (show retR _ _ _ _ _; refine SRb ?_) | exact rfl))) <;> (try clear E))
  refine W.seq (W.rangeG (N := xs.length) (fun k F' s' => ∀ q ∈ xs.take k, ¬ (q.1 ≤ p.1 ∧ p.2 ≤ q.2)) IB IB (by omega) rfl ST (by simp) ?_ ?_)
  · rintro k F δ hk hfr hi hδ hI
    (try simp only [NB] at hδ)
    ((have E := And.intro hfr (And.intro hi (And.intro hL.ixmE sp_def)); (repeat' (first | (refine NXt ?_; try intro K hK) | (refine hK _ _ ?_; clear hK; clear K; try refine PX ?_) | ((first | refine GC_case_t (fun hr => ?_) (fun hr => ?_) | refine GC_case_f (fun hr => ?_) (fun hr => ?_)) <;> (have h := hr; (try simp only [RH, reduceCtorEq] at h); refine SHb ?_; clear hr) <;> (try (exfalso; omega))) | (refine X_callc rfl ?_; refine SNb ?_; refine D.mono_call (Contains18_spec R xs[k] p _) ?_; rintro v s' ⟨rfl, δ2, hδ2, rfl⟩; (try simp only [NB] at hδ); refine ⟨by exact CEb, ?_⟩; try refine SEb ?_) | (show D _ (J.ops _ _ _ _); refine SEb ?_) | (refine T_app ?_; try refine SEb ?_) | (refine T_fork ?_ ?_) | (simp only [T_nil]) | (refine TS (fun h => ?_) (fun h => ?_) (hc := HEb) <;> (try simp only [RH, reduceCtorEq] at h) <;> (try (exfalso; omega))) | (show retR _ _ _ _ _; refine SRb ?_) | exact rfl))) <;> (try clear E))
    · refine ⟨?_, by (exact LEb)⟩
      congr 1
      exact (List.any_eq_true.2 ⟨xs[k], List.getElem_mem hk, by simpa using h⟩).symm
    · refine ⟨by (exact LEb), fun q hq => ?_⟩
      rw [List.take_succ_eq_append_getElem hk] at hq
      rcases List.mem_append.1 hq with h1 | h1
      · exact hI q h1
      · rw [List.mem_singleton.1 h1]; simpa using h
  · rintro F δ hfr hδ hI
    rw [List.take_length] at hI
    ((have E := hfr; (repeat' (first | (refine NXt ?_; try intro K hK) | (refine hK _ _ ?_; clear hK; clear K; try refine PX ?_) | ((first | refine GC_case_t (fun hr => ?_) (fun hr => ?_) | refine GC_case_f (fun hr => ?_) (fun hr => ?_)) <;> (have h := hr; (try simp only [RH, reduceCtorEq] at h); refine SHb ?_; clear hr) <;> (try (exfalso; omega))) | (show D _ (J.ops _ _ _ _); refine SEb ?_) | (refine T_app ?_; try refine SEb ?_) | (refine T_fork ?_ ?_) | (simp only [T_nil]) | (refine TS (fun h => ?_) (fun h => ?_) (hc := HEb) <;> (try simp only [RH, reduceCtorEq] at h) <;> (try (exfalso; omega))) | (show retR _ _ _ _ _; refine SRb ?_) | exact rfl))) <;> (try clear E))
    refine ⟨?_, by (exact LEb)⟩
    congr 1
    exact (List.any_eq_false.2 fun q hq => by simpa using hI q hq).symm

set_option maxHeartbeats 2000000 in
theorem Insert_spec (R : HR T) (v : V) (xs : List (Int × Int)) (hL : IsL v (xs.map sp)) (hl : xs.length ≤ 100000) (hx : xs.Pairwise ltS) (p : Int × Int) (s : St) : D T (.call 33 [v, sp p] s (fun v s' => SetIs v (fun q => q ∈ xs ∨ q = p) (xs.length + 1) ∧ St.Gr s s')) := by
  refine C.fn R.h33 rfl ?_
  unfold v33
  dsimp only
  ((have E := And.intro hL.lenm (And.intro hL.notStr sp_def); (repeat' (first | (refine NXt ?_; try intro K hK) | (refine hK _ _ ?_; clear hK; clear K; try refine PX ?_) | ((first | refine GC_case_t (fun hr => ?_) (fun hr => ?_) | refine GC_case_f (fun hr => ?_) (fun hr => ?_)) <;> (have h := hr; (try simp only [RH, reduceCtorEq] at h); refine SHb ?_; clear hr) <;> (try (exfalso; omega))) | (show D _ (J.ops _ _ _ _); refine SEb ?_) | (refine T_app ?_; try refine SEb ?_) | (refine T_fork ?_ ?_) | (simp only [T_nil]) | (refine TS (fun h => ?_) (fun h => ?_) (hc := HEb) <;> (try simp only [RH, reduceCtorEq] at h) <;> (try (exfalso; omega))) | (show retR _ _ _ _ _; refine SRb ?_) | exact rfl))) <;> (try clear E))
  refine W.mid0 (fun F => ∃ k : Nat, k ≤ xs.length ∧ F 5 = .int .i64 k ∧ (∀ q ∈ xs.drop k, ltS p q) ∧ (∀ h : k - 1 < xs.length, 0 < k → ¬ ltS p xs[k - 1])) (W.bloop (fun n F s' => (s.new (.obj [.int .i64 p.1, .int .i64 p.2])) = s' ∧ n ≤ xs.length ∧ F 5 = .int .i64 n ∧ (∀ q ∈ xs.drop n, ltS p q)) xs.length ⟨rfl, Nat.le_refl _, IB, by simp⟩ ?_) ?_
  · rintro n F s' hfr ⟨rfl, hn, h5, hI⟩
    rcases Nat.eq_zero_or_pos n with hn0 | hn0
    · subst hn0
      ((have E := And.intro hfr h5; (repeat' (first | (refine NXt ?_; try intro K hK) | (refine hK _ _ ?_; clear hK; clear K; try refine PX ?_) | ((first | refine GC_case_t (fun hr => ?_) (fun hr => ?_) | refine GC_case_f (fun hr => ?_) (fun hr => ?_)) <;> (have h := hr; (try simp only [RH, reduceCtorEq] at h); refine SHb ?_; clear hr) <;> (try (exfalso; omega))) | (show D _ (J.ops _ _ _ _); refine SEb ?_) | (refine T_app ?_; try refine SEb ?_) | (refine T_fork ?_ ?_) | (simp only [T_nil]) | (refine TS (fun h => ?_) (fun h => ?_) (hc := HEb) <;> (try simp only [RH, reduceCtorEq] at h) <;> (try (exfalso; omega))) | (show retR _ _ _ _ _; refine SRb ?_) | exact rfl))) <;> (try clear E))
      all_goals exact ⟨trivial, 0, by omega, (by have E := h5; exact IEb), hI, fun _ h => absurd h (by omega)⟩
    · have hn1 : n - 1 < xs.length := by omega
      have hix : ∀ kk : IntKind, idxV 2 v (.int kk ((n : Int) - 1)) = some (.cptr v.pc v.pg (v.po + (n - 1)) 0 [.int .i64 xs[n - 1].1, .int .i64 xs[n - 1].2]) := fun kk => by
        have := hL.ixm (k := 2) (kk := kk) hn1
        rw [show ((n : Int) - 1) = ((n - 1 : Nat) : Int) by omega, this, if_pos (by simp [sp, V.cells])]
        rfl
      have hdn : xs.drop (n - 1) = xs[n - 1] :: xs.drop n := by
        rw [List.drop_eq_getElem_cons hn1, show n - 1 + 1 = n by omega]
      have hgo : ltS p xs[n - 1] → ∀ q ∈ xs.drop (n - 1), ltS p q := fun h q hq => by
        rw [hdn] at hq
        rcases List.mem_cons.1 hq with rfl | h1
        · exact h
        · exact hI q h1
      ((have E := And.intro hfr (And.intro h5 hix); (repeat' (first | (refine NXt ?_; try intro K hK) | (refine hK _ _ ?_; clear hK; clear K; try refine PX ?_) | ((first | refine GC_case_t (fun hr => ?_) (fun hr => ?_) | refine GC_case_f (fun hr => ?_) (fun hr => ?_)) <;> (have h := hr; (try simp only [RH, reduceCtorEq] at h); refine SHb ?_; clear hr) <;> (try (exfalso; omega))) | (show D _ (J.ops _ _ _ _); refine SEb ?_) | (refine T_app ?_; try refine SEb ?_) | (refine T_fork ?_ ?_) | (simp only [T_nil]) | (refine TS (fun h => ?_) (fun h => ?_) (hc := HEb) <;> (try simp only [RH, reduceCtorEq] at h) <;> (try (exfalso; omega))) | (show retR _ _ _ _ _; refine SRb ?_) | exact rfl))) <;> (try clear E))
      all_goals first
        | exact ⟨n - 1, by omega, trivial, by omega, by (((have E := h5; first | exact SXb | refine SEb ?_) <;> (try clear E))); congr 1; omega, hgo (by simp only [ltS]; omega)⟩
        | exact ⟨trivial, n, hn, (by have E := h5; exact IEb), hI, fun _ _ => by simp only [ltS]; omega⟩
  · rintro F1 hfr1 ⟨k, hk, h5, hI, hlast⟩
    have hw : wOk 2 (xs.map sp) = true := wOk_of fun x hx => by obtain ⟨q, _, rfl⟩ := List.mem_map.1 hx; rfl
    have hs1 : ∀ s : St, sliceV 2 v none (some (.int .i64 (k : Int))) none s = some (v.sub 0 k, s) := fun s => hL.sl_b (k2 := .i64) (s := s) hw (by rw [List.length_map]; omega)
    have hs2 : ∀ s : St, sliceV 2 v (some (.int .i64 (k : Int))) none none s = some (v.sub k xs.length, s) := fun s => by
      have := hL.sl_a (k1 := .i64) (s := s) (l := k) hw (by rw [List.length_map]; omega)
      rwa [List.length_map] at this
    have hS1 := hL.sub 0 k
    have hS2 := hL.sub k xs.length
    rw [List.drop_zero, ← List.map_take] at hS1
    rw [← List.map_take, List.take_length, ← List.map_drop] at hS2
    have hw1 : wOk 2 ((xs.take k).map sp) = true := wOk_of fun x hx => by obtain ⟨q, _, rfl⟩ := List.mem_map.1 hx; rfl
    have hw2 : wOk 2 ((xs.drop k).map sp) = true := wOk_of fun x hx => by obtain ⟨q, _, rfl⟩ := List.mem_map.1 hx; rfl
    have hw3 : wOk 2 ((xs.take k).map sp ++ [sp p]) = true := wOk_of fun x hx => by
      rcases List.mem_append.1 hx with h | h
      · obtain ⟨q, _, rfl⟩ := List.mem_map.1 h; rfl
      · rw [List.mem_singleton.1 h]; rfl
    have hnew : k = 0 ∨ (∃ h : k - 1 < xs.length, 0 < k ∧ xs[k - 1] ≠ p) → (xs.take k ++ [p] ++ xs.drop k).Pairwise ltS ∧ (∀ q, q ∈ xs.take k ++ [p] ++ xs.drop k ↔ q ∈ xs ∨ q = p) := fun hcase => by
      have htk : ∀ q ∈ xs.take k, ltS q p := by
        intro q hq
        rcases hcase with h | ⟨h, h0, hne⟩
        · subst h; simp at hq
        · have hlt := hlast h h0
          have hle : ltS xs[k - 1] p := by
            have hne' : ¬ (xs[k - 1].1 = p.1 ∧ xs[k - 1].2 = p.2) := fun e => hne (Prod.ext e.1 e.2)
            simp only [ltS] at hlt ⊢; omega
          obtain ⟨i, hi, rfl⟩ := List.mem_iff_getElem.1 hq
          rw [List.length_take] at hi
          rw [List.getElem_take]
          by_cases hik : i = k - 1
          · subst hik; exact hle
          · have := List.pairwise_iff_getElem.1 hx i (k - 1) (by omega) h (by omega)
            simp only [ltS] at this hle ⊢; omega
      refine ⟨?_, fun q => ?_⟩
      · rw [List.pairwise_append, List.pairwise_append]
        refine ⟨⟨hx.sublist (List.take_sublist _ _), List.pairwise_singleton _ _, fun a ha b hb => ?_⟩, hx.sublist (List.drop_sublist _ _), fun a ha b hb => ?_⟩
        · rw [List.mem_singleton.1 hb]; exact htk a ha
        · rcases List.mem_append.1 ha with h | h
          · have h1 := htk a h
            have h2 := hI b hb
            simp only [ltS] at h1 h2 ⊢; omega
          · rw [List.mem_singleton.1 h]; exact hI b hb
      · have e : (q ∈ xs) ↔ (q ∈ xs.take k ∨ q ∈ xs.drop k) := by
          conv => lhs; rw [← List.take_append_drop k xs]
          exact List.mem_append
        rw [e]; simp only [List.mem_append, List.mem_singleton]; grind
    have hcase : (k = 0 ∨ (∃ h : k - 1 < xs.length, 0 < k ∧ xs[k - 1] ≠ p)) ∨ (∃ h : k - 1 < xs.length, 0 < k ∧ xs[k - 1] = p) := by
      rcases Nat.eq_zero_or_pos k with h0 | h0
      · exact .inl (.inl h0)
      · have h1 : k - 1 < xs.length := by omega
        by_cases he : xs[k - 1] = p
        · exact .inr ⟨h1, h0, he⟩
        · exact .inl (.inr ⟨h1, h0, he⟩)
    rcases hcase with hcase | ⟨h1, h0, he⟩
    · obtain ⟨hpw, hmem⟩ := hnew hcase
      have htree : ∀ F : Frame, (∀ r, (r = 0 ∨ r = 3 ∨ r = 5) → F r = F1 r) → D T (.code (.seq v33T .ret) F (s.new (.obj [.int .i64 p.1, .int .i64 p.2])) (retR [.t 4] fun v s' => SetIs v (fun q => q ∈ xs ∨ q = p) (xs.length + 1) ∧ St.Gr s s')) := by
        intro F hF
        have e0 := hF 0 (by simp)
        have e3 := hF 3 (by simp)
        have e5 := hF 5 (by simp)
        rw [hfr1 0 (by decide)] at e0
        rw [hfr1 3 (by decide)] at e3
        rw [h5] at e5
        (try simp only [put_at, frame_at, List.getD_cons_zero, Nat.reduceEqDiff, reduceCtorEq, ↓reduceIte] at e0 e3)
        unfold v33T
        ((have E := And.intro e0 (And.intro e3 (And.intro e5 (And.intro hs1 (And.intro hs2 hL.notStr)))); (repeat' (first | (refine NXt ?_; try intro K hK) | (refine hK _ _ ?_; clear hK; clear K; try refine PX ?_) | ((first | refine GC_case_t (fun hr => ?_) (fun hr => ?_) | refine GC_case_f (fun hr => ?_) (fun hr => ?_)) <;> (have h := hr; (try simp only [RH, reduceCtorEq] at h); refine SHb ?_; clear hr) <;> (try (exfalso; omega))) | (show D _ (J.ops _ _ _ _); refine SEb ?_) | (refine T_app ?_; try refine SEb ?_) | (refine T_fork ?_ ?_) | (simp only [T_nil]) | (refine TS (fun h => ?_) (fun h => ?_) (hc := HEb) <;> (try simp only [RH, reduceCtorEq] at h) <;> (try (exfalso; omega))) | (show retR _ _ _ _ _; refine SRb ?_) | exact rfl))) <;> (try clear E))
        all_goals
          refine X_appW (W := []) (S0 := s) IB IB (by first | assumption | exact mk0 (by first | omega | (((first | exact SCb | refine SBb ?_)) <;> omega)) (by first | omega | (((first | exact SCb | refine SBb ?_)) <;> omega)) (by (first | exact SCb | refine SBb ?_)) | exact Tip0.new_ (by assumption)) (by (exact LWb)) (by first | exact hS1.elems | exact hS2.elems | rfl) (by first | exact hS1.rowOk | exact hS2.rowOk | rfl) (by first | exact hw1 | exact hw2 | rfl) (by first | rfl | (simp only [List.nil_append]; first | exact hw1 | exact hw3)) (by simp; omega) (by omega) (by intro δ hδ; ((have E := e3; first | exact SXb | refine SEb ?_) <;> (try clear E))) ?_
          intro v1 δ1 htip1 hle1 hδ1
          (try simp only [NB] at hδ1)
          (repeat' (first | (refine NXt ?_; try intro K hK) | (refine hK _ _ ?_; clear hK; clear K; try refine PX ?_) | ((first | refine GC_case_t (fun hr => ?_) (fun hr => ?_) | refine GC_case_f (fun hr => ?_) (fun hr => ?_)) <;> (have h := hr; (try simp only [RH, reduceCtorEq] at h); simp (disch := first|exact DB|fail) only [hr, RB, ↓reduceIte, Nat.reduceEqDiff, reduceCtorEq, Nat.reduceLeDiff, Nat.reduceAdd, Int.reduceToNat, Nat.reduceLT]; clear hr) <;> (try (exfalso; omega))) | (show D _ (J.ops _ _ _ _); refine SBb ?_) | (refine T_app ?_; try refine SBb ?_) | (refine T_fork ?_ ?_) | (simp only [T_nil]) | (refine TS (fun h => ?_) (fun h => ?_) (hc := HCb) <;> (try simp only [RH, reduceCtorEq] at h) <;> (try (exfalso; omega))) | (show retR _ _ _ _ _; simp (disch := first|exact DB|fail) only [RR, RB, ↓reduceIte, Nat.reduceEqDiff, reduceCtorEq, Nat.reduceLeDiff, Nat.reduceAdd, Int.reduceToNat, Nat.reduceLT]) | exact rfl))
          refine X_appW (W := []) (S0 := s) IB IB (by first | assumption | exact mk0 (by first | omega | (((first | exact SCb | refine SBb ?_)) <;> omega)) (by first | omega | (((first | exact SCb | refine SBb ?_)) <;> omega)) (by (first | exact SCb | refine SBb ?_)) | exact Tip0.new_ (by assumption)) (by (exact LWb)) (by first | exact hS1.elems | exact hS2.elems | rfl) (by first | exact hS1.rowOk | exact hS2.rowOk | rfl) (by first | exact hw1 | exact hw2 | rfl) (by first | rfl | (simp only [List.nil_append]; first | exact hw1 | exact hw3)) (by simp; omega) (by omega) (by intro δ hδ; ((have E := e3; first | exact SXb | refine SEb ?_) <;> (try clear E))) ?_
          intro v1 δ1 htip1 hle1 hδ1
          (try simp only [NB] at hδ1)
          (repeat' (first | (refine NXt ?_; try intro K hK) | (refine hK _ _ ?_; clear hK; clear K; try refine PX ?_) | ((first | refine GC_case_t (fun hr => ?_) (fun hr => ?_) | refine GC_case_f (fun hr => ?_) (fun hr => ?_)) <;> (have h := hr; (try simp only [RH, reduceCtorEq] at h); simp (disch := first|exact DB|fail) only [hr, RB, ↓reduceIte, Nat.reduceEqDiff, reduceCtorEq, Nat.reduceLeDiff, Nat.reduceAdd, Int.reduceToNat, Nat.reduceLT]; clear hr) <;> (try (exfalso; omega))) | (show D _ (J.ops _ _ _ _); refine SBb ?_) | (refine T_app ?_; try refine SBb ?_) | (refine T_fork ?_ ?_) | (simp only [T_nil]) | (refine TS (fun h => ?_) (fun h => ?_) (hc := HCb) <;> (try simp only [RH, reduceCtorEq] at h) <;> (try (exfalso; omega))) | (show retR _ _ _ _ _; simp (disch := first|exact DB|fail) only [RR, RB, ↓reduceIte, Nat.reduceEqDiff, reduceCtorEq, Nat.reduceLeDiff, Nat.reduceAdd, Int.reduceToNat, Nat.reduceLT]) | exact rfl))
          refine X_appW (W := []) (S0 := s) IB IB (by first | assumption | exact mk0 (by first | omega | (((first | exact SCb | refine SBb ?_)) <;> omega)) (by first | omega | (((first | exact SCb | refine SBb ?_)) <;> omega)) (by (first | exact SCb | refine SBb ?_)) | exact Tip0.new_ (by assumption)) (by (exact LWb)) (by first | exact hS1.elems | exact hS2.elems | rfl) (by first | exact hS1.rowOk | exact hS2.rowOk | rfl) (by first | exact hw1 | exact hw2 | rfl) (by first | rfl | (simp only [List.nil_append]; first | exact hw1 | exact hw3)) (by simp; omega) (by omega) (by intro δ hδ; ((have E := e3; first | exact SXb | refine SEb ?_) <;> (try clear E))) ?_
          intro v1 δ1 htip1 hle1 hδ1
          (try simp only [NB] at hδ1)
          (repeat' (first | (refine NXt ?_; try intro K hK) | (refine hK _ _ ?_; clear hK; clear K; try refine PX ?_) | ((first | refine GC_case_t (fun hr => ?_) (fun hr => ?_) | refine GC_case_f (fun hr => ?_) (fun hr => ?_)) <;> (have h := hr; (try simp only [RH, reduceCtorEq] at h); simp (disch := first|exact DB|fail) only [hr, RB, ↓reduceIte, Nat.reduceEqDiff, reduceCtorEq, Nat.reduceLeDiff, Nat.reduceAdd, Int.reduceToNat, Nat.reduceLT]; clear hr) <;> (try (exfalso; omega))) | (show D _ (J.ops _ _ _ _); refine SBb ?_) | (refine T_app ?_; try refine SBb ?_) | (refine T_fork ?_ ?_) | (simp only [T_nil]) | (refine TS (fun h => ?_) (fun h => ?_) (hc := HCb) <;> (try simp only [RH, reduceCtorEq] at h) <;> (try (exfalso; omega))) | (show retR _ _ _ _ _; simp (disch := first|exact DB|fail) only [RR, RB, ↓reduceIte, Nat.reduceEqDiff, reduceCtorEq, Nat.reduceLeDiff, Nat.reduceAdd, Int.reduceToNat, Nat.reduceLT]) | exact rfl))
          refine ⟨⟨xs.take k ++ [p] ++ xs.drop k, by have := htip1.isL; simpa [sp] using this, hpw, hmem, by simp; omega⟩, by (exact LEb)⟩
      rcases hcase with rfl | ⟨hk1, hk0, hne⟩
      · ((have E := And.intro hfr1 h5; (repeat' (first | (refine NXa ?_; try intro K hK) | (refine hK _ _ ?_; clear hK; clear K; try refine PX ?_) | ((first | refine GC_case_t (fun hr => ?_) (fun hr => ?_) | refine GC_case_f (fun hr => ?_) (fun hr => ?_)) <;> (have h := hr; (try simp only [RH, reduceCtorEq] at h); refine SHb ?_; clear hr) <;> (try (exfalso; omega))) | (show D _ (J.ops _ _ _ _); refine SEb ?_) | (refine TS (fun h => ?_) (fun h => ?_) (hc := HEb) <;> (try simp only [RH, reduceCtorEq] at h) <;> (try (exfalso; omega))) | (show retR _ _ _ _ _; refine SRb ?_) | exact rfl))) <;> (try clear E))
        refine htree _ ?_
        rintro r (rfl | rfl | rfl) <;> exact IB
      · have hix : ∀ kk : IntKind, idxV 2 v (.int kk ((k : Int) - 1)) = some (.cptr v.pc v.pg (v.po + (k - 1)) 0 [.int .i64 xs[k - 1].1, .int .i64 xs[k - 1].2]) := fun kk => by
          have := hL.ixm (k := 2) (kk := kk) hk1
          rw [show ((k : Int) - 1) = ((k - 1 : Nat) : Int) by omega, this, if_pos (by simp [sp, V.cells])]
          rfl
        have hne' : ¬ (xs[k - 1].1 = p.1 ∧ xs[k - 1].2 = p.2) := fun e => hne (Prod.ext e.1 e.2)
        have hd : decide (xs[k - 1].1 = p.1 ∧ xs[k - 1].2 = p.2) = false := decide_eq_false hne'
        ((have E := And.intro hfr1 (And.intro h5 (And.intro hix hd)); (repeat' (first | (refine NXa ?_; try intro K hK) | (refine hK _ _ ?_; clear hK; clear K; try refine PX ?_) | ((first | refine GC_case_t (fun hr => ?_) (fun hr => ?_) | refine GC_case_f (fun hr => ?_) (fun hr => ?_)) <;> (have h := hr; (try simp only [RH, reduceCtorEq] at h); refine SHb ?_; clear hr) <;> (try (exfalso; omega))) | (show D _ (J.ops _ _ _ _); refine SEb ?_) | (refine TS (fun h => ?_) (fun h => ?_) (hc := HEb) <;> (try simp only [RH, reduceCtorEq] at h) <;> (try (exfalso; omega))) | (show retR _ _ _ _ _; refine SRb ?_) | exact rfl))) <;> (try clear E))
        refine htree _ ?_
        rintro r (rfl | rfl | rfl) <;> exact IB
    · have hix : ∀ kk : IntKind, idxV 2 v (.int kk ((k : Int) - 1)) = some (.cptr v.pc v.pg (v.po + (k - 1)) 0 [.int .i64 xs[k - 1].1, .int .i64 xs[k - 1].2]) := fun kk => by
        have := hL.ixm (k := 2) (kk := kk) h1
        rw [show ((k : Int) - 1) = ((k - 1 : Nat) : Int) by omega, this, if_pos (by simp [sp, V.cells])]
        rfl
      have hd : decide (xs[k - 1].1 = p.1 ∧ xs[k - 1].2 = p.2) = true := decide_eq_true (by rw [he]; exact ⟨rfl, rfl⟩)
      ((have E := And.intro hfr1 (And.intro h5 (And.intro hix hd)); (repeat' (first | (refine NXa ?_; try intro K hK) | (refine hK _ _ ?_; clear hK; clear K; try refine PX ?_) | ((first | refine GC_case_t (fun hr => ?_) (fun hr => ?_) | refine GC_case_f (fun hr => ?_) (fun hr => ?_)) <;> (have h := hr; (try simp only [RH, reduceCtorEq] at h); refine SHb ?_; clear hr) <;> (try (exfalso; omega))) | (show D _ (J.ops _ _ _ _); refine SEb ?_) | (refine TS (fun h => ?_) (fun h => ?_) (hc := HEb) <;> (try simp only [RH, reduceCtorEq] at h) <;> (try (exfalso; omega))) | (show retR _ _ _ _ _; refine SRb ?_) | exact rfl))) <;> (try clear E))
      exact ⟨⟨xs, hL, hx, fun q => ⟨.inl, fun h => h.elim id fun e => by rw [e, ← he]; exact List.getElem_mem h1⟩, by omega⟩, by (exact LEb)⟩
end Go.VS.Fn

namespace Go.VS.Fn
open Go.VS
variable {T : Nat → Option FnDef}

/-- A text's first token, and the one behind its last. -/
def tB : V → Int | .agg [_, .int _ x, _, _] => x | _ => 0
def tE : V → Int | .agg [_, _, .int _ y, _] => y | _ => 0
abbrev isTx (t : V) : Prop := ∃ a x y m, t = .agg [.str a, .int .i64 x, .int .i64 y, m] ∧ m.isCell = true
abbrev inT (t : V) (b : Int) : Prop := tB t ≤ b ∧ b < tE t
/-- The first text that holds a token. -/
def FirstT (ts : List V) (b : Int) (n : Nat) : Prop := ∃ h : n < ts.length, inT ts[n] b ∧ ∀ t ∈ ts.take n, ¬ inT t b
theorem FirstT.uniq {ts : List V} {b : Int} {n m : Nat} (h : FirstT ts b n) (k : FirstT ts b m) : n = m := by
  obtain ⟨h1, h2, h3⟩ := h
  obtain ⟨k1, k2, k3⟩ := k
  rcases Nat.lt_trichotomy n m with h | h | h
  · exact absurd h2 (k3 _ (List.mem_take_iff_getElem.2 ⟨n, by omega, rfl⟩))
  · exact h
  · exact absurd k2 (h3 _ (List.mem_take_iff_getElem.2 ⟨m, by omega, rfl⟩))
theorem FirstT.not {ts : List V} {b : Int} {n : Nat} (h : FirstT ts b n) (k : ∀ t ∈ ts, ¬ inT t b) : False := k _ (List.getElem_mem h.1) h.2.1

def OkAt (ts : List V) (zs : List (Int × Int)) (i : Nat) : Prop := ∃ h : i < zs.length, ∃ n, ∃ hn : n < ts.length, FirstT ts zs[i].1 n ∧ zs[i].1 < zs[i].2 ∧ zs[i].2 ≤ tE ts[n] ∧ (∀ h0 : 0 < i, ltS zs[i - 1] zs[i])

structure HI (T : Nat → Option FnDef) : Prop where
  h118 : T 118 = some (.body v118)
  h108 : T 108 = some (.body v108)

theorem take_not {ts : List V} {b : Int} {k : Nat} (hk : k < ts.length) (h : ∀ t ∈ ts.take k, ¬ inT t b) (h2 : ¬ inT ts[k] b) : ∀ t ∈ ts.take (k + 1), ¬ inT t b := by
  intro t ht
  rw [List.take_succ_eq_append_getElem hk] at ht
  rcases List.mem_append.1 ht with h1 | h1
  · exact h t h1
  · rw [List.mem_singleton.1 h1]; exact h2

theorem TextAt28_spec (S : HS T) (a0 a1 vt a3 a4 a5 a6 : V) (ts : List V) (hL : IsL vt ts) (hT : ∀ t ∈ ts, isTx t) (hlen : ts.length ≤ 100000) (b : Int) (s : St) :
    D T (.call 28 [.agg [a0, a1, vt, a3, a4, a5, a6], .int .i64 b] s (fun v s' => (∃ k : Int, v = .int .i64 k ∧ ((k = -1 ∧ ∀ t ∈ ts, ¬ inT t b) ∨ (∃ n : Nat, k = n ∧ FirstT ts b n))) ∧ St.Gr s s')) := by
  refine C.fn S.h28 rfl ?_
  unfold v28
  dsimp only
  ((have E := And.intro hL.len hL.notStr; (repeat' (first | (refine NXt ?_; try intro K hK) | (refine hK _ _ ?_; clear hK; clear K; try refine PX ?_) | ((first | refine GC_case_t (fun hr => ?_) (fun hr => ?_) | refine GC_case_f (fun hr => ?_) (fun hr => ?_)) <;> (have h := hr; (try simp only [RH, reduceCtorEq] at h); refine SHb ?_; clear hr) <;> (try (exfalso; omega))) | (show D _ (J.ops _ _ _ _); refine SEb ?_) | (refine T_app ?_; try refine SEb ?_) | (refine T_fork ?_ ?_) | (simp only [T_nil]) | (refine TS (fun h => ?_) (fun h => ?_) (hc := HEb) <;> (try simp only [RH, reduceCtorEq] at h) <;> (try (exfalso; omega))) | (show retR _ _ _ _ _; refine SRb ?_) | exact rfl))) <;> (try clear E))
  refine W.seq (W.rangeG (N := ts.length) (fun k F s' => ∀ t ∈ ts.take k, ¬ inT t b) IB IB (by omega) rfl ST (by simp) ?_ ?_)
  · rintro k F δ hk hfr hi hδ hI
    obtain ⟨a, x, y, m, hx, hmc⟩ := hT _ (List.getElem_mem hk)
    (try simp only [NB] at hδ)
    ((have E := And.intro hfr (And.intro hi (And.intro hL.ixE hx)); (repeat' (first | (refine NXt ?_; try intro K hK) | (refine hK _ _ ?_; clear hK; clear K; try refine PX ?_) | ((first | refine GC_case_t (fun hr => ?_) (fun hr => ?_) | refine GC_case_f (fun hr => ?_) (fun hr => ?_)) <;> (have h := hr; (try simp only [RH, reduceCtorEq] at h); refine SHb ?_; clear hr) <;> (try (exfalso; omega))) | (show D _ (J.ops _ _ _ _); refine SEb ?_) | (refine T_app ?_; try refine SEb ?_) | (refine T_fork ?_ ?_) | (simp only [T_nil]) | (refine TS (fun h => ?_) (fun h => ?_) (hc := HEb) <;> (try simp only [RH, reduceCtorEq] at h) <;> (try (exfalso; omega))) | (show retR _ _ _ _ _; refine SRb ?_) | exact rfl))) <;> (try clear E))
    · exact ⟨⟨k, rfl, .inr ⟨k, rfl, hk, by rw [hx]; exact ⟨by assumption, by assumption⟩, hI⟩⟩, by (exact LEb)⟩
    all_goals exact ⟨by (exact LEb), take_not hk hI (by rw [hx]; simp only [inT, tB, tE]; omega)⟩
  · rintro F δ hfr hδ hI
    rw [List.take_length] at hI
    ((have E := hfr; (repeat' (first | (refine NXt ?_; try intro K hK) | (refine hK _ _ ?_; clear hK; clear K; try refine PX ?_) | ((first | refine GC_case_t (fun hr => ?_) (fun hr => ?_) | refine GC_case_f (fun hr => ?_) (fun hr => ?_)) <;> (have h := hr; (try simp only [RH, reduceCtorEq] at h); refine SHb ?_; clear hr) <;> (try (exfalso; omega))) | (show D _ (J.ops _ _ _ _); refine SEb ?_) | (refine T_app ?_; try refine SEb ?_) | (refine T_fork ?_ ?_) | (simp only [T_nil]) | (refine TS (fun h => ?_) (fun h => ?_) (hc := HEb) <;> (try simp only [RH, reduceCtorEq] at h) <;> (try (exfalso; omega))) | (show retR _ _ _ _ _; refine SRb ?_) | exact rfl))) <;> (try clear E))
    exact ⟨⟨-1, rfl, .inl ⟨rfl, hI⟩⟩, by (exact LEb)⟩

theorem TextOf_spec (I : HI T) (a0 a1 vt a3 a4 a5 a6 : V) (ts : List V) (hL : IsL vt ts) (hT : ∀ t ∈ ts, isTx t) (hlen : ts.length ≤ 100000) (b : Int) (s : St) :
    D T (.call 118 [.agg [a0, a1, vt, a3, a4, a5, a6], .int .i64 b] s (fun v s' => (∃ (t : V) (ok : Bool), v = .tup [t, .bool ok] ∧ isTx t ∧ ((ok = false ∧ ∀ t ∈ ts, ¬ inT t b) ∨ (ok = true ∧ ∃ n, ∃ h : n < ts.length, t = ts[n] ∧ FirstT ts b n))) ∧ St.Gr s s')) := by
  refine C.fn I.h118 rfl ?_
  unfold v118
  dsimp only
  ((have E := And.intro hL.len hL.notStr; (repeat' (first | (refine NXt ?_; try intro K hK) | (refine hK _ _ ?_; clear hK; clear K; try refine PX ?_) | ((first | refine GC_case_t (fun hr => ?_) (fun hr => ?_) | refine GC_case_f (fun hr => ?_) (fun hr => ?_)) <;> (have h := hr; (try simp only [RH, reduceCtorEq] at h); refine SHb ?_; clear hr) <;> (try (exfalso; omega))) | (show D _ (J.ops _ _ _ _); refine SEb ?_) | (refine T_app ?_; try refine SEb ?_) | (refine T_fork ?_ ?_) | (simp only [T_nil]) | (refine TS (fun h => ?_) (fun h => ?_) (hc := HEb) <;> (try simp only [RH, reduceCtorEq] at h) <;> (try (exfalso; omega))) | (show retR _ _ _ _ _; refine SRb ?_) | exact rfl))) <;> (try clear E))
  refine W.seq (W.range (N := ts.length) (fun k F s' => (∀ t ∈ ts.take k, ¬ inT t b) ∧ St.Le s s' ∧ s.next + 1 < s'.next ∧ s'.mem (s.next + 1) = some (.obj [.str [], .int .i64 0, .int .i64 0, .nilsl])) IB IB (by omega) rfl ST ⟨by simp, by (exact LEb), by exact DB, by (first | exact SCb | refine SBb ?_)⟩ ?_ ?_)
  · rintro k F s2 hk hfr hi ⟨hI, hle, hlt, hm⟩
    obtain ⟨a, x, y, m, hx, hmc⟩ := hT _ (List.getElem_mem hk)
    ((have E := And.intro hfr (And.intro hi (And.intro hL.ixE (And.intro hx hm))); (repeat' (first | (refine NXt ?_; try intro K hK) | (refine hK _ _ ?_; clear hK; clear K; try refine PX ?_) | ((first | refine GC_case_t (fun hr => ?_) (fun hr => ?_) | refine GC_case_f (fun hr => ?_) (fun hr => ?_)) <;> (have h := hr; (try simp only [RH, reduceCtorEq] at h); refine SHb ?_; clear hr) <;> (try (exfalso; omega))) | (show D _ (J.ops _ _ _ _); refine SEb ?_) | (refine T_app ?_; try refine SEb ?_) | (refine T_fork ?_ ?_) | (simp only [T_nil]) | (refine TS (fun h => ?_) (fun h => ?_) (hc := HEb) <;> (try simp only [RH, reduceCtorEq] at h) <;> (try (exfalso; omega))) | (show retR _ _ _ _ _; refine SRb ?_) | exact rfl))) <;> (try clear E))
    · exact ⟨⟨_, _, rfl, ⟨a, x, y, m, rfl, hmc⟩, .inr ⟨rfl, k, hk, hx.symm, hk, by rw [hx]; exact ⟨by assumption, by assumption⟩, hI⟩⟩, by (exact LEb)⟩
    all_goals exact ⟨take_not hk hI (by rw [hx]; simp only [inT, tB, tE]; omega), by (exact LEb), by exact DB, by ((have E := hm; first | exact SXb | refine SEb ?_) <;> (try clear E))⟩
  · rintro F s2 hfr ⟨hI, hle, hlt, hm⟩
    rw [List.take_length] at hI
    ((have E := And.intro hfr hm; (repeat' (first | (refine NXt ?_; try intro K hK) | (refine hK _ _ ?_; clear hK; clear K; try refine PX ?_) | ((first | refine GC_case_t (fun hr => ?_) (fun hr => ?_) | refine GC_case_f (fun hr => ?_) (fun hr => ?_)) <;> (have h := hr; (try simp only [RH, reduceCtorEq] at h); refine SHb ?_; clear hr) <;> (try (exfalso; omega))) | (show D _ (J.ops _ _ _ _); refine SEb ?_) | (refine T_app ?_; try refine SEb ?_) | (refine T_fork ?_ ?_) | (simp only [T_nil]) | (refine TS (fun h => ?_) (fun h => ?_) (hc := HEb) <;> (try simp only [RH, reduceCtorEq] at h) <;> (try (exfalso; omega))) | (show retR _ _ _ _ _; refine SRb ?_) | exact rfl))) <;> (try clear E))
    exact ⟨⟨_, _, rfl, ⟨[], 0, 0, .nilsl, rfl, rfl⟩, .inl ⟨rfl, hI⟩⟩, by (exact LEb)⟩

theorem all_succ {P : Nat → Prop} {k : Nat} (h : ∀ i, i < k → P i) (hk : P k) : ∀ i, i < k + 1 → P i := fun i hi => by
  by_cases h1 : i = k
  · subst h1; exact hk
  · exact h i (by omega)

theorem okAt_not {ts : List V} {zs : List (Int × Int)} {k n : Nat} {hk : k < zs.length} (hn : n < ts.length) (hF : FirstT ts zs[k].1 n) (h : ¬ zs[k].2 ≤ tE ts[n]) : ¬ OkAt ts zs k := by
  rintro ⟨_, n', hn', hf, _, h2, _⟩
  have := hF.uniq hf
  subst this
  exact h h2
theorem okAt_not2 {ts : List V} {zs : List (Int × Int)} {k : Nat} {hk : k < zs.length} (h0 : 0 < k) (h : ¬ ltS zs[k - 1] zs[k]) : ¬ OkAt ts zs k := by
  rintro ⟨_, n', hn', hf, _, h2, h3⟩
  exact h (h3 h0)
theorem cmpS_nn (p q : Int × Int) : (0 ≤ cmpS p q) ↔ ¬ ltS p q := by
  simp only [cmpS, cmpI, ltS]
  by_cases h1 : p.1 < q.1
  · simp [h1]
  · by_cases h2 : q.1 < p.1
    · simp [h1, h2]; omega
    · have h3 : p.1 = q.1 := by omega
      by_cases h4 : p.2 < q.2
      · simp [h3, h4]
      · by_cases h5 : q.2 < p.2 <;> simp [h3, h4, h5]

set_option maxHeartbeats 4000000 in
theorem IsListP_spec (S : HS T) (a0 a1 vt a3 a4 a5 a6 v : V) (ts : List V) (hL : IsL vt ts) (hT : ∀ t ∈ ts, isTx t) (hlen : ts.length ≤ 100000) (zs : List (Int × Int)) (hv : IsL v (zs.map sp)) (hzl : zs.length ≤ 100000) (s : St) :
    D T (.call 11 [.agg [a0, a1, vt, a3, a4, a5, a6], v] s (fun v s' => (∃ b, v = .bool b ∧ (b = true ↔ ∀ i, i < zs.length → OkAt ts zs i)) ∧ St.Gr s s')) := by
  refine C.fn S.h11 rfl ?_
  unfold v11
  dsimp only
  ((have E := And.intro hv.lenm hv.notStr; (repeat' (first | (refine NXt ?_; try intro K hK) | (refine hK _ _ ?_; clear hK; clear K; try refine PX ?_) | ((first | refine GC_case_t (fun hr => ?_) (fun hr => ?_) | refine GC_case_f (fun hr => ?_) (fun hr => ?_)) <;> (have h := hr; (try simp only [RH, reduceCtorEq] at h); refine SHb ?_; clear hr) <;> (try (exfalso; omega))) | (show D _ (J.ops _ _ _ _); refine SEb ?_) | (refine T_app ?_; try refine SEb ?_) | (refine T_fork ?_ ?_) | (simp only [T_nil]) | (refine TS (fun h => ?_) (fun h => ?_) (hc := HEb) <;> (try simp only [RH, reduceCtorEq] at h) <;> (try (exfalso; omega))) | (show retR _ _ _ _ _; refine SRb ?_) | exact rfl))) <;> (try clear E))
  refine W.seq (W.rangeG (N := zs.length) (fun k F s' => ∀ i, i < k → OkAt ts zs i) IB IB (by omega) rfl ST (by omega) ?_ ?_)
  · rintro k F δ hk hfr hi hδ hI
    (try simp only [NB] at hδ)
    have hF1 : ¬ OkAt ts zs k → (∃ b, V.bool false = .bool b ∧ (b = true ↔ ∀ i, i < zs.length → OkAt ts zs i)) := fun hn => ⟨false, rfl, by simp; exact ⟨k, hk, hn⟩⟩
    ((have E := And.intro hfr (And.intro hi (And.intro hv.ixmE sp_def)); (repeat' (first | (refine NXt ?_; try intro K hK) | (refine hK _ _ ?_; clear hK; clear K; try refine PX ?_) | ((first | refine GC_case_t (fun hr => ?_) (fun hr => ?_) | refine GC_case_f (fun hr => ?_) (fun hr => ?_)) <;> (have h := hr; (try simp only [RH, reduceCtorEq] at h); refine SHb ?_; clear hr) <;> (try (exfalso; omega))) | (refine X_callc rfl ?_; refine SNb ?_; refine D.mono_call (TextAt28_spec S _ _ _ _ _ _ _ _ hL hT hlen _ _) ?_; rintro v s' ⟨⟨kk, rfl, hkk⟩, δ, hδ, rfl⟩; (try simp only [NB] at hδ); refine ⟨by exact CEb, ?_⟩; try refine SEb ?_) | (show D _ (J.ops _ _ _ _); refine SEb ?_) | (refine T_app ?_; try refine SEb ?_) | (refine T_fork ?_ ?_) | (simp only [T_nil]) | (refine TS (fun h => ?_) (fun h => ?_) (hc := HEb) <;> (try simp only [RH, reduceCtorEq] at h) <;> (try (exfalso; omega))) | (show retR _ _ _ _ _; refine SRb ?_) | exact rfl))) <;> (try clear E))
    · rcases hkk with ⟨rfl, _⟩ | ⟨n, rfl, hF⟩
      · omega
      obtain ⟨hn, hin, hnot⟩ := hF
      obtain ⟨a, x, y, m, hx, hmc⟩ := hT _ (List.getElem_mem hn)
      rcases Nat.eq_zero_or_pos k with hk0 | hk0
      · ((have E := And.intro hL.ixE hx; first | exact SXb | refine SEb ?_) <;> (try clear E))
        ((have E := And.intro hL.ixE (And.intro hx (And.intro hfr (And.intro hi (And.intro hv.ixmE sp_def)))); (repeat' (first | (refine NXt ?_; try intro K hK) | (refine hK _ _ ?_; clear hK; clear K; try refine PX ?_) | ((first | refine GC_case_t (fun hr => ?_) (fun hr => ?_) | refine GC_case_f (fun hr => ?_) (fun hr => ?_)) <;> (have h := hr; (try simp only [RH, reduceCtorEq] at h); refine SHb ?_; clear hr) <;> (try (exfalso; omega))) | (show D _ (J.ops _ _ _ _); refine SEb ?_) | (refine T_app ?_; try refine SEb ?_) | (refine T_fork ?_ ?_) | (simp only [T_nil]) | (refine TS (fun h => ?_) (fun h => ?_) (hc := HEb) <;> (try simp only [RH, reduceCtorEq] at h) <;> (try (exfalso; omega))) | (show retR _ _ _ _ _; refine SRb ?_) | exact rfl))) <;> (try clear E))
        all_goals first
          | exact ⟨hF1 (okAt_not hn ⟨hn, hin, hnot⟩ (by rw [hx]; simp only [tE]; omega)), by (exact LEb)⟩
          | exact ⟨by (exact LEb), all_succ hI ⟨hk, n, hn, ⟨hn, hin, hnot⟩, by omega, by rw [hx]; simp only [tE]; omega, fun h0 => absurd h0 (by omega)⟩⟩
      · have hcmp := cmpS_nn zs[((k : Int) - 1).toNat] zs[k]
        have hk1 : ((k : Int) - 1).toNat = k - 1 := by omega
        ((have E := And.intro hL.ixE hx; first | exact SXb | refine SEb ?_) <;> (try clear E))
        ((have E := And.intro hL.ixE (And.intro hx (And.intro hfr (And.intro hi (And.intro hv.ixmE (And.intro hv.ixzE sp_def))))); (repeat' (first | (refine NXt ?_; try intro K hK) | (refine hK _ _ ?_; clear hK; clear K; try refine PX ?_) | ((first | refine GC_case_t (fun hr => ?_) (fun hr => ?_) | refine GC_case_f (fun hr => ?_) (fun hr => ?_)) <;> (have h := hr; (try simp only [RH, reduceCtorEq] at h); refine SHb ?_; clear hr) <;> (try (exfalso; omega))) | (refine X_callc rfl ?_; refine SNb ?_; refine D.mono_call (compare_spec S zs[((k : Int) - 1).toNat] zs[k] _) ?_; rintro v s' ⟨rfl, δ, hδ, rfl⟩; (try simp only [NB] at hδ); refine ⟨by exact CEb, ?_⟩; try refine SEb ?_) | (show D _ (J.ops _ _ _ _); refine SEb ?_) | (refine T_app ?_; try refine SEb ?_) | (refine T_fork ?_ ?_) | (simp only [T_nil]) | (refine TS (fun h => ?_) (fun h => ?_) (hc := HEb) <;> (try simp only [RH, reduceCtorEq] at h) <;> (try (exfalso; omega))) | (show retR _ _ _ _ _; refine SRb ?_) | exact rfl))) <;> (try clear E))
        all_goals first
          | exact ⟨hF1 (okAt_not hn ⟨hn, hin, hnot⟩ (by rw [hx]; simp only [tE]; omega)), by (exact LEb)⟩
          | exact ⟨hF1 (okAt_not2 hk0 (by simp only [hk1] at hcmp; exact hcmp.1 (by simp only [hk1] at h; omega))), by (exact LEb)⟩
          | exact ⟨by (exact LEb), all_succ hI ⟨hk, n, hn, ⟨hn, hin, hnot⟩, by omega, by rw [hx]; simp only [tE]; omega, fun h0 => Classical.byContradiction fun hc => by simp only [hk1] at hcmp h; have := hcmp.2 hc; omega⟩⟩
    all_goals
      rcases hkk with ⟨rfl, hno⟩ | ⟨n, rfl, hF⟩
      · first | omega | exact ⟨hF1 fun ⟨_, n, hn, hf, _⟩ => hf.not hno, by (exact LEb)⟩
      · first | omega | exact ⟨hF1 fun ⟨_, n, hn, hf, hh, _⟩ => by omega, by (exact LEb)⟩
  · rintro F δ hfr hδ hI
    ((have E := hfr; (repeat' (first | (refine NXt ?_; try intro K hK) | (refine hK _ _ ?_; clear hK; clear K; try refine PX ?_) | ((first | refine GC_case_t (fun hr => ?_) (fun hr => ?_) | refine GC_case_f (fun hr => ?_) (fun hr => ?_)) <;> (have h := hr; (try simp only [RH, reduceCtorEq] at h); refine SHb ?_; clear hr) <;> (try (exfalso; omega))) | (show D _ (J.ops _ _ _ _); refine SEb ?_) | (refine T_app ?_; try refine SEb ?_) | (refine T_fork ?_ ?_) | (simp only [T_nil]) | (refine TS (fun h => ?_) (fun h => ?_) (hc := HEb) <;> (try simp only [RH, reduceCtorEq] at h) <;> (try (exfalso; omega))) | (show retR _ _ _ _ _; refine SRb ?_) | exact rfl))) <;> (try clear E))
    exact ⟨⟨true, rfl, by simpa using hI⟩, by (exact LEb)⟩

set_option maxHeartbeats 4000000 in
theorem IsListR_spec (I : HI T) (a0 a1 vt a3 a4 a5 a6 v : V) (ts : List V) (hL : IsL vt ts) (hT : ∀ t ∈ ts, isTx t) (hlen : ts.length ≤ 100000) (zs : List (Int × Int)) (hv : IsL v (zs.map sp)) (hzl : zs.length ≤ 100000) (s : St) :
    D T (.call 108 [.agg [a0, a1, vt, a3, a4, a5, a6], v] s (fun v s' => (∃ b, v = .bool b ∧ (b = true ↔ ∀ i, i < zs.length → OkAt ts zs i)) ∧ St.Gr s s')) := by
  refine C.fn I.h108 rfl ?_
  unfold v108
  dsimp only
  ((have E := And.intro hv.lenm hv.notStr; (repeat' (first | (refine NXt ?_; try intro K hK) | (refine hK _ _ ?_; clear hK; clear K; try refine PX ?_) | ((first | refine GC_case_t (fun hr => ?_) (fun hr => ?_) | refine GC_case_f (fun hr => ?_) (fun hr => ?_)) <;> (have h := hr; (try simp only [RH, reduceCtorEq] at h); refine SHb ?_; clear hr) <;> (try (exfalso; omega))) | (show D _ (J.ops _ _ _ _); refine SEb ?_) | (refine T_app ?_; try refine SEb ?_) | (refine T_fork ?_ ?_) | (simp only [T_nil]) | (refine TS (fun h => ?_) (fun h => ?_) (hc := HEb) <;> (try simp only [RH, reduceCtorEq] at h) <;> (try (exfalso; omega))) | (show retR _ _ _ _ _; refine SRb ?_) | exact rfl))) <;> (try clear E))
  refine W.seq (W.rangeG (N := zs.length) (fun k F s' => ∀ i, i < k → OkAt ts zs i) IB IB (by omega) rfl ST (by omega) ?_ ?_)
  · rintro k F δ hk hfr hi hδ hI
    (try simp only [NB] at hδ)
    have hF1 : ¬ OkAt ts zs k → (∃ b, V.bool false = .bool b ∧ (b = true ↔ ∀ i, i < zs.length → OkAt ts zs i)) := fun hn => ⟨false, rfl, by simp; exact ⟨k, hk, hn⟩⟩
    ((have E := And.intro hfr (And.intro hi (And.intro hv.ixmE sp_def)); (repeat' (first | (refine NXt ?_; try intro K hK) | (refine hK _ _ ?_; clear hK; clear K; try refine PX ?_) | ((first | refine GC_case_t (fun hr => ?_) (fun hr => ?_) | refine GC_case_f (fun hr => ?_) (fun hr => ?_)) <;> (have h := hr; (try simp only [RH, reduceCtorEq] at h); refine SHb ?_; clear hr) <;> (try (exfalso; omega))) | (refine X_callc rfl ?_; refine SNb ?_; refine D.mono_call (TextOf_spec I _ _ _ _ _ _ _ _ hL hT hlen _ _) ?_; rintro v s' ⟨⟨_, ok, rfl, ⟨a, x, y, m, rfl, hmc⟩, hkk⟩, δ, hδ, rfl⟩; (try simp only [NB] at hδ); refine ⟨by exact CEb, ?_⟩; try refine SEb ?_) | (show D _ (J.ops _ _ _ _); refine SEb ?_) | (refine T_app ?_; try refine SEb ?_) | (refine T_fork ?_ ?_) | (simp only [T_nil]) | (refine TS (fun h => ?_) (fun h => ?_) (hc := HEb) <;> (try simp only [RH, reduceCtorEq] at h) <;> (try (exfalso; omega))) | (show retR _ _ _ _ _; refine SRb ?_) | exact rfl))) <;> (try clear E))
    all_goals rcases hkk with ⟨rfl, hno⟩ | ⟨rfl, n, hn, hx, hF⟩
    all_goals first
      | contradiction
      | exact ⟨hF1 fun ⟨_, n, hn, hf, _⟩ => hf.not hno, by (exact LEb)⟩
      | exact ⟨hF1 fun ⟨_, n, hn, hf, hh, _⟩ => by omega, by (exact LEb)⟩
      | exact ⟨hF1 (okAt_not hn hF (by rw [← hx]; simp only [tE]; omega)), by (exact LEb)⟩
      | exact ⟨by (exact LEb), all_succ hI ⟨hk, n, hn, hF, by omega, by rw [← hx]; simp only [tE]; omega, fun h0 => absurd h0 (by omega)⟩⟩
      | skip
    have hk0 : 0 < k := by omega
    have hk1 : ((k : Int) - 1).toNat = k - 1 := by omega
    ((have E := And.intro hv.ixzE sp_def; first | exact SXb | refine SEb ?_) <;> (try clear E))
    ((have E := And.intro hfr (And.intro hi (And.intro hv.ixmE (And.intro hv.ixzE sp_def))); (repeat' (first | (refine NXt ?_; try intro K hK) | (refine hK _ _ ?_; clear hK; clear K; try refine PX ?_) | ((first | refine GC_case_t (fun hr => ?_) (fun hr => ?_) | refine GC_case_f (fun hr => ?_) (fun hr => ?_)) <;> (have h := hr; (try simp only [RH, reduceCtorEq] at h); refine SHb ?_; clear hr) <;> (try (exfalso; omega))) | (show D _ (J.ops _ _ _ _); refine SEb ?_) | (refine T_app ?_; try refine SEb ?_) | (refine T_fork ?_ ?_) | (simp only [T_nil]) | (refine TS (fun h => ?_) (fun h => ?_) (hc := HEb) <;> (try simp only [RH, reduceCtorEq] at h) <;> (try (exfalso; omega))) | (show retR _ _ _ _ _; refine SRb ?_) | exact rfl))) <;> (try clear E))
    all_goals simp only [hk1] at *
    all_goals first
      | exact ⟨hF1 (okAt_not2 hk0 (by simp only [ltS]; omega)), by (exact LEb)⟩
      | exact ⟨by (exact LEb), all_succ hI ⟨hk, n, hn, hF, by omega, by rw [← hx]; simp only [tE]; omega, fun h0 => by simp only [ltS]; omega⟩⟩
  · rintro F δ hfr hδ hI
    ((have E := hfr; (repeat' (first | (refine NXt ?_; try intro K hK) | (refine hK _ _ ?_; clear hK; clear K; try refine PX ?_) | ((first | refine GC_case_t (fun hr => ?_) (fun hr => ?_) | refine GC_case_f (fun hr => ?_) (fun hr => ?_)) <;> (have h := hr; (try simp only [RH, reduceCtorEq] at h); refine SHb ?_; clear hr) <;> (try (exfalso; omega))) | (show D _ (J.ops _ _ _ _); refine SEb ?_) | (refine T_app ?_; try refine SEb ?_) | (refine T_fork ?_ ?_) | (simp only [T_nil]) | (refine TS (fun h => ?_) (fun h => ?_) (hc := HEb) <;> (try simp only [RH, reduceCtorEq] at h) <;> (try (exfalso; omega))) | (show retR _ _ _ _ _; refine SRb ?_) | exact rfl))) <;> (try clear E))
    exact ⟨⟨true, rfl, by simpa using hI⟩, by (exact LEb)⟩
end Go.VS.Fn

namespace Go.VS.Fn
open Go.VS
variable {T : Nat → Option FnDef}

structure HU (T : Nat → Option FnDef) : Prop where
  h104 : T 104 = some (.body v104)
  h105 : T 105 = some (.body v105)
  h106 : T 106 = some (.body v106)
  h107 : T 107 = some (.body v107)

/-- What a list of spans holds behind k rounds. -/
def Acc (v : V) (P : Int × Int → Prop) (n : Nat) : Prop := ∃ zs : List (Int × Int), IsL v (zs.map sp) ∧ zs.Pairwise ltS ∧ (∀ q, q ∈ zs ↔ P q) ∧ zs.length ≤ n
theorem Acc.set {v : V} {P : Int × Int → Prop} {n : Nat} (h : Acc v P n) : SetIs v P n := h
theorem mem_take_succ {xs : List (Int × Int)} {k : Nat} (hk : k < xs.length) (q : Int × Int) : q ∈ xs.take (k + 1) ↔ q ∈ xs.take k ∨ q = xs[k] := by
  rw [List.take_succ_eq_append_getElem hk, List.mem_append, List.mem_singleton]

theorem Intersect30_spec (R : HR T) (U : HU T) (va vb : V) (xs ys : List (Int × Int)) (ha : IsL va (xs.map sp)) (hb : IsL vb (ys.map sp)) (hl : xs.length ≤ 50000) (hl2 : ys.length ≤ 100000) (s : St) : D T (.call 105 [va, vb] s (fun v s' => SetIs v (fun p => p ∈ xs ∧ p ∈ ys) xs.length ∧ St.Gr s s')) := by
  refine C.fn U.h105 rfl ?_
  unfold v105
  dsimp only
  ((have E := And.intro ha.lenm ha.notStr; (repeat' (first | (refine NXt ?_; try intro K hK) | (refine hK _ _ ?_; clear hK; clear K; try refine PX ?_) | ((first | refine GC_case_t (fun hr => ?_) (fun hr => ?_) | refine GC_case_f (fun hr => ?_) (fun hr => ?_)) <;> (have h := hr; (try simp only [RH, reduceCtorEq] at h); refine SHb ?_; clear hr) <;> (try (exfalso; omega))) | (show D _ (J.ops _ _ _ _); refine SEb ?_) | (refine T_app ?_; try refine SEb ?_) | (refine T_fork ?_ ?_) | (simp only [T_nil]) | (refine TS (fun h => ?_) (fun h => ?_) (hc := HEb) <;> (try simp only [RH, reduceCtorEq] at h) <;> (try (exfalso; omega))) | (show retR _ _ _ _ _; refine SRb ?_) | exact rfl))) <;> (try clear E))
  refine W.seq (W.rangeG (N := xs.length) (fun k F s' => Acc (F 5) (fun q => q ∈ xs.take k ∧ q ∈ ys) k) IB IB (by omega) rfl ST ⟨[], by (first | exact SCb | refine SBb ?_); exact .nil, .nil, by simp, by simp⟩ ?_ ?_)
  · rintro k F δ hk hfr hi hδ ⟨zs, hz, hpw, hm, hzl⟩
    (try simp only [NB] at hδ)
    by_cases hy : xs[k] ∈ ys
    · have hd : decide (xs[k] ∈ ys) = true := decide_eq_true hy
      ((have E := And.intro hfr (And.intro hi (And.intro ha.ixmE (And.intro sp_def hd))); (repeat' (first | (refine NXt ?_; try intro K hK) | (refine hK _ _ ?_; clear hK; clear K; try refine PX ?_) | ((first | refine GC_case_t (fun hr => ?_) (fun hr => ?_) | refine GC_case_f (fun hr => ?_) (fun hr => ?_)) <;> (have h := hr; (try simp only [RH, reduceCtorEq] at h); refine SHb ?_; clear hr) <;> (try (exfalso; omega))) | (refine X_callc rfl ?_; refine SNb ?_; refine D.mono_call (has_spec R _ _ hb hl2 xs[k] _) ?_; rintro v s' ⟨rfl, δ, hδ, rfl⟩; (try simp only [NB] at hδ); refine ⟨by exact CEb, ?_⟩; try refine SEb ?_) | (refine X_callc rfl ?_; refine SNb ?_; refine D.mono_call (Insert_spec R _ _ hz (by omega) hpw xs[k] _) ?_; rintro v s' ⟨⟨zs2, hz2, hpw2, hm2, hl3⟩, δ, hδ, rfl⟩; (try simp only [NB] at hδ); refine ⟨by exact CEb, ?_⟩; try refine SEb ?_) | (show D _ (J.ops _ _ _ _); refine SEb ?_) | (refine T_app ?_; try refine SEb ?_) | (refine T_fork ?_ ?_) | (simp only [T_nil]) | (refine TS (fun h => ?_) (fun h => ?_) (hc := HEb) <;> (try simp only [RH, reduceCtorEq] at h) <;> (try (exfalso; omega))) | (show retR _ _ _ _ _; refine SRb ?_) | exact rfl))) <;> (try clear E))
      all_goals exact ⟨by (exact LEb), zs2, by (first | exact SCb | refine SBb ?_); exact hz2, hpw2, fun q => by simp only [hm2, hm, mem_take_succ hk]; grind, by omega⟩
    · have hd : decide (xs[k] ∈ ys) = false := decide_eq_false hy
      ((have E := And.intro hfr (And.intro hi (And.intro ha.ixmE (And.intro sp_def hd))); (repeat' (first | (refine NXt ?_; try intro K hK) | (refine hK _ _ ?_; clear hK; clear K; try refine PX ?_) | ((first | refine GC_case_t (fun hr => ?_) (fun hr => ?_) | refine GC_case_f (fun hr => ?_) (fun hr => ?_)) <;> (have h := hr; (try simp only [RH, reduceCtorEq] at h); refine SHb ?_; clear hr) <;> (try (exfalso; omega))) | (refine X_callc rfl ?_; refine SNb ?_; refine D.mono_call (has_spec R _ _ hb hl2 xs[k] _) ?_; rintro v s' ⟨rfl, δ, hδ, rfl⟩; (try simp only [NB] at hδ); refine ⟨by exact CEb, ?_⟩; try refine SEb ?_) | (show D _ (J.ops _ _ _ _); refine SEb ?_) | (refine T_app ?_; try refine SEb ?_) | (refine T_fork ?_ ?_) | (simp only [T_nil]) | (refine TS (fun h => ?_) (fun h => ?_) (hc := HEb) <;> (try simp only [RH, reduceCtorEq] at h) <;> (try (exfalso; omega))) | (show retR _ _ _ _ _; refine SRb ?_) | exact rfl))) <;> (try clear E))
      all_goals exact ⟨by (exact LEb), zs, by (first | exact SCb | refine SBb ?_); exact hz, hpw, fun q => by simp only [hm, mem_take_succ hk]; grind, by omega⟩
  · rintro F δ hfr hδ ⟨zs, hz, hpw, hm, hzl⟩
    rw [List.take_length] at hm
    ((have E := hfr; (repeat' (first | (refine NXt ?_; try intro K hK) | (refine hK _ _ ?_; clear hK; clear K; try refine PX ?_) | ((first | refine GC_case_t (fun hr => ?_) (fun hr => ?_) | refine GC_case_f (fun hr => ?_) (fun hr => ?_)) <;> (have h := hr; (try simp only [RH, reduceCtorEq] at h); refine SHb ?_; clear hr) <;> (try (exfalso; omega))) | (show D _ (J.ops _ _ _ _); refine SEb ?_) | (refine T_app ?_; try refine SEb ?_) | (refine T_fork ?_ ?_) | (simp only [T_nil]) | (refine TS (fun h => ?_) (fun h => ?_) (hc := HEb) <;> (try simp only [RH, reduceCtorEq] at h) <;> (try (exfalso; omega))) | (show retR _ _ _ _ _; refine SRb ?_) | exact rfl))) <;> (try clear E))
    exact ⟨⟨zs, hz, hpw, hm, hzl⟩, by (exact LEb)⟩

theorem Subtract30_spec (R : HR T) (U : HU T) (va vb : V) (xs ys : List (Int × Int)) (ha : IsL va (xs.map sp)) (hb : IsL vb (ys.map sp)) (hl : xs.length ≤ 50000) (hl2 : ys.length ≤ 100000) (s : St) : D T (.call 106 [va, vb] s (fun v s' => SetIs v (fun p => p ∈ xs ∧ p ∉ ys) xs.length ∧ St.Gr s s')) := by
  refine C.fn U.h106 rfl ?_
  unfold v106
  dsimp only
  ((have E := And.intro ha.lenm ha.notStr; (repeat' (first | (refine NXt ?_; try intro K hK) | (refine hK _ _ ?_; clear hK; clear K; try refine PX ?_) | ((first | refine GC_case_t (fun hr => ?_) (fun hr => ?_) | refine GC_case_f (fun hr => ?_) (fun hr => ?_)) <;> (have h := hr; (try simp only [RH, reduceCtorEq] at h); refine SHb ?_; clear hr) <;> (try (exfalso; omega))) | (show D _ (J.ops _ _ _ _); refine SEb ?_) | (refine T_app ?_; try refine SEb ?_) | (refine T_fork ?_ ?_) | (simp only [T_nil]) | (refine TS (fun h => ?_) (fun h => ?_) (hc := HEb) <;> (try simp only [RH, reduceCtorEq] at h) <;> (try (exfalso; omega))) | (show retR _ _ _ _ _; refine SRb ?_) | exact rfl))) <;> (try clear E))
  refine W.seq (W.rangeG (N := xs.length) (fun k F s' => Acc (F 5) (fun q => q ∈ xs.take k ∧ q ∉ ys) k) IB IB (by omega) rfl ST ⟨[], by (first | exact SCb | refine SBb ?_); exact .nil, .nil, by simp, by simp⟩ ?_ ?_)
  · rintro k F δ hk hfr hi hδ ⟨zs, hz, hpw, hm, hzl⟩
    (try simp only [NB] at hδ)
    by_cases hy : xs[k] ∈ ys
    · have hd : decide (xs[k] ∈ ys) = true := decide_eq_true hy
      ((have E := And.intro hfr (And.intro hi (And.intro ha.ixmE (And.intro sp_def hd))); (repeat' (first | (refine NXt ?_; try intro K hK) | (refine hK _ _ ?_; clear hK; clear K; try refine PX ?_) | ((first | refine GC_case_t (fun hr => ?_) (fun hr => ?_) | refine GC_case_f (fun hr => ?_) (fun hr => ?_)) <;> (have h := hr; (try simp only [RH, reduceCtorEq] at h); refine SHb ?_; clear hr) <;> (try (exfalso; omega))) | (refine X_callc rfl ?_; refine SNb ?_; refine D.mono_call (has_spec R _ _ hb hl2 xs[k] _) ?_; rintro v s' ⟨rfl, δ, hδ, rfl⟩; (try simp only [NB] at hδ); refine ⟨by exact CEb, ?_⟩; try refine SEb ?_) | (show D _ (J.ops _ _ _ _); refine SEb ?_) | (refine T_app ?_; try refine SEb ?_) | (refine T_fork ?_ ?_) | (simp only [T_nil]) | (refine TS (fun h => ?_) (fun h => ?_) (hc := HEb) <;> (try simp only [RH, reduceCtorEq] at h) <;> (try (exfalso; omega))) | (show retR _ _ _ _ _; refine SRb ?_) | exact rfl))) <;> (try clear E))
      all_goals exact ⟨by (exact LEb), zs, by (first | exact SCb | refine SBb ?_); exact hz, hpw, fun q => by simp only [hm, mem_take_succ hk]; grind, by omega⟩
    · have hd : decide (xs[k] ∈ ys) = false := decide_eq_false hy
      ((have E := And.intro hfr (And.intro hi (And.intro ha.ixmE (And.intro sp_def hd))); (repeat' (first | (refine NXt ?_; try intro K hK) | (refine hK _ _ ?_; clear hK; clear K; try refine PX ?_) | ((first | refine GC_case_t (fun hr => ?_) (fun hr => ?_) | refine GC_case_f (fun hr => ?_) (fun hr => ?_)) <;> (have h := hr; (try simp only [RH, reduceCtorEq] at h); refine SHb ?_; clear hr) <;> (try (exfalso; omega))) | (refine X_callc rfl ?_; refine SNb ?_; refine D.mono_call (has_spec R _ _ hb hl2 xs[k] _) ?_; rintro v s' ⟨rfl, δ, hδ, rfl⟩; (try simp only [NB] at hδ); refine ⟨by exact CEb, ?_⟩; try refine SEb ?_) | (refine X_callc rfl ?_; refine SNb ?_; refine D.mono_call (Insert_spec R _ _ hz (by omega) hpw xs[k] _) ?_; rintro v s' ⟨⟨zs2, hz2, hpw2, hm2, hl3⟩, δ, hδ, rfl⟩; (try simp only [NB] at hδ); refine ⟨by exact CEb, ?_⟩; try refine SEb ?_) | (show D _ (J.ops _ _ _ _); refine SEb ?_) | (refine T_app ?_; try refine SEb ?_) | (refine T_fork ?_ ?_) | (simp only [T_nil]) | (refine TS (fun h => ?_) (fun h => ?_) (hc := HEb) <;> (try simp only [RH, reduceCtorEq] at h) <;> (try (exfalso; omega))) | (show retR _ _ _ _ _; refine SRb ?_) | exact rfl))) <;> (try clear E))
      all_goals exact ⟨by (exact LEb), zs2, by (first | exact SCb | refine SBb ?_); exact hz2, hpw2, fun q => by simp only [hm2, hm, mem_take_succ hk]; grind, by omega⟩
  · rintro F δ hfr hδ ⟨zs, hz, hpw, hm, hzl⟩
    rw [List.take_length] at hm
    ((have E := hfr; (repeat' (first | (refine NXt ?_; try intro K hK) | (refine hK _ _ ?_; clear hK; clear K; try refine PX ?_) | ((first | refine GC_case_t (fun hr => ?_) (fun hr => ?_) | refine GC_case_f (fun hr => ?_) (fun hr => ?_)) <;> (have h := hr; (try simp only [RH, reduceCtorEq] at h); refine SHb ?_; clear hr) <;> (try (exfalso; omega))) | (show D _ (J.ops _ _ _ _); refine SEb ?_) | (refine T_app ?_; try refine SEb ?_) | (refine T_fork ?_ ?_) | (simp only [T_nil]) | (refine TS (fun h => ?_) (fun h => ?_) (hc := HEb) <;> (try simp only [RH, reduceCtorEq] at h) <;> (try (exfalso; omega))) | (show retR _ _ _ _ _; refine SRb ?_) | exact rfl))) <;> (try clear E))
    exact ⟨⟨zs, hz, hpw, hm, hzl⟩, by (exact LEb)⟩

theorem Inside30_spec (R : HR T) (U : HU T) (va vb : V) (xs ys : List (Int × Int)) (ha : IsL va (xs.map sp)) (hb : IsL vb (ys.map sp)) (hl : xs.length ≤ 50000) (hl2 : ys.length ≤ 100000) (s : St) : D T (.call 107 [va, vb] s (fun v s' => SetIs v (fun p => p ∈ xs ∧ (ys.any fun q => decide (q.1 ≤ p.1 ∧ p.2 ≤ q.2)) = true) xs.length ∧ St.Gr s s')) := by
  refine C.fn U.h107 rfl ?_
  unfold v107
  dsimp only
  ((have E := And.intro ha.lenm ha.notStr; (repeat' (first | (refine NXt ?_; try intro K hK) | (refine hK _ _ ?_; clear hK; clear K; try refine PX ?_) | ((first | refine GC_case_t (fun hr => ?_) (fun hr => ?_) | refine GC_case_f (fun hr => ?_) (fun hr => ?_)) <;> (have h := hr; (try simp only [RH, reduceCtorEq] at h); refine SHb ?_; clear hr) <;> (try (exfalso; omega))) | (show D _ (J.ops _ _ _ _); refine SEb ?_) | (refine T_app ?_; try refine SEb ?_) | (refine T_fork ?_ ?_) | (simp only [T_nil]) | (refine TS (fun h => ?_) (fun h => ?_) (hc := HEb) <;> (try simp only [RH, reduceCtorEq] at h) <;> (try (exfalso; omega))) | (show retR _ _ _ _ _; refine SRb ?_) | exact rfl))) <;> (try clear E))
  refine W.seq (W.rangeG (N := xs.length) (fun k F s' => Acc (F 5) (fun q => q ∈ xs.take k ∧ (ys.any fun t => decide (t.1 ≤ q.1 ∧ q.2 ≤ t.2)) = true) k) IB IB (by omega) rfl ST ⟨[], by (first | exact SCb | refine SBb ?_); exact .nil, .nil, by simp, by simp⟩ ?_ ?_)
  · rintro k F δ hk hfr hi hδ ⟨zs, hz, hpw, hm, hzl⟩
    (try simp only [NB] at hδ)
    have hw := within30_spec R vb ys hb hl2 xs[k]
    cases hd : (ys.any fun t => decide (t.1 ≤ xs[k].1 ∧ xs[k].2 ≤ t.2))
    · rw [hd] at hw
      ((have E := And.intro hfr (And.intro hi (And.intro ha.ixmE sp_def)); (repeat' (first | (refine NXt ?_; try intro K hK) | (refine hK _ _ ?_; clear hK; clear K; try refine PX ?_) | ((first | refine GC_case_t (fun hr => ?_) (fun hr => ?_) | refine GC_case_f (fun hr => ?_) (fun hr => ?_)) <;> (have h := hr; (try simp only [RH, reduceCtorEq] at h); refine SHb ?_; clear hr) <;> (try (exfalso; omega))) | (refine X_callc rfl ?_; refine SNb ?_; refine D.mono_call (hw _) ?_; rintro v s' ⟨rfl, δ, hδ, rfl⟩; (try simp only [NB] at hδ); refine ⟨by exact CEb, ?_⟩; try refine SEb ?_) | (show D _ (J.ops _ _ _ _); refine SEb ?_) | (refine T_app ?_; try refine SEb ?_) | (refine T_fork ?_ ?_) | (simp only [T_nil]) | (refine TS (fun h => ?_) (fun h => ?_) (hc := HEb) <;> (try simp only [RH, reduceCtorEq] at h) <;> (try (exfalso; omega))) | (show retR _ _ _ _ _; refine SRb ?_) | exact rfl))) <;> (try clear E))
      all_goals exact ⟨by (exact LEb), zs, by (first | exact SCb | refine SBb ?_); exact hz, hpw, fun q => by simp only [hm, mem_take_succ hk]; grind, by omega⟩
    · rw [hd] at hw
      ((have E := And.intro hfr (And.intro hi (And.intro ha.ixmE sp_def)); (repeat' (first | (refine NXt ?_; try intro K hK) | (refine hK _ _ ?_; clear hK; clear K; try refine PX ?_) | ((first | refine GC_case_t (fun hr => ?_) (fun hr => ?_) | refine GC_case_f (fun hr => ?_) (fun hr => ?_)) <;> (have h := hr; (try simp only [RH, reduceCtorEq] at h); refine SHb ?_; clear hr) <;> (try (exfalso; omega))) | (refine X_callc rfl ?_; refine SNb ?_; refine D.mono_call (hw _) ?_; rintro v s' ⟨rfl, δ, hδ, rfl⟩; (try simp only [NB] at hδ); refine ⟨by exact CEb, ?_⟩; try refine SEb ?_) | (refine X_callc rfl ?_; refine SNb ?_; refine D.mono_call (Insert_spec R _ _ hz (by omega) hpw xs[k] _) ?_; rintro v s' ⟨⟨zs2, hz2, hpw2, hm2, hl3⟩, δ, hδ, rfl⟩; (try simp only [NB] at hδ); refine ⟨by exact CEb, ?_⟩; try refine SEb ?_) | (show D _ (J.ops _ _ _ _); refine SEb ?_) | (refine T_app ?_; try refine SEb ?_) | (refine T_fork ?_ ?_) | (simp only [T_nil]) | (refine TS (fun h => ?_) (fun h => ?_) (hc := HEb) <;> (try simp only [RH, reduceCtorEq] at h) <;> (try (exfalso; omega))) | (show retR _ _ _ _ _; refine SRb ?_) | exact rfl))) <;> (try clear E))
      all_goals exact ⟨by (exact LEb), zs2, by (first | exact SCb | refine SBb ?_); exact hz2, hpw2, fun q => by simp only [hm2, hm, mem_take_succ hk]; grind, by omega⟩
  · rintro F δ hfr hδ ⟨zs, hz, hpw, hm, hzl⟩
    rw [List.take_length] at hm
    ((have E := hfr; (repeat' (first | (refine NXt ?_; try intro K hK) | (refine hK _ _ ?_; clear hK; clear K; try refine PX ?_) | ((first | refine GC_case_t (fun hr => ?_) (fun hr => ?_) | refine GC_case_f (fun hr => ?_) (fun hr => ?_)) <;> (have h := hr; (try simp only [RH, reduceCtorEq] at h); refine SHb ?_; clear hr) <;> (try (exfalso; omega))) | (show D _ (J.ops _ _ _ _); refine SEb ?_) | (refine T_app ?_; try refine SEb ?_) | (refine T_fork ?_ ?_) | (simp only [T_nil]) | (refine TS (fun h => ?_) (fun h => ?_) (hc := HEb) <;> (try simp only [RH, reduceCtorEq] at h) <;> (try (exfalso; omega))) | (show retR _ _ _ _ _; refine SRb ?_) | exact rfl))) <;> (try clear E))
    exact ⟨⟨zs, hz, hpw, hm, hzl⟩, by (exact LEb)⟩

theorem Unite30_spec (R : HR T) (U : HU T) (va vb : V) (xs ys : List (Int × Int)) (ha : IsL va (xs.map sp)) (hb : IsL vb (ys.map sp)) (hl : xs.length + ys.length ≤ 50000) (s : St) : D T (.call 104 [va, vb] s (fun v s' => SetIs v (fun p => p ∈ xs ∨ p ∈ ys) (xs.length + ys.length) ∧ St.Gr s s')) := by
  have hwf : ∀ l : List (Int × Int), wOk 2 (l.map sp) = true := fun l => wOk_of fun x hx => by obtain ⟨q, _, rfl⟩ := List.mem_map.1 hx; rfl
  refine C.fn U.h104 rfl ?_
  unfold v104
  dsimp only
  (repeat' (first | (refine NXt ?_; try intro K hK) | (refine hK _ _ ?_; clear hK; clear K; try refine PX ?_) | ((first | refine GC_case_t (fun hr => ?_) (fun hr => ?_) | refine GC_case_f (fun hr => ?_) (fun hr => ?_)) <;> (have h := hr; (try simp only [RH, reduceCtorEq] at h); simp (disch := first|exact DB|fail) only [hr, RB, ↓reduceIte, Nat.reduceEqDiff, reduceCtorEq, Nat.reduceLeDiff, Nat.reduceAdd, Int.reduceToNat, Nat.reduceLT]; clear hr) <;> (try (exfalso; omega))) | (show D _ (J.ops _ _ _ _); refine SBb ?_) | (refine T_app ?_; try refine SBb ?_) | (refine T_fork ?_ ?_) | (simp only [T_nil]) | (refine TS (fun h => ?_) (fun h => ?_) (hc := HCb) <;> (try simp only [RH, reduceCtorEq] at h) <;> (try (exfalso; omega))) | (show retR _ _ _ _ _; simp (disch := first|exact DB|fail) only [RR, RB, ↓reduceIte, Nat.reduceEqDiff, reduceCtorEq, Nat.reduceLeDiff, Nat.reduceAdd, Int.reduceToNat, Nat.reduceLT]) | exact rfl))
  refine X_appW (W := []) (S0 := s) IB IB (mk0 (xs := []) (k := 2) (by exact DB) (by exact DB) (by (first | exact SCb | refine SBb ?_))) (by (exact LWb)) ha.elems ha.rowOk (hwf _) rfl (by simp; omega) (by omega) (by intro δ hδ; (first | exact SCb | refine SBb ?_)) ?_
  intro v1 δ1 htip1 hle1 hδ1
  (try simp only [NB] at hδ1)
  (repeat' (first | (refine NXt ?_; try intro K hK) | (refine hK _ _ ?_; clear hK; clear K; try refine PX ?_) | ((first | refine GC_case_t (fun hr => ?_) (fun hr => ?_) | refine GC_case_f (fun hr => ?_) (fun hr => ?_)) <;> (have h := hr; (try simp only [RH, reduceCtorEq] at h); simp (disch := first|exact DB|fail) only [hr, RB, ↓reduceIte, Nat.reduceEqDiff, reduceCtorEq, Nat.reduceLeDiff, Nat.reduceAdd, Int.reduceToNat, Nat.reduceLT]; clear hr) <;> (try (exfalso; omega))) | (show D _ (J.ops _ _ _ _); refine SBb ?_) | (refine T_app ?_; try refine SBb ?_) | (refine T_fork ?_ ?_) | (simp only [T_nil]) | (refine TS (fun h => ?_) (fun h => ?_) (hc := HCb) <;> (try simp only [RH, reduceCtorEq] at h) <;> (try (exfalso; omega))) | (show retR _ _ _ _ _; simp (disch := first|exact DB|fail) only [RR, RB, ↓reduceIte, Nat.reduceEqDiff, reduceCtorEq, Nat.reduceLeDiff, Nat.reduceAdd, Int.reduceToNat, Nat.reduceLT]) | exact rfl))
  refine X_appW (W := []) (S0 := s) IB IB htip1 (by (exact LWb)) hb.elems hb.rowOk (hwf _) (hwf _) (by simp; omega) (by omega) (by intro δ hδ; (first | exact SCb | refine SBb ?_)) ?_
  intro v2 δ2 htip2 hle2 hδ2
  (try simp only [NB] at hδ2)
  have hL : IsL v2 ((xs ++ ys).map sp) := by have := htip2.isL; simpa using this
  ((have E := And.intro hL.lenm hL.notStr; (repeat' (first | (refine NXt ?_; try intro K hK) | (refine hK _ _ ?_; clear hK; clear K; try refine PX ?_) | ((first | refine GC_case_t (fun hr => ?_) (fun hr => ?_) | refine GC_case_f (fun hr => ?_) (fun hr => ?_)) <;> (have h := hr; (try simp only [RH, reduceCtorEq] at h); refine SHb ?_; clear hr) <;> (try (exfalso; omega))) | (show D _ (J.ops _ _ _ _); refine SEb ?_) | (refine T_app ?_; try refine SEb ?_) | (refine T_fork ?_ ?_) | (simp only [T_nil]) | (refine TS (fun h => ?_) (fun h => ?_) (hc := HEb) <;> (try simp only [RH, reduceCtorEq] at h) <;> (try (exfalso; omega))) | (show retR _ _ _ _ _; refine SRb ?_) | exact rfl))) <;> (try clear E))
  refine W.seq (W.rangeG (N := (xs ++ ys).length) (fun k F s' => Acc (F 5) (fun q => q ∈ (xs ++ ys).take k) k) IB IB (by simp; omega) rfl ST ⟨[], by (first | exact SCb | refine SBb ?_); exact .nil, .nil, by simp, by simp⟩ ?_ ?_)
  · rintro k F δ hk hfr hi hδ ⟨zs, hz, hpw, hm, hzl⟩
    have hkl : k ≤ 50000 := by simp at hk; omega
    (try simp only [NB] at hδ)
    ((have E := And.intro hfr (And.intro hi (And.intro hL.ixmE sp_def)); (repeat' (first | (refine NXt ?_; try intro K hK) | (refine hK _ _ ?_; clear hK; clear K; try refine PX ?_) | ((first | refine GC_case_t (fun hr => ?_) (fun hr => ?_) | refine GC_case_f (fun hr => ?_) (fun hr => ?_)) <;> (have h := hr; (try simp only [RH, reduceCtorEq] at h); refine SHb ?_; clear hr) <;> (try (exfalso; omega))) | (refine X_callc rfl ?_; refine SNb ?_; refine D.mono_call (Insert_spec R _ _ hz (by omega) hpw (xs ++ ys)[k] _) ?_; rintro v s' ⟨⟨zs2, hz2, hpw2, hm2, hl3⟩, δ, hδ, rfl⟩; (try simp only [NB] at hδ); refine ⟨by exact CEb, ?_⟩; try refine SEb ?_) | (show D _ (J.ops _ _ _ _); refine SEb ?_) | (refine T_app ?_; try refine SEb ?_) | (refine T_fork ?_ ?_) | (simp only [T_nil]) | (refine TS (fun h => ?_) (fun h => ?_) (hc := HEb) <;> (try simp only [RH, reduceCtorEq] at h) <;> (try (exfalso; omega))) | (show retR _ _ _ _ _; refine SRb ?_) | exact rfl))) <;> (try clear E))
    all_goals exact ⟨by (exact LEb), zs2, by (first | exact SCb | refine SBb ?_); exact hz2, hpw2, fun q => by simp only [hm2, hm, mem_take_succ hk], by omega⟩
  · rintro F δ hfr hδ ⟨zs, hz, hpw, hm, hzl⟩
    rw [List.take_length] at hm
    ((have E := hfr; (repeat' (first | (refine NXt ?_; try intro K hK) | (refine hK _ _ ?_; clear hK; clear K; try refine PX ?_) | ((first | refine GC_case_t (fun hr => ?_) (fun hr => ?_) | refine GC_case_f (fun hr => ?_) (fun hr => ?_)) <;> (have h := hr; (try simp only [RH, reduceCtorEq] at h); refine SHb ?_; clear hr) <;> (try (exfalso; omega))) | (show D _ (J.ops _ _ _ _); refine SEb ?_) | (refine T_app ?_; try refine SEb ?_) | (refine T_fork ?_ ?_) | (simp only [T_nil]) | (refine TS (fun h => ?_) (fun h => ?_) (hc := HEb) <;> (try simp only [RH, reduceCtorEq] at h) <;> (try (exfalso; omega))) | (show retR _ _ _ _ _; refine SRb ?_) | exact rfl))) <;> (try clear E))
    exact ⟨⟨zs, hz, hpw, fun q => by simp only [hm, List.mem_append], by simpa using hzl⟩, by (exact LEb)⟩
end Go.VS.Fn
