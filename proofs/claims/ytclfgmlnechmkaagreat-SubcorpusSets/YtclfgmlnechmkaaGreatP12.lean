/-
  Part 12 of 43 of the proof of SubcorpusSetsSaid, by an abstract machine that stands in for the Go program: lemmas without conditions of their own.
-/
import Derived.Test.YtclfgmlnechmkaaGreatP11
import Derived.Test.YtclfgmlnechmkaaGreatP04
import Derived.Test.YtclfgmlnechmkaaGreatP10
set_option linter.unusedSimpArgs false
set_option linter.unusedVariables false
namespace Go.VS.Fn
open Go.VS
variable {T : Nat → Option FnDef}

abbrev LstOk (lv : V) : Prop := ∃ xs : List Int, IsL lv (ints xs) ∧ xs.length ≤ 120

theorem NodesOk.app {xs : List V} (h : NodesOk xs) {a : List Nat} {b e p : Int} (h1 : -1 ≤ p) (h2 : p < xs.length) : NodesOk (xs ++ [.agg [.str a, .int .i64 b, .int .i64 e, .int .i64 p]]) := by
  intro i hi
  by_cases hlt : i < xs.length
  · rw [List.getElem_append_left hlt]; exact h i hlt
  · have : i = xs.length := by simp at hi; omega
    subst this
    exact ⟨a, b, e, p, by simp, h1, h2⟩
theorem NodesOk.nil : NodesOk [] := fun i hi => by simp at hi
theorem NodesOk.cells {xs : List V} (h : NodesOk xs) : wOk 4 xs = true := wOk_of fun x hx => by
  obtain ⟨i, hi, rfl⟩ := List.mem_iff_getElem.1 hx
  obtain ⟨a, b, e, p, hx, _⟩ := h i hi
  rw [hx]; rfl

set_option maxHeartbeats 4000000 in
theorem nodes_spec (h14 : T 14 = some (.body v14)) (h30 : T 30 = some (.body v30)) (h101 : T 101 = some (.body v101)) {s : St} {o a : Nat} {lv : V} (t : TapeOk s o lv a) (c : Nat) (hc : c < s.next) (hco : c ≠ o) (va vk vt vx vh vr : V) (ks : List V) (hk : IsL vk ks) (hkl : ks.length ≤ 100) (hm : s.mem c = some (.obj [va, vk, vt, vx, .nilsl, vh, vr])) :
    D T (.call 101 [.ptr o 0, .ptr c 0] s (fun _ s' => ∃ vn ns a' δ, IsL vn ns ∧ NodesOk ns ∧ ns.length ≤ 100 ∧ a' ≤ 1000 ∧ s.next ≤ δ.next ∧ s' = (s.tp o lv a' δ).set c (.obj [va, vk, vt, vx, vn, vh, vr]))) := by
  have hlst := t.lst
  have hmem := t.mem
  have hlt := t.lt
  have hat := t.ha
  refine C.fn h101 rfl ?_
  unfold v101
  dsimp only
  ((have E := And.intro hm (And.intro hmem (And.intro hk.len (And.intro hk.notStr hco))); (repeat' (first | (refine NXt ?_; try intro K hK) | (refine hK _ _ ?_; clear hK; clear K; try refine PX ?_) | ((first | refine GC_case_t (fun hr => ?_) (fun hr => ?_) | refine GC_case_f (fun hr => ?_) (fun hr => ?_)) <;> (have h := hr; (try simp only [RH, reduceCtorEq] at h); refine SHb ?_; clear hr) <;> (try (exfalso; omega))) | (refine X_callc rfl ?_; refine SNb ?_; refine D.mono_call (Next_spec h14 h30 (TapeOk.mk (lv := lv) IEb (by exact DB) (by omega) hlst) _ (by omega) (by omega)) ?_; rintro v s' ⟨k, rfl, hk0, hk1, a', ha', rfl⟩; (try simp only [NB] at hδ); refine ⟨by exact CEb, ?_⟩; try refine SEb ?_) | (show D _ (J.ops _ _ _ _); refine SEb ?_) | (refine T_app ?_; try refine SEb ?_) | (refine T_fork ?_ ?_) | (simp only [T_nil]) | (refine TS (fun h => ?_) (fun h => ?_) (hc := HEb) <;> (try simp only [RH, reduceCtorEq] at h) <;> (try (exfalso; omega))) | (show retR _ _ _ _ _; refine SRb ?_) | exact rfl))) <;> (try clear E))
  refine W.bloop (fun n F s' => St.LeW [o, c] s s' ∧ ∃ (a' : Nat) (vn : V) (ns : List V) (at_ : Int), a' ≤ 1000 ∧ s'.mem o = some (.obj [lv, .int .i64 a']) ∧ s'.mem c = some (.obj [va, vk, vt, vx, vn, vh, vr]) ∧ Tip0 s s' vn 4 ns ∧ NodesOk ns ∧ ns.length + 2 * n ≤ 8 ∧ F 5 = .int .i64 at_ ∧ 0 ≤ at_ ∧ at_ ≤ ks.length ∧ F 6 = .int .i64 n ∧ n ≤ 3) k.toNat ⟨by (exact LWb), a', .nilsl, [], 0, ha', by (first | exact SCb | refine SBb ?_), by ((have E := And.intro hm hco; first | exact SXb | refine SEb ?_) <;> (try clear E)), Tip0.nil, NodesOk.nil, by simp; omega, IB, by omega, by omega, by (first | exact SCb | refine SBb ?_); congr 1; omega, by omega⟩ ?_
  rintro n F s' hfr ⟨hle, a1, vn, ns, at_, ha1, hmo, hmc, htip, hN, hnl, h5, hat0, hat_, h6, hn3⟩
  have hnx := hle.1
  have hvl := htip.isL
  ((have E := And.intro hfr (And.intro h5 (And.intro h6 (And.intro hmo (And.intro hmc (And.intro hco (And.intro hvl.len hvl.notStr)))))); (repeat' (first | (refine NXa ?_; try intro K hK) | (refine hK _ _ ?_; clear hK; clear K; try refine PX ?_) | ((first | refine GC_case_t (fun hr => ?_) (fun hr => ?_) | refine GC_case_f (fun hr => ?_) (fun hr => ?_)) <;> (have h := hr; (try simp only [RH, reduceCtorEq] at h); refine SHb ?_; clear hr) <;> (try (exfalso; omega))) | (refine X_callc rfl ?_; refine SNb ?_; refine D.mono_call (Next_spec h14 h30 (TapeOk.mk (lv := lv) IEb (by exact DB) (by omega) hlst) _ (by omega) (by omega)) ?_; rintro v s' ⟨k, rfl, hk0, hk1, a', ha', rfl⟩; (try simp only [NB] at hδ); refine ⟨by exact CEb, ?_⟩; try refine SEb ?_) | (show D _ (J.ops _ _ _ _); refine SEb ?_) | (refine TS (fun h => ?_) (fun h => ?_) (hc := HEb) <;> (try simp only [RH, reduceCtorEq] at h) <;> (try (exfalso; omega))) | (show retR _ _ _ _ _; refine SRb ?_) | exact rfl))) <;> (try clear E))
  · refine ⟨vn, ns, a', _, htip.isL, hN, by omega, ha', ?_, LeW.tpc (o := o) (c := c) (by (exact LWb)) hco (by (first | exact SCb | refine SBb ?_)) (by ((have E := And.intro hmc hco; first | exact SXb | refine SEb ?_) <;> (try clear E)))⟩
    (first | exact SCb | refine SBb ?_); omega
  · refine W.midF (fun F' s2 => St.LeW [o, c] s s2 ∧ ∃ (a2 : Nat) (vn2 : V) (ns2 : List V), a2 ≤ 1000 ∧ s2.mem o = some (.obj [lv, .int .i64 a2]) ∧ s2.mem c = some (.obj [va, vk, vt, vx, vn2, vh, vr]) ∧ Tip0 s s2 vn2 4 ns2 ∧ NodesOk ns2 ∧ ns2.length = ns.length + 1) (W.tree' fun K hK => ?_) ?_
    · ((have E := And.intro hfr (And.intro h5 (And.intro h6 (And.intro hmo (And.intro hmc (And.intro hco (And.intro hvl.len hvl.notStr)))))); (repeat' (first | (refine NXt ?_; try intro K hK) | (refine hK _ _ ?_; clear hK; clear K; try refine PX ?_) | ((first | refine GC_case_t (fun hr => ?_) (fun hr => ?_) | refine GC_case_f (fun hr => ?_) (fun hr => ?_)) <;> (have h := hr; (try simp only [RH, reduceCtorEq] at h); refine SHb ?_; clear hr) <;> (try (exfalso; omega))) | (refine X_callc rfl ?_; refine SNb ?_; refine D.mono_call (Next_spec h14 h30 (TapeOk.mk (lv := lv) IEb (by exact DB) (by omega) hlst) _ (by omega) (by omega)) ?_; rintro v s' ⟨k, rfl, hk0, hk1, a', ha', rfl⟩; (try simp only [NB] at hδ); refine ⟨by exact CEb, ?_⟩; try refine SEb ?_) | (show D _ (J.ops _ _ _ _); refine SEb ?_) | (refine T_app ?_; try refine SEb ?_) | (refine T_fork ?_ ?_) | (simp only [T_nil]) | (refine TS (fun h => ?_) (fun h => ?_) (hc := HEb) <;> (try simp only [RH, reduceCtorEq] at h) <;> (try (exfalso; omega))) | (show retR _ _ _ _ _; refine SRb ?_) | exact rfl))) <;> (try clear E))
      all_goals
        refine X_appW (W := [o, c]) (S0 := s) (v := vn) rfl rfl (by (repeat' (first | assumption | exact Tip0.nil | refine Tip0.new_ ?_ | refine Tip0.over_ ?_ ?_ | refine Tip0.set_ ?_ (by (simp (disch := first|exact DB|fail) only [RB, ↓reduceIte, Nat.reduceEqDiff, reduceCtorEq, Nat.reduceLeDiff, Nat.reduceAdd, Int.reduceToNat, Nat.reduceLT, hmo, hmc, hco, Int.natCast_add, Int.natCast_one, Int.natCast_succ]) <;> rfl) | refine Tip0.tp_ ?_ ?_ (by (simp (disch := first|exact DB|fail) only [RB, ↓reduceIte, Nat.reduceEqDiff, reduceCtorEq, Nat.reduceLeDiff, Nat.reduceAdd, Int.reduceToNat, Nat.reduceLT, hmo, hmc, hco, Int.natCast_add, Int.natCast_one, Int.natCast_succ]) <;> rfl) | omega | (simp only [NB]; omega)))) (by (exact LWb)) rfl rfl rfl hN.cells (by simp; omega) (by omega) (by intro δ hδ; ((have E := And.intro hmo (And.intro hmc hco); first | exact SXb | refine SEb ?_) <;> (try clear E))) ?_
        intro v' δ htip' hle' hδ
        (try simp only [NB] at hδ)
        have hv' := htip'.isL
        ((have E := And.intro hmo (And.intro hmc (And.intro hco (And.intro hv'.cells1 hv'.notTup))); (repeat' (first | (refine NXt ?_; try intro K hK) | (refine hK _ _ ?_; clear hK; clear K; try refine PX ?_) | ((first | refine GC_case_t (fun hr => ?_) (fun hr => ?_) | refine GC_case_f (fun hr => ?_) (fun hr => ?_)) <;> (have h := hr; (try simp only [RH, reduceCtorEq] at h); refine SHb ?_; clear hr) <;> (try (exfalso; omega))) | (show D _ (J.ops _ _ _ _); refine SEb ?_) | (refine T_app ?_; try refine SEb ?_) | (refine T_fork ?_ ?_) | (simp only [T_nil]) | (refine TS (fun h => ?_) (fun h => ?_) (hc := HEb) <;> (try simp only [RH, reduceCtorEq] at h) <;> (try (exfalso; omega))) | (show retR _ _ _ _ _; refine SRb ?_) | exact rfl))) <;> (try clear E))
        exact ⟨by (exact LWb), a', v', _, ha', by ((have E := And.intro hmo (And.intro hmc hco); first | exact SXb | refine SEb ?_) <;> (try clear E)), by ((have E := And.intro hmo (And.intro hmc hco); first | exact SXb | refine SEb ?_) <;> (try clear E)), by (repeat' (first | assumption | exact Tip0.nil | refine Tip0.new_ ?_ | refine Tip0.over_ ?_ ?_ | refine Tip0.set_ ?_ (by (simp (disch := first|exact DB|fail) only [RB, ↓reduceIte, Nat.reduceEqDiff, reduceCtorEq, Nat.reduceLeDiff, Nat.reduceAdd, Int.reduceToNat, Nat.reduceLT, hmo, hmc, hco, Int.natCast_add, Int.natCast_one, Int.natCast_succ]) <;> rfl) | refine Tip0.tp_ ?_ ?_ (by (simp (disch := first|exact DB|fail) only [RB, ↓reduceIte, Nat.reduceEqDiff, reduceCtorEq, Nat.reduceLeDiff, Nat.reduceAdd, Int.reduceToNat, Nat.reduceLT, hmo, hmc, hco, Int.natCast_add, Int.natCast_one, Int.natCast_succ]) <;> rfl) | omega | (simp only [NB]; omega))), hN.app (by omega) (by omega), by simp⟩
    · rintro F1 s2 hfr1 ⟨hle2, a2, vn2, ns2, ha2, hmo2, hmc2, htip2, hN2, hnl2⟩
      have hnx2 := hle2.1
      have hvl2 := htip2.isL
      ((have E := And.intro hfr1 (And.intro hfr (And.intro h5 (And.intro h6 (And.intro hmo2 (And.intro hmc2 (And.intro hco (And.intro hvl2.len hvl2.notStr))))))); (repeat' (first | (refine NXt ?_; try intro K hK) | (refine hK _ _ ?_; clear hK; clear K; try refine PX ?_) | ((first | refine GC_case_t (fun hr => ?_) (fun hr => ?_) | refine GC_case_f (fun hr => ?_) (fun hr => ?_)) <;> (have h := hr; (try simp only [RH, reduceCtorEq] at h); refine SHb ?_; clear hr) <;> (try (exfalso; omega))) | (refine X_callc rfl ?_; refine SNb ?_; refine D.mono_call (Next_spec h14 h30 (TapeOk.mk (lv := lv) IEb (by exact DB) (by omega) hlst) _ (by omega) (by omega)) ?_; rintro v s' ⟨k, rfl, hk0, hk1, a', ha', rfl⟩; (try simp only [NB] at hδ); refine ⟨by exact CEb, ?_⟩; try refine SEb ?_) | (show D _ (J.ops _ _ _ _); refine SEb ?_) | (refine T_app ?_; try refine SEb ?_) | (refine T_fork ?_ ?_) | (simp only [T_nil]) | (refine TS (fun h => ?_) (fun h => ?_) (hc := HEb) <;> (try simp only [RH, reduceCtorEq] at h) <;> (try (exfalso; omega))) | (show retR _ _ _ _ _; refine SRb ?_) | exact rfl))) <;> (try clear E))
      · refine X_appW (W := [o, c]) (S0 := s) (v := vn2) rfl rfl (by (repeat' (first | assumption | exact Tip0.nil | refine Tip0.new_ ?_ | refine Tip0.over_ ?_ ?_ | refine Tip0.set_ ?_ (by (simp (disch := first|exact DB|fail) only [RB, ↓reduceIte, Nat.reduceEqDiff, reduceCtorEq, Nat.reduceLeDiff, Nat.reduceAdd, Int.reduceToNat, Nat.reduceLT, hmo2, hmc2, hco, Int.natCast_add, Int.natCast_one, Int.natCast_succ]) <;> rfl) | refine Tip0.tp_ ?_ ?_ (by (simp (disch := first|exact DB|fail) only [RB, ↓reduceIte, Nat.reduceEqDiff, reduceCtorEq, Nat.reduceLeDiff, Nat.reduceAdd, Int.reduceToNat, Nat.reduceLT, hmo2, hmc2, hco, Int.natCast_add, Int.natCast_one, Int.natCast_succ]) <;> rfl) | omega | (simp only [NB]; omega)))) (by (exact LWb)) rfl rfl rfl hN2.cells (by simp; omega) (by omega) (by intro δ hδ; ((have E := And.intro hmo2 (And.intro hmc2 hco); first | exact SXb | refine SEb ?_) <;> (try clear E))) ?_
        intro v' δ htip' hle' hδ
        (try simp only [NB] at hδ)
        have hv' := htip'.isL
        ((have E := And.intro hfr1 (And.intro hfr (And.intro h6 (And.intro hmo2 (And.intro hmc2 (And.intro hco (And.intro hv'.cells1 hv'.notTup)))))); (repeat' (first | (refine NXt ?_; try intro K hK) | (refine hK _ _ ?_; clear hK; clear K; try refine PX ?_) | ((first | refine GC_case_t (fun hr => ?_) (fun hr => ?_) | refine GC_case_f (fun hr => ?_) (fun hr => ?_)) <;> (have h := hr; (try simp only [RH, reduceCtorEq] at h); refine SHb ?_; clear hr) <;> (try (exfalso; omega))) | (show D _ (J.ops _ _ _ _); refine SEb ?_) | (refine T_app ?_; try refine SEb ?_) | (refine T_fork ?_ ?_) | (simp only [T_nil]) | (refine TS (fun h => ?_) (fun h => ?_) (hc := HEb) <;> (try simp only [RH, reduceCtorEq] at h) <;> (try (exfalso; omega))) | (show retR _ _ _ _ _; refine SRb ?_) | exact rfl))) <;> (try clear E))
        exact ⟨n - 1, by omega, by (exact LWb), a', v', _, _, ha', by (first | exact SCb | refine SBb ?_), by ((have E := And.intro hmo2 (And.intro hmc2 hco); first | exact SXb | refine SEb ?_) <;> (try clear E)), by (repeat' (first | assumption | exact Tip0.nil | refine Tip0.new_ ?_ | refine Tip0.over_ ?_ ?_ | refine Tip0.set_ ?_ (by (simp (disch := first|exact DB|fail) only [RB, ↓reduceIte, Nat.reduceEqDiff, reduceCtorEq, Nat.reduceLeDiff, Nat.reduceAdd, Int.reduceToNat, Nat.reduceLT, hmo2, hmc2, hco, Int.natCast_add, Int.natCast_one, Int.natCast_succ]) <;> rfl) | refine Tip0.tp_ ?_ ?_ (by (simp (disch := first|exact DB|fail) only [RB, ↓reduceIte, Nat.reduceEqDiff, reduceCtorEq, Nat.reduceLeDiff, Nat.reduceAdd, Int.reduceToNat, Nat.reduceLT, hmo2, hmc2, hco, Int.natCast_add, Int.natCast_one, Int.natCast_succ]) <;> rfl) | omega | (simp only [NB]; omega))), hN2.app (by omega) (by omega), by simp; omega, (by have E := hfr1; exact IEb), by omega, by omega, by ((have E := And.intro hfr1 (And.intro hfr h6); first | exact SXb | refine SEb ?_) <;> (try clear E)); congr 1; omega, by omega⟩
      · refine X_appW (W := [o, c]) (S0 := s) (v := vn2) rfl rfl (by (repeat' (first | assumption | exact Tip0.nil | refine Tip0.new_ ?_ | refine Tip0.over_ ?_ ?_ | refine Tip0.set_ ?_ (by (simp (disch := first|exact DB|fail) only [RB, ↓reduceIte, Nat.reduceEqDiff, reduceCtorEq, Nat.reduceLeDiff, Nat.reduceAdd, Int.reduceToNat, Nat.reduceLT, hmo2, hmc2, hco, Int.natCast_add, Int.natCast_one, Int.natCast_succ]) <;> rfl) | refine Tip0.tp_ ?_ ?_ (by (simp (disch := first|exact DB|fail) only [RB, ↓reduceIte, Nat.reduceEqDiff, reduceCtorEq, Nat.reduceLeDiff, Nat.reduceAdd, Int.reduceToNat, Nat.reduceLT, hmo2, hmc2, hco, Int.natCast_add, Int.natCast_one, Int.natCast_succ]) <;> rfl) | omega | (simp only [NB]; omega)))) (by (exact LWb)) rfl rfl rfl hN2.cells (by simp; omega) (by omega) (by intro δ hδ; ((have E := And.intro hmo2 (And.intro hmc2 hco); first | exact SXb | refine SEb ?_) <;> (try clear E))) ?_
        intro v' δ htip' hle' hδ
        (try simp only [NB] at hδ)
        have hv' := htip'.isL
        ((have E := And.intro hfr1 (And.intro hfr (And.intro h6 (And.intro hmo2 (And.intro hmc2 (And.intro hco (And.intro hv'.cells1 hv'.notTup)))))); (repeat' (first | (refine NXt ?_; try intro K hK) | (refine hK _ _ ?_; clear hK; clear K; try refine PX ?_) | ((first | refine GC_case_t (fun hr => ?_) (fun hr => ?_) | refine GC_case_f (fun hr => ?_) (fun hr => ?_)) <;> (have h := hr; (try simp only [RH, reduceCtorEq] at h); refine SHb ?_; clear hr) <;> (try (exfalso; omega))) | (show D _ (J.ops _ _ _ _); refine SEb ?_) | (refine T_app ?_; try refine SEb ?_) | (refine T_fork ?_ ?_) | (simp only [T_nil]) | (refine TS (fun h => ?_) (fun h => ?_) (hc := HEb) <;> (try simp only [RH, reduceCtorEq] at h) <;> (try (exfalso; omega))) | (show retR _ _ _ _ _; refine SRb ?_) | exact rfl))) <;> (try clear E))
        exact ⟨n - 1, by omega, by (exact LWb), a', v', _, _, ha', by (first | exact SCb | refine SBb ?_), by ((have E := And.intro hmo2 (And.intro hmc2 hco); first | exact SXb | refine SEb ?_) <;> (try clear E)), by (repeat' (first | assumption | exact Tip0.nil | refine Tip0.new_ ?_ | refine Tip0.over_ ?_ ?_ | refine Tip0.set_ ?_ (by (simp (disch := first|exact DB|fail) only [RB, ↓reduceIte, Nat.reduceEqDiff, reduceCtorEq, Nat.reduceLeDiff, Nat.reduceAdd, Int.reduceToNat, Nat.reduceLT, hmo2, hmc2, hco, Int.natCast_add, Int.natCast_one, Int.natCast_succ]) <;> rfl) | refine Tip0.tp_ ?_ ?_ (by (simp (disch := first|exact DB|fail) only [RB, ↓reduceIte, Nat.reduceEqDiff, reduceCtorEq, Nat.reduceLeDiff, Nat.reduceAdd, Int.reduceToNat, Nat.reduceLT, hmo2, hmc2, hco, Int.natCast_add, Int.natCast_one, Int.natCast_succ]) <;> rfl) | omega | (simp only [NB]; omega))), hN2.app (by omega) (by omega), by simp; omega, (by have E := hfr1; exact IEb), by omega, by omega, by ((have E := And.intro hfr1 (And.intro hfr h6); first | exact SXb | refine SEb ?_) <;> (try clear E)); congr 1; omega, by omega⟩
      · refine X_appW (W := [o, c]) (S0 := s) (v := vn2) rfl rfl (by (repeat' (first | assumption | exact Tip0.nil | refine Tip0.new_ ?_ | refine Tip0.over_ ?_ ?_ | refine Tip0.set_ ?_ (by (simp (disch := first|exact DB|fail) only [RB, ↓reduceIte, Nat.reduceEqDiff, reduceCtorEq, Nat.reduceLeDiff, Nat.reduceAdd, Int.reduceToNat, Nat.reduceLT, hmo2, hmc2, hco, Int.natCast_add, Int.natCast_one, Int.natCast_succ]) <;> rfl) | refine Tip0.tp_ ?_ ?_ (by (simp (disch := first|exact DB|fail) only [RB, ↓reduceIte, Nat.reduceEqDiff, reduceCtorEq, Nat.reduceLeDiff, Nat.reduceAdd, Int.reduceToNat, Nat.reduceLT, hmo2, hmc2, hco, Int.natCast_add, Int.natCast_one, Int.natCast_succ]) <;> rfl) | omega | (simp only [NB]; omega)))) (by (exact LWb)) rfl rfl rfl hN2.cells (by simp; omega) (by omega) (by intro δ hδ; ((have E := And.intro hmo2 (And.intro hmc2 hco); first | exact SXb | refine SEb ?_) <;> (try clear E))) ?_
        intro v' δ htip' hle' hδ
        (try simp only [NB] at hδ)
        have hv' := htip'.isL
        ((have E := And.intro hfr1 (And.intro hfr (And.intro h6 (And.intro hmo2 (And.intro hmc2 (And.intro hco (And.intro hv'.cells1 hv'.notTup)))))); (repeat' (first | (refine NXt ?_; try intro K hK) | (refine hK _ _ ?_; clear hK; clear K; try refine PX ?_) | ((first | refine GC_case_t (fun hr => ?_) (fun hr => ?_) | refine GC_case_f (fun hr => ?_) (fun hr => ?_)) <;> (have h := hr; (try simp only [RH, reduceCtorEq] at h); refine SHb ?_; clear hr) <;> (try (exfalso; omega))) | (show D _ (J.ops _ _ _ _); refine SEb ?_) | (refine T_app ?_; try refine SEb ?_) | (refine T_fork ?_ ?_) | (simp only [T_nil]) | (refine TS (fun h => ?_) (fun h => ?_) (hc := HEb) <;> (try simp only [RH, reduceCtorEq] at h) <;> (try (exfalso; omega))) | (show retR _ _ _ _ _; refine SRb ?_) | exact rfl))) <;> (try clear E))
        exact ⟨n - 1, by omega, by (exact LWb), a', v', _, _, ha', by (first | exact SCb | refine SBb ?_), by ((have E := And.intro hmo2 (And.intro hmc2 hco); first | exact SXb | refine SEb ?_) <;> (try clear E)), by (repeat' (first | assumption | exact Tip0.nil | refine Tip0.new_ ?_ | refine Tip0.over_ ?_ ?_ | refine Tip0.set_ ?_ (by (simp (disch := first|exact DB|fail) only [RB, ↓reduceIte, Nat.reduceEqDiff, reduceCtorEq, Nat.reduceLeDiff, Nat.reduceAdd, Int.reduceToNat, Nat.reduceLT, hmo2, hmc2, hco, Int.natCast_add, Int.natCast_one, Int.natCast_succ]) <;> rfl) | refine Tip0.tp_ ?_ ?_ (by (simp (disch := first|exact DB|fail) only [RB, ↓reduceIte, Nat.reduceEqDiff, reduceCtorEq, Nat.reduceLeDiff, Nat.reduceAdd, Int.reduceToNat, Nat.reduceLT, hmo2, hmc2, hco, Int.natCast_add, Int.natCast_one, Int.natCast_succ]) <;> rfl) | omega | (simp only [NB]; omega))), hN2.app (by omega) (by omega), by simp; omega, (by have E := hfr1; exact IEb), by omega, by omega, by ((have E := And.intro hfr1 (And.intro hfr h6); first | exact SXb | refine SEb ?_) <;> (try clear E)); congr 1; omega, by omega⟩
      · exact ⟨n - 1, by omega, by (exact LWb), a', vn2, ns2, _, ha', by (first | exact SCb | refine SBb ?_), by ((have E := And.intro hmo2 (And.intro hmc2 hco); first | exact SXb | refine SEb ?_) <;> (try clear E)), by (repeat' (first | assumption | exact Tip0.nil | refine Tip0.new_ ?_ | refine Tip0.over_ ?_ ?_ | refine Tip0.set_ ?_ (by (simp (disch := first|exact DB|fail) only [RB, ↓reduceIte, Nat.reduceEqDiff, reduceCtorEq, Nat.reduceLeDiff, Nat.reduceAdd, Int.reduceToNat, Nat.reduceLT, hmo2, hmc2, hco, Int.natCast_add, Int.natCast_one, Int.natCast_succ]) <;> rfl) | refine Tip0.tp_ ?_ ?_ (by (simp (disch := first|exact DB|fail) only [RB, ↓reduceIte, Nat.reduceEqDiff, reduceCtorEq, Nat.reduceLeDiff, Nat.reduceAdd, Int.reduceToNat, Nat.reduceLT, hmo2, hmc2, hco, Int.natCast_add, Int.natCast_one, Int.natCast_succ]) <;> rfl) | omega | (simp only [NB]; omega))), hN2, by omega, IB, by omega, by omega, by (first | exact SCb | refine SBb ?_); congr 1; omega, by omega⟩
  · exact ⟨vn, ns, a1, s', htip.isL, hN, by omega, ha1, hnx, LeW.tpc hle hco hmo hmc⟩
  · exact ⟨vn, ns, a1, s', htip.isL, hN, by omega, ha1, hnx, LeW.tpc hle hco hmo hmc⟩
end Go.VS.Fn

namespace Go.VS.Fn
open Go.VS
variable {T : Nat → Option FnDef}

/-- Small numbers. -/
abbrev below (n : Nat) (v : V) : Prop := ∃ j : Nat, v = .int .i64 j ∧ j < n
theorem cells1_int {xs : List V} {n : Nat} (h : ∀ x ∈ xs, below n x) : wOk 1 xs = true := wOk_of fun x hx => by obtain ⟨j, rfl, _⟩ := h x hx; rfl
theorem isS_set {ds : List V} {k : Nat} {x : List Nat} (h : ∀ d ∈ ds, isS d) : ∀ d ∈ ds.set k (.str x), isS d := by
  intro d hd
  rcases List.mem_or_eq_of_mem_set hd with h1 | h1
  · exact h d h1
  · exact ⟨x, h1⟩

theorem toNats {n : Nat} {xs : List V} (h : ∀ x ∈ xs, below n x) : ∃ js : List Nat, xs = js.map (fun j : Nat => V.int .i64 (j : Int)) ∧ ∀ j ∈ js, j < n := by
  induction xs with
  | nil => exact ⟨[], rfl, by simp⟩
  | cons x r ih =>
    obtain ⟨js, rfl, hb⟩ := ih fun y hy => h y (by simp [hy])
    obtain ⟨j, rfl, hj⟩ := h _ (List.mem_cons_self)
    exact ⟨j :: js, rfl, by simpa using ⟨hj, hb⟩⟩
theorem mk0 {S0 s : St} {c g k : Nat} {xs : List V} (h : S0.next ≤ c) (h1 : c < s.next) (h2 : s.mem c = some (.tip g xs.length k)) : Tip0 S0 s (.sl c g 0 xs) k xs :=
  ⟨Or.inr ⟨c, g, rfl, h1, h2⟩, by simp [V.own]; exact h⟩

set_option maxHeartbeats 4000000 in
theorem heads_spec (h14 : T 14 = some (.body v14)) (h30 : T 30 = some (.body v30)) (h102 : T 102 = some (.body v102)) {s : St} {o a : Nat} {lv : V} (t : TapeOk s o lv a) (c : Nat) (hc : c < s.next) (hco : c ≠ o) (va vk vt vx vn : V) (ks : List V) (hk : IsL vk ks) (hkl : ks.length ≤ 100) (hm : s.mem c = some (.obj [va, vk, vt, vx, vn, .nilsl, .nilsl])) :
    D T (.call 102 [.ptr o 0, .ptr c 0] s (fun _ s' => ∃ vh vr hs rs a' δ, IsL vh hs ∧ IsL vr rs ∧ (hs.length = 0 ∨ hs.length = ks.length) ∧ rs.length = hs.length ∧ (∀ x ∈ hs, isI x) ∧ (∀ x ∈ rs, isS x) ∧ a' ≤ 1000 ∧ s.next ≤ δ.next ∧ s' = (s.tp o lv a' δ).set c (.obj [va, vk, vt, vx, vn, vh, vr]))) := by
  have hlst := t.lst
  have hmem := t.mem
  have hlt := t.lt
  have hat := t.ha
  refine C.fn h102 rfl ?_
  unfold v102
  dsimp only
  ((have E := And.intro hm (And.intro hmem (And.intro hk.len (And.intro hk.notStr hco))); (repeat' (first | (refine NXt ?_; try intro K hK) | (refine hK _ _ ?_; clear hK; clear K; try refine PX ?_) | ((first | refine GC_case_t (fun hr => ?_) (fun hr => ?_) | refine GC_case_f (fun hr => ?_) (fun hr => ?_)) <;> (have h := hr; (try simp only [RH, reduceCtorEq] at h); refine SHb ?_; clear hr) <;> (try (exfalso; omega))) | (show D _ (J.ops _ _ _ _); refine SEb ?_) | (refine T_app ?_; try refine SEb ?_) | (refine T_fork ?_ ?_) | (simp only [T_nil]) | (refine TS (fun h => ?_) (fun h => ?_) (hc := HEb) <;> (try simp only [RH, reduceCtorEq] at h) <;> (try (exfalso; omega))) | (show retR _ _ _ _ _; refine SRb ?_) | exact rfl))) <;> (try clear E))
  refine W.midF (fun F' s' => St.LeW [o, c] s s' ∧ ∃ (a' : Nat) (os : List V), a' ≤ 1000 ∧ s'.mem o = some (.obj [lv, .int .i64 a']) ∧ s'.mem c = some (.obj [va, vk, vt, vx, vn, .nilsl, .nilsl]) ∧ IsL (F' 5) os ∧ os.length = ks.length ∧ ∀ x ∈ os, below ks.length x) (W.bloop (fun n F s' => St.LeW [o, c] s s' ∧ ∃ (a' : Nat) (os : List V), a' ≤ 1000 ∧ s'.mem o = some (.obj [lv, .int .i64 a']) ∧ s'.mem c = some (.obj [va, vk, vt, vx, vn, .nilsl, .nilsl]) ∧ IsL (F 5) os ∧ (∀ x ∈ os, below ks.length x) ∧ F 6 = .int .i64 os.length ∧ os.length + n = ks.length) ks.length ⟨by (exact LWb), a, [], hat, hmem, hm, by (first | exact SCb | refine SBb ?_); exact .nil, by simp, IB, by simp⟩ ?_) ?_
  · rintro n F s' hfr ⟨hle, a1, os, ha1, hmo, hmc, hos, hob, h6, hn⟩
    have hnx := hle.1
    have hw := cells1_int hob
    by_cases hlast : os.length = ks.length
    · ((have E := And.intro hfr h6; (repeat' (first | (refine NXt ?_; try intro K hK) | (refine hK _ _ ?_; clear hK; clear K; try refine PX ?_) | ((first | refine GC_case_t (fun hr => ?_) (fun hr => ?_) | refine GC_case_f (fun hr => ?_) (fun hr => ?_)) <;> (have h := hr; (try simp only [RH, reduceCtorEq] at h); refine SHb ?_; clear hr) <;> (try (exfalso; omega))) | (show D _ (J.ops _ _ _ _); refine SEb ?_) | (refine T_app ?_; try refine SEb ?_) | (refine T_fork ?_ ?_) | (simp only [T_nil]) | (refine TS (fun h => ?_) (fun h => ?_) (hc := HEb) <;> (try simp only [RH, reduceCtorEq] at h) <;> (try (exfalso; omega))) | (show retR _ _ _ _ _; refine SRb ?_) | exact rfl))) <;> (try clear E))
      exact ⟨hle, a1, os, ha1, hmo, hmc, by (first | exact SCb | refine SBb ?_); exact hos, hlast, hob⟩
    · ((have E := And.intro hfr (And.intro h6 (And.intro hmo (And.intro hmc hco))); (repeat' (first | (refine NXa ?_; try intro K hK) | (refine hK _ _ ?_; clear hK; clear K; try refine PX ?_) | ((first | refine GC_case_t (fun hr => ?_) (fun hr => ?_) | refine GC_case_f (fun hr => ?_) (fun hr => ?_)) <;> (have h := hr; (try simp only [RH, reduceCtorEq] at h); refine SHb ?_; clear hr) <;> (try (exfalso; omega))) | (refine X_callc rfl ?_; refine SNb ?_; refine D.mono_call (Next_spec h14 h30 (TapeOk.mk (lv := lv) IEb (by exact DB) (by omega) hlst) _ (by omega) (by omega)) ?_; rintro v s' ⟨k, rfl, hk0, hk1, a', ha', rfl⟩; (try simp only [NB] at hδ); refine ⟨by exact CEb, ?_⟩; try refine SEb ?_) | (show D _ (J.ops _ _ _ _); refine SEb ?_) | (refine TS (fun h => ?_) (fun h => ?_) (hc := HEb) <;> (try simp only [RH, reduceCtorEq] at h) <;> (try (exfalso; omega))) | (show retR _ _ _ _ _; refine SRb ?_) | exact rfl))) <;> (try clear E))
      obtain ⟨kn, rfl⟩ : ∃ kn : Nat, k = kn := ⟨k.toNat, by omega⟩
      have hs1 : ∀ s : St, sliceV 1 (F 5) none (some (.int .i64 (kn : Int))) none s = some ((F 5).sub 0 kn, s) := fun s => hos.sl_b (k2 := .i64) (s := s) hw (by omega)
      have hs2 : ∀ s : St, sliceV 1 (F 5) (some (.int .i64 (kn : Int))) none none s = some ((F 5).sub kn os.length, s) := fun s => hos.sl_a (k1 := .i64) (s := s) hw (by omega)
      have hS1 := hos.sub 0 kn
      have hS2 := hos.sub kn os.length
      rw [List.drop_zero] at hS1
      rw [List.take_length] at hS2
      refine W.midL (fun F' s' => St.LeW [o, c] s s' ∧ ∃ (a' : Nat) (os2 : List V), a' ≤ 1000 ∧ s'.mem o = some (.obj [lv, .int .i64 a']) ∧ s'.mem c = some (.obj [va, vk, vt, vx, vn, .nilsl, .nilsl]) ∧ IsL (F' 5) os2 ∧ (∀ x ∈ os2, below ks.length x) ∧ os2.length = os.length + 1) (W.tree' fun K hK => ?_) ?_
      · have hw1 : wOk 1 (os.take kn) = true := cells1_int fun x hx => hob x (List.mem_of_mem_take hx)
        have hw2 : wOk 1 (os.drop kn) = true := cells1_int fun x hx => hob x (List.mem_of_mem_drop hx)
        have hw3 : wOk 1 (os.take kn ++ [.int .i64 os.length]) = true := cells1_int (n := ks.length) fun x hx => by
          rcases List.mem_append.1 hx with h | h
          · exact hob x (List.mem_of_mem_take h)
          · exact ⟨os.length, List.mem_singleton.1 h, by omega⟩
        ((have E := And.intro hs1 (And.intro hs2 (And.intro hos.notStr (And.intro h6 hfr))); (repeat' (first | (refine NXt ?_; try intro K hK) | (refine hK _ _ ?_; clear hK; clear K; try refine PX ?_) | ((first | refine GC_case_t (fun hr => ?_) (fun hr => ?_) | refine GC_case_f (fun hr => ?_) (fun hr => ?_)) <;> (have h := hr; (try simp only [RH, reduceCtorEq] at h); refine SHb ?_; clear hr) <;> (try (exfalso; omega))) | (show D _ (J.ops _ _ _ _); refine SEb ?_) | (refine T_app ?_; try refine SEb ?_) | (refine T_fork ?_ ?_) | (simp only [T_nil]) | (refine TS (fun h => ?_) (fun h => ?_) (hc := HEb) <;> (try simp only [RH, reduceCtorEq] at h) <;> (try (exfalso; omega))) | (show retR _ _ _ _ _; refine SRb ?_) | exact rfl))) <;> (try clear E))
        all_goals
          refine X_appW (W := [o, c]) (S0 := s) (chk := []) IB IB (by first | assumption | exact mk0 (by omega) (by first | omega | (((first | exact SCb | refine SBb ?_)) <;> omega)) (by (first | exact SCb | refine SBb ?_)) | exact Tip0.new_ (by assumption)) (by (exact LWb)) (by first | exact hS1.elems | exact hS2.elems | rfl) (by first | exact hS1.rowOk | exact hS2.rowOk | rfl) (by first | exact hw1 | exact hw2 | rfl) (by first | rfl | (simp only [List.nil_append]; first | exact hw1 | exact hw3)) (by simp; omega) (by omega) (fun _ _ => trivial) ?_
          intro v1 δ1 htip1 hle1 hδ1
          (try simp only [NB] at hδ1)
          (repeat' (first | (refine NXt ?_; try intro K hK) | (refine hK _ _ ?_; clear hK; clear K; try refine PX ?_) | ((first | refine GC_case_t (fun hr => ?_) (fun hr => ?_) | refine GC_case_f (fun hr => ?_) (fun hr => ?_)) <;> (have h := hr; (try simp only [RH, reduceCtorEq] at h); simp (disch := first|exact DB|fail) only [hr, RB, ↓reduceIte, Nat.reduceEqDiff, reduceCtorEq, Nat.reduceLeDiff, Nat.reduceAdd, Int.reduceToNat, Nat.reduceLT]; clear hr) <;> (try (exfalso; omega))) | (show D _ (J.ops _ _ _ _); refine SBb ?_) | (refine T_app ?_; try refine SBb ?_) | (refine T_fork ?_ ?_) | (simp only [T_nil]) | (refine TS (fun h => ?_) (fun h => ?_) (hc := HCb) <;> (try simp only [RH, reduceCtorEq] at h) <;> (try (exfalso; omega))) | (show retR _ _ _ _ _; simp (disch := first|exact DB|fail) only [RR, RB, ↓reduceIte, Nat.reduceEqDiff, reduceCtorEq, Nat.reduceLeDiff, Nat.reduceAdd, Int.reduceToNat, Nat.reduceLT]) | exact rfl))
          refine X_appW (W := [o, c]) (S0 := s) (chk := []) IB IB (by first | assumption | exact mk0 (by omega) (by first | omega | (((first | exact SCb | refine SBb ?_)) <;> omega)) (by (first | exact SCb | refine SBb ?_)) | exact Tip0.new_ (by assumption)) (by (exact LWb)) (by first | exact hS1.elems | exact hS2.elems | rfl) (by first | exact hS1.rowOk | exact hS2.rowOk | rfl) (by first | exact hw1 | exact hw2 | rfl) (by first | rfl | (simp only [List.nil_append]; first | exact hw1 | exact hw3)) (by simp; omega) (by omega) (fun _ _ => trivial) ?_
          intro v1 δ1 htip1 hle1 hδ1
          (try simp only [NB] at hδ1)
          (repeat' (first | (refine NXt ?_; try intro K hK) | (refine hK _ _ ?_; clear hK; clear K; try refine PX ?_) | ((first | refine GC_case_t (fun hr => ?_) (fun hr => ?_) | refine GC_case_f (fun hr => ?_) (fun hr => ?_)) <;> (have h := hr; (try simp only [RH, reduceCtorEq] at h); simp (disch := first|exact DB|fail) only [hr, RB, ↓reduceIte, Nat.reduceEqDiff, reduceCtorEq, Nat.reduceLeDiff, Nat.reduceAdd, Int.reduceToNat, Nat.reduceLT]; clear hr) <;> (try (exfalso; omega))) | (show D _ (J.ops _ _ _ _); refine SBb ?_) | (refine T_app ?_; try refine SBb ?_) | (refine T_fork ?_ ?_) | (simp only [T_nil]) | (refine TS (fun h => ?_) (fun h => ?_) (hc := HCb) <;> (try simp only [RH, reduceCtorEq] at h) <;> (try (exfalso; omega))) | (show retR _ _ _ _ _; simp (disch := first|exact DB|fail) only [RR, RB, ↓reduceIte, Nat.reduceEqDiff, reduceCtorEq, Nat.reduceLeDiff, Nat.reduceAdd, Int.reduceToNat, Nat.reduceLT]) | exact rfl))
          refine X_appW (W := [o, c]) (S0 := s) (chk := []) IB IB (by first | assumption | exact mk0 (by omega) (by first | omega | (((first | exact SCb | refine SBb ?_)) <;> omega)) (by (first | exact SCb | refine SBb ?_)) | exact Tip0.new_ (by assumption)) (by (exact LWb)) (by first | exact hS1.elems | exact hS2.elems | rfl) (by first | exact hS1.rowOk | exact hS2.rowOk | rfl) (by first | exact hw1 | exact hw2 | rfl) (by first | rfl | (simp only [List.nil_append]; first | exact hw1 | exact hw3)) (by simp; omega) (by omega) (fun _ _ => trivial) ?_
          intro v1 δ1 htip1 hle1 hδ1
          (try simp only [NB] at hδ1)
          (repeat' (first | (refine NXt ?_; try intro K hK) | (refine hK _ _ ?_; clear hK; clear K; try refine PX ?_) | ((first | refine GC_case_t (fun hr => ?_) (fun hr => ?_) | refine GC_case_f (fun hr => ?_) (fun hr => ?_)) <;> (have h := hr; (try simp only [RH, reduceCtorEq] at h); simp (disch := first|exact DB|fail) only [hr, RB, ↓reduceIte, Nat.reduceEqDiff, reduceCtorEq, Nat.reduceLeDiff, Nat.reduceAdd, Int.reduceToNat, Nat.reduceLT]; clear hr) <;> (try (exfalso; omega))) | (show D _ (J.ops _ _ _ _); refine SBb ?_) | (refine T_app ?_; try refine SBb ?_) | (refine T_fork ?_ ?_) | (simp only [T_nil]) | (refine TS (fun h => ?_) (fun h => ?_) (hc := HCb) <;> (try simp only [RH, reduceCtorEq] at h) <;> (try (exfalso; omega))) | (show retR _ _ _ _ _; simp (disch := first|exact DB|fail) only [RR, RB, ↓reduceIte, Nat.reduceEqDiff, reduceCtorEq, Nat.reduceLeDiff, Nat.reduceAdd, Int.reduceToNat, Nat.reduceLT]) | exact rfl))
          exact ⟨by (exact LWb), a', _, ha', by (first | exact SCb | refine SBb ?_), by ((have E := And.intro hmc hco; first | exact SXb | refine SEb ?_) <;> (try clear E)), by (first | exact SCb | refine SBb ?_); exact htip1.isL, fun x hx => by
            simp only [List.nil_append, List.mem_append, List.mem_singleton] at hx
            rcases hx with (h | h) | h
            · exact hob x (List.mem_of_mem_take h)
            · exact ⟨os.length, h, by omega⟩
            · exact hob x (List.mem_of_mem_drop h), by simp; omega⟩
      · rintro F1 s2 hfr1 ⟨hle2, a2, os2, ha2, hmo2, hmc2, hos2, hob2, hl2⟩
        ((have E := And.intro hfr1 (And.intro hfr h6); (repeat' (first | (refine NXt ?_; try intro K hK) | (refine hK _ _ ?_; clear hK; clear K; try refine PX ?_) | ((first | refine GC_case_t (fun hr => ?_) (fun hr => ?_) | refine GC_case_f (fun hr => ?_) (fun hr => ?_)) <;> (have h := hr; (try simp only [RH, reduceCtorEq] at h); refine SHb ?_; clear hr) <;> (try (exfalso; omega))) | (show D _ (J.ops _ _ _ _); refine SEb ?_) | (refine T_app ?_; try refine SEb ?_) | (refine T_fork ?_ ?_) | (simp only [T_nil]) | (refine TS (fun h => ?_) (fun h => ?_) (hc := HEb) <;> (try simp only [RH, reduceCtorEq] at h) <;> (try (exfalso; omega))) | (show retR _ _ _ _ _; refine SRb ?_) | exact rfl))) <;> (try clear E))
        exact ⟨n - 1, by omega, hle2, a2, os2, ha2, hmo2, hmc2, by (first | exact SCb | refine SBb ?_); exact hos2, hob2, by (first | exact SCb | refine SBb ?_); congr 1; omega, by omega⟩
  rintro F1 s1 hfr1 ⟨hle, a1, os, ha1, hmo, hmc, hos, hosl, hob⟩
  have hnx := hle.1
  have hw := cells1_int hob
  refine W.midF (fun F' s2 => ∃ r1 r2, F' 8 = .row r1 1 0 ks.length ∧ F' 9 = .row r2 1 0 ks.length ∧ s2.mem r1 = some (.row (List.replicate ks.length (.int .i64 0))) ∧ s2.mem r2 = some (.row (List.replicate ks.length (.str []))) ∧ r1 ≠ r2 ∧ s.next ≤ r1 ∧ s.next ≤ r2 ∧ r1 < s2.next ∧ r2 < s2.next ∧ St.LeW [o, c] s s2 ∧ s2.mem o = some (.obj [lv, .int .i64 a1]) ∧ s2.mem c = some (.obj [va, vk, vt, vx, vn, .nilsl, .nilsl])) (W.tree' fun K hK => ?_) ?_
  · ((have E := hfr1; (repeat' (first | (refine NXt ?_; try intro K hK) | (refine hK _ _ ?_; clear hK; clear K; try refine PX ?_) | ((first | refine GC_case_t (fun hr => ?_) (fun hr => ?_) | refine GC_case_f (fun hr => ?_) (fun hr => ?_)) <;> (have h := hr; (try simp only [RH, reduceCtorEq] at h); refine SHb ?_; clear hr) <;> (try (exfalso; omega))) | (show D _ (J.ops _ _ _ _); refine SEb ?_) | (refine T_app ?_; try refine SEb ?_) | (refine T_fork ?_ ?_) | (simp only [T_nil]) | (refine TS (fun h => ?_) (fun h => ?_) (hc := HEb) <;> (try simp only [RH, reduceCtorEq] at h) <;> (try (exfalso; omega))) | (show retR _ _ _ _ _; refine SRb ?_) | exact rfl))) <;> (try clear E))
    · exact ⟨s1.next, s1.next + 1, IB, IB, IB, IB, by omega, by omega, by omega, by ((first | exact SCb | refine SBb ?_)) <;> omega, by ((first | exact SCb | refine SBb ?_)) <;> omega, by (exact LWb), by ((have E := hmo; first | exact SXb | refine SEb ?_) <;> (try clear E)), by ((have E := hmc; first | exact SXb | refine SEb ?_) <;> (try clear E))⟩
    · exact ⟨s1.next + 1, s1.next, IB, IB, IB, IB, by omega, by omega, by omega, by ((first | exact SCb | refine SBb ?_)) <;> omega, by ((first | exact SCb | refine SBb ?_)) <;> omega, by (exact LWb), by ((have E := hmo; first | exact SXb | refine SEb ?_) <;> (try clear E)), by ((have E := hmc; first | exact SXb | refine SEb ?_) <;> (try clear E))⟩
  rintro F2 s2 hfr2 ⟨r1, r2, h8, h9, hm1, hm2, hr12, hr1, hr2, hr1n, hr2n, hle2, hmo2, hmc2⟩
  have hol : lenV (F1 5) = some ks.length := by rw [hos.len, hosl]
  obtain ⟨js, rfl, hjb⟩ := toNats hob
  rw [List.length_map] at hosl
  ((have E := And.intro hfr2 (And.intro hol hos.notStr); (repeat' (first | (refine NXt ?_; try intro K hK) | (refine hK _ _ ?_; clear hK; clear K; try refine PX ?_) | ((first | refine GC_case_t (fun hr => ?_) (fun hr => ?_) | refine GC_case_f (fun hr => ?_) (fun hr => ?_)) <;> (have h := hr; (try simp only [RH, reduceCtorEq] at h); refine SHb ?_; clear hr) <;> (try (exfalso; omega))) | (show D _ (J.ops _ _ _ _); refine SEb ?_) | (refine T_app ?_; try refine SEb ?_) | (refine T_fork ?_ ?_) | (simp only [T_nil]) | (refine TS (fun h => ?_) (fun h => ?_) (hc := HEb) <;> (try simp only [RH, reduceCtorEq] at h) <;> (try (exfalso; omega))) | (show retR _ _ _ _ _; refine SRb ?_) | exact rfl))) <;> (try clear E))
  refine W.seq (W.range (N := ks.length) (fun k F s' => St.LeW [o, c] s s' ∧ isB (F 10) ∧ ∃ (a' : Nat) (hs rs : List V), a' ≤ 1000 ∧ s'.mem o = some (.obj [lv, .int .i64 a']) ∧ s'.mem c = some (.obj [va, vk, vt, vx, vn, .nilsl, .nilsl]) ∧ s'.mem r1 = some (.row hs) ∧ s'.mem r2 = some (.row rs) ∧ hs.length = ks.length ∧ rs.length = ks.length ∧ (∀ x ∈ hs, isI x) ∧ (∀ x ∈ rs, isS x) ∧ r1 < s'.next ∧ r2 < s'.next) IB IB (by omega) rfl ST ⟨hle2, ⟨false, IB⟩, a1, _, _, ha1, hmo2, hmc2, hm1, hm2, by simp, by simp, fun d hd => ⟨0, List.eq_of_mem_replicate hd⟩, fun d hd => ⟨[], List.eq_of_mem_replicate hd⟩, hr1n, hr2n⟩ ?_ ?_)
  · rintro kq F s' hkq hfr hi ⟨hle3, ⟨b10, h10⟩, a3, hs, rs, ha3, hmo3, hmc3, hm13, hm23, hl1, hl2, hI, hS, hr1n3, hr2n3⟩
    have hnx3 := hle3.1
    have hkj : kq < js.length := by omega
    have hj := hjb _ (List.getElem_mem hkj)
    obtain ⟨hj0, hhj⟩ := hI _ (List.getElem_mem (show js[kq] < hs.length by omega))
    obtain ⟨rj0, hrj⟩ := hS _ (List.getElem_mem (show js[kq] < rs.length by omega))
    have hjh : js[kq] < hs.length := by omega
    have hjr : js[kq] < rs.length := by omega
    ((have E := And.intro hfr (And.intro hi (And.intro hfr2 (And.intro hfr1 (And.intro hos.ixmE (And.intro h8 (And.intro h9 (And.intro hm13 (And.intro hhj (And.intro hmo3 hmc3))))))))); (repeat' (first | (refine NXa ?_; try intro K hK) | (refine hK _ _ ?_; clear hK; clear K; try refine PX ?_) | ((first | refine GC_case_t (fun hr => ?_) (fun hr => ?_) | refine GC_case_f (fun hr => ?_) (fun hr => ?_)) <;> (have h := hr; (try simp only [RH, reduceCtorEq] at h); refine SHb ?_; clear hr) <;> (try (exfalso; omega))) | (refine X_callc rfl ?_; refine SNb ?_; refine D.mono_call (Next_spec h14 h30 (TapeOk.mk (lv := lv) IEb (by exact DB) (by omega) hlst) _ (by omega) (by omega)) ?_; rintro v s' ⟨k, rfl, hk0, hk1, a', ha', rfl⟩; (try simp only [NB] at hδ); refine ⟨by exact CEb, ?_⟩; try refine SEb ?_) | (show D _ (J.ops _ _ _ _); refine SEb ?_) | (show retR _ _ _ _ _; refine SRb ?_) | exact rfl))) <;> (try clear E))
    all_goals
      refine W.midF (fun F' s4 => St.LeW [o, c] s s4 ∧ ∃ (a' : Nat) (hs' rs' : List V), a' ≤ 1000 ∧ s4.mem o = some (.obj [lv, .int .i64 a']) ∧ s4.mem c = some (.obj [va, vk, vt, vx, vn, .nilsl, .nilsl]) ∧ s4.mem r1 = some (.row hs') ∧ s4.mem r2 = some (.row rs') ∧ hs'.length = ks.length ∧ rs'.length = ks.length ∧ (∀ x ∈ hs', isI x) ∧ (∀ x ∈ rs', isS x) ∧ r1 < s4.next ∧ r2 < s4.next) ?_ ?_
      · ((have E := And.intro hfr (And.intro hi (And.intro hfr2 (And.intro hfr1 (And.intro hos.ixzE (And.intro h8 (And.intro h9 (And.intro hm13 (And.intro hm23 (And.intro hhj (And.intro hrj (And.intro hmo3 hmc3))))))))))); (repeat' (first | (refine NXt ?_; try intro K hK) | (refine hK _ _ ?_; clear hK; clear K; try refine PX ?_) | ((first | refine GC_case_t (fun hr => ?_) (fun hr => ?_) | refine GC_case_f (fun hr => ?_) (fun hr => ?_)) <;> (have h := hr; (try simp only [RH, reduceCtorEq] at h); refine SHb ?_; clear hr) <;> (try (exfalso; omega))) | (refine X_callc rfl ?_; refine SNb ?_; refine D.mono_call (Next_spec h14 h30 (TapeOk.mk (lv := lv) IEb (by exact DB) (by omega) hlst) _ (by omega) (by omega)) ?_; rintro v s' ⟨k, rfl, hk0, hk1, a', ha', rfl⟩; (try simp only [NB] at hδ); refine ⟨by exact CEb, ?_⟩; try refine SEb ?_) | (show D _ (J.ops _ _ _ _); refine SEb ?_) | (refine T_app ?_; try refine SEb ?_) | (refine T_fork ?_ ?_) | (simp only [T_nil]) | (refine TS (fun h => ?_) (fun h => ?_) (hc := HEb) <;> (try simp only [RH, reduceCtorEq] at h) <;> (try (exfalso; omega))) | (show retR _ _ _ _ _; refine SRb ?_) | exact rfl))) <;> (try clear E))
        all_goals exact ⟨by (exact LWb), _, _, _, by first | exact ha' | exact ha3, (by have E := hmo3; exact IEb), (by have E := And.intro hmc3 hco; exact IEb), (by have E := hm13; exact IEb), (by have E := hm23; exact IEb), by simp [hl1], by simp [hl2], by first | exact isI_set (isI_set hI) | exact isI_set hI, by first | exact isS_set hS | exact hS, by ((first | exact SCb | refine SBb ?_)) <;> omega, by ((first | exact SCb | refine SBb ?_)) <;> omega⟩
      · rintro F4 s4 hfr4 ⟨hle4, a4, hs4, rs4, ha4, hmo4, hmc4, hm14, hm24, hl14, hl24, hI4, hS4, hr1n4, hr2n4⟩
        obtain ⟨hj04, hhj4⟩ := hI4 _ (List.getElem_mem (show js[kq] < hs4.length by omega))
        obtain ⟨rj04, hrj4⟩ := hS4 _ (List.getElem_mem (show js[kq] < rs4.length by omega))
        have hjh4 : js[kq] < hs4.length := by omega
        have hjr4 : js[kq] < rs4.length := by omega
        ((have E := And.intro hfr4 (And.intro hfr (And.intro hi (And.intro hfr2 (And.intro hfr1 (And.intro h8 (And.intro h9 (And.intro h10 (And.intro hm14 (And.intro hm24 (And.intro hhj4 hrj4)))))))))); (repeat' (first | (refine NXt ?_; try intro K hK) | (refine hK _ _ ?_; clear hK; clear K; try refine PX ?_) | ((first | refine GC_case_t (fun hr => ?_) (fun hr => ?_) | refine GC_case_f (fun hr => ?_) (fun hr => ?_)) <;> (have h := hr; (try simp only [RH, reduceCtorEq] at h); refine SHb ?_; clear hr) <;> (try (exfalso; omega))) | (show D _ (J.ops _ _ _ _); refine SEb ?_) | (refine T_app ?_; try refine SEb ?_) | (refine T_fork ?_ ?_) | (simp only [T_nil]) | (refine TS (fun h => ?_) (fun h => ?_) (hc := HEb) <;> (try simp only [RH, reduceCtorEq] at h) <;> (try (exfalso; omega))) | (show retR _ _ _ _ _; refine SRb ?_) | exact rfl))) <;> (try clear E))
        all_goals exact ⟨hle4, ⟨_, IB⟩, a4, hs4, rs4, ha4, hmo4, hmc4, hm14, hm24, hl14, hl24, hI4, hS4, hr1n4, hr2n4⟩
  · rintro F s' hfr ⟨hle3, ⟨b10, h10⟩, a3, hs, rs, ha3, hmo3, hmc3, hm13, hm23, hl1, hl2, hI, hS, hr1n3, hr2n3⟩
    have hnx3 := hle3.1
    (repeat' (first | (refine NXt ?_; try intro K hK) | (refine hK _ _ ?_; clear hK; clear K; try refine PX ?_) | ((first | refine GC_case_t (fun hr => ?_) (fun hr => ?_) | refine GC_case_f (fun hr => ?_) (fun hr => ?_)) <;> (have h := hr; (try simp only [RH, reduceCtorEq] at h); simp (disch := first|exact DB|fail) only [hr, RB, ↓reduceIte, Nat.reduceEqDiff, reduceCtorEq, Nat.reduceLeDiff, Nat.reduceAdd, Int.reduceToNat, Nat.reduceLT, hfr, hfr2, hfr1, h8, h9, h10, hm13, hm23, hmc3, hco, hl1, hl2, hr12.symm]; clear hr) <;> (try (exfalso; omega))) | (show D _ (J.ops _ _ _ _); simp (disch := first|exact DB|fail) only [RB, ↓reduceIte, Nat.reduceEqDiff, reduceCtorEq, Nat.reduceLeDiff, Nat.reduceAdd, Int.reduceToNat, Nat.reduceLT, hfr, hfr2, hfr1, h8, h9, h10, hm13, hm23, hmc3, hco, hl1, hl2, hr12.symm]) | (refine T_app ?_; try simp (disch := first|exact DB|fail) only [RB, ↓reduceIte, Nat.reduceEqDiff, reduceCtorEq, Nat.reduceLeDiff, Nat.reduceAdd, Int.reduceToNat, Nat.reduceLT, hfr, hfr2, hfr1, h8, h9, h10, hm13, hm23, hmc3, hco, hl1, hl2, hr12.symm]) | (refine T_fork ?_ ?_) | (simp only [T_nil]) | (refine TS (fun h => ?_) (fun h => ?_) (hc := by (simp (disch := first|exact DB|fail) only [RB, ↓reduceIte, Nat.reduceEqDiff, reduceCtorEq, Nat.reduceLeDiff, Nat.reduceAdd, Int.reduceToNat, Nat.reduceLT, hfr, hfr2, hfr1, h8, h9, h10, hm13, hm23, hmc3, hco, hl1, hl2, hr12.symm]) <;> rfl) <;> (try simp only [RH, reduceCtorEq] at h) <;> (try (exfalso; omega))) | (show retR _ _ _ _ _; simp (disch := first|exact DB|fail) only [RR, RB, ↓reduceIte, Nat.reduceEqDiff, reduceCtorEq, Nat.reduceLeDiff, Nat.reduceAdd, Int.reduceToNat, Nat.reduceLT, hfr, hfr2, hfr1, h8, h9, h10, hm13, hm23, hmc3, hco, hl1, hl2, hr12.symm]) | exact rfl))
    · refine ⟨_, _, hs.take ks.length, rs.take ks.length, a3, _, .sl, .sl, .inr (by simp [hl1]), by simp [hl1, hl2], fun x hx => hI x (List.mem_of_mem_take hx), fun x hx => hS x (List.mem_of_mem_take hx), ha3, ?_, LeW.tpc (o := o) (c := c) (by (exact LWb)) hco (by have E := hmo3; exact IEb) (by have E := hmc3; exact IEb)⟩
      ((first | exact SCb | refine SBb ?_)) <;> omega
    · exact ⟨.nilsl, .nilsl, [], [], a3, s', .nil, .nil, .inl rfl, rfl, by simp, by simp, ha3, hnx3, LeW.tpc hle3 hco hmo3 hmc3⟩
end Go.VS.Fn

namespace Go.VS.Fn
open Go.VS
variable {T : Nat → Option FnDef}

/-- Texts that follow upon one another. -/
def TOk : Int → List V → Int → Prop
  | b, [], e => b = e
  | b, t :: r, e => ∃ a e' m, t = .agg [.str a, .int .i64 b, .int .i64 e', m] ∧ Arr isPair 100 m ∧ b < e' ∧ TOk e' r e

/-- A corpus as the functions that make corpora make it. -/
def MC (c : V) : Prop := ∃ as ks ts xs ns hs rs, CShape c as ks ts xs ns hs rs ∧ TOk 0 ts ks.length ∧ 1 ≤ ks.length ∧ ks.length ≤ 4096 ∧ (hs.length = 0 ∨ hs.length = ks.length) ∧ rs.length = hs.length

/-- The functions that make corpora. -/
structure HM (T : Nat → Option FnDef) : Prop where
  h14 : T 14 = some (.body v14)
  h30 : T 30 = some (.body v30)
  h34 : T 34 = some (.body v34)
  h52 : T 52 = some (.body v52)
  h53 : T 53 = some (.body v53)
  h54 : T 54 = some (.body v54)
  h15 : T 15 = some (.body v15)
  h56 : T 56 = some (.body v56)
  h101 : T 101 = some (.body v101)
  h102 : T 102 = some (.body v102)
  h20 : T 20 = some (.body v20)
  h4 : T 4 = some (.body v4)
  h22 : T 22 = some (.body v22)
  h5 : T 5 = some (.body v5)
  h3 : T 3 = some (.body v3)
  h21 : T 21 = some (.body v21)
  h36 : T 36 = some (.body v36)
  h37 : T 37 = some (.body v37)
  h38 : T 38 = some (.body v38)

def wtab (x : Int) : Int := match ([0, 1, 0, 2, 3, 4, 1, 5] : List Int)[x.toNat]? with | some y => y | none => 0
theorem wtab_ok (x : Int) : 0 ≤ wtab x ∧ wtab x < 6 := by
  simp only [wtab]
  generalize x.toNat = i
  match i with
  | 0 | 1 | 2 | 3 | 4 | 5 | 6 | 7 => decide
  | i + 8 => simp
theorem ix_wtab {c g off : Nat} {x : Int} {kk : IntKind} (h0 : 0 ≤ x) (h1 : x < 8) : idxV 1 (.sl c g off [.int .i64 0, .int .i64 1, .int .i64 0, .int .i64 2, .int .i64 3, .int .i64 4, .int .i64 1, .int .i64 5]) (.int kk x) = some (.cptr c g (off + x.toNat) 0 [.int .i64 (wtab x)]) := by
  obtain rfl | rfl | rfl | rfl | rfl | rfl | rfl | rfl : x = 0 ∨ x = 1 ∨ x = 2 ∨ x = 3 ∨ x = 4 ∨ x = 5 ∨ x = 6 ∨ x = 7 := by omega
  all_goals rfl
theorem cells1_tok {xs : List V} (h : ∀ x ∈ xs, isTok x) : wOk 1 xs = true := wOk_of fun x hx => by obtain ⟨ys, hy, _⟩ := h x hx; rw [hy.cells1]; rfl

set_option maxHeartbeats 8000000 in
theorem Document_spec (M : HM T) (H : HV T) {s : St} {o a : Nat} {lv : V} (t : TapeOk s o lv a) (name : List Nat) (most : Int) (hmo1 : 1 ≤ most) (hmo2 : most ≤ 50) : D T (.call 20 [.ptr o 0, .str name, .int .i64 most] s (fun v s' => MC v ∧ St.Tp s o lv s')) := by
  have h14 := M.h14
  have h30 := M.h30
  have hlst := t.lst
  have hmem := t.mem
  have hlt := t.lt
  have hat := t.ha
  refine C.fn M.h20 rfl ?_
  unfold v20
  dsimp only
  ((have E := hmem; (repeat' (first | (refine NXa ?_; try intro K hK) | (refine hK _ _ ?_; clear hK; clear K; try refine PX ?_) | ((first | refine GC_case_t (fun hr => ?_) (fun hr => ?_) | refine GC_case_f (fun hr => ?_) (fun hr => ?_)) <;> (have h := hr; (try simp only [RH, reduceCtorEq] at h); refine SHb ?_; clear hr) <;> (try (exfalso; omega))) | (refine X_callc rfl ?_; refine SNb ?_; refine D.mono_call (Next_spec h14 h30 (TapeOk.mk (lv := lv) IEb (by exact DB) (by omega) hlst) _ (by omega) (by omega)) ?_; rintro v s' ⟨k, rfl, hk0, hk1, a', ha', rfl⟩; (try simp only [NB] at hδ); refine ⟨by exact CEb, ?_⟩; try refine SEb ?_) | (refine X_callc rfl ?_; refine SNb ?_; refine D.mono_call (Attributes_made M.h34 _) ?_; rintro v s' ⟨⟨as, ias, hasl, hasP⟩, δ, hδ, rfl⟩; (try simp only [NB] at hδ); refine ⟨by exact CEb, ?_⟩; try refine SEb ?_) | (show D _ (J.ops _ _ _ _); refine SEb ?_) | (show retR _ _ _ _ _; refine SRb ?_) | exact rfl))) <;> (try clear E))
  generalize v = va at *
  obtain ⟨nn, hnn⟩ : ∃ nn : Int, nn = 1 + k := ⟨_, rfl⟩
  rw [← hnn]
  have hn1 : 1 ≤ nn := by omega
  have hn2 : nn ≤ 100 := by omega
  (repeat' (first | (refine NXa ?_; try intro K hK) | (refine hK _ _ ?_; clear hK; clear K; try refine PX ?_) | ((first | refine GC_case_t (fun hr => ?_) (fun hr => ?_) | refine GC_case_f (fun hr => ?_) (fun hr => ?_)) <;> (have h := hr; (try simp only [RH, reduceCtorEq] at h); simp (disch := first|exact DB|fail) only [hr, RB, ↓reduceIte, Nat.reduceEqDiff, reduceCtorEq, Nat.reduceLeDiff, Nat.reduceAdd, Int.reduceToNat, Nat.reduceLT, hmem, ias.cells1, ias.notTup, decide_true]; clear hr) <;> (try (exfalso; omega))) | (refine X_callc rfl ?_; simp (disch := first|exact DB|fail) only [List.nil_append, List.append_nil, RB, ↓reduceIte, Nat.reduceEqDiff, reduceCtorEq, Nat.reduceLeDiff, Nat.reduceAdd, Int.reduceToNat, Nat.reduceLT, hmem, ias.cells1, ias.notTup, decide_true]; refine D.mono_call (Next_spec h14 h30 (TapeOk.mk (lv := lv) (by (simp (disch := first|exact DB|fail) only [RB, ↓reduceIte, Nat.reduceEqDiff, reduceCtorEq, Nat.reduceLeDiff, Nat.reduceAdd, Int.reduceToNat, Nat.reduceLT, hmem, ias.cells1, ias.notTup, decide_true, Int.natCast_add, Int.natCast_one, Int.natCast_succ]) <;> rfl) (by exact DB) (by omega) hlst) _ (by omega) (by omega)) ?_; rintro v s' ⟨k, rfl, hk0, hk1, a', ha', rfl⟩; (try simp only [NB] at hδ); refine ⟨by first | exact CK | (simp only [RC, Chk.ok, V.ent]; simp (disch := first|exact DB|fail) only [RT, RB, ↓reduceIte, Nat.reduceEqDiff, reduceCtorEq, Nat.reduceLeDiff, Nat.reduceAdd, Int.reduceToNat, Nat.reduceLT, hmem, ias.cells1, ias.notTup, decide_true]), ?_⟩; try simp (disch := first|exact DB|fail) only [RB, ↓reduceIte, Nat.reduceEqDiff, reduceCtorEq, Nat.reduceLeDiff, Nat.reduceAdd, Int.reduceToNat, Nat.reduceLT, hmem, ias.cells1, ias.notTup, decide_true]) | (show D _ (J.ops _ _ _ _); simp (disch := first|exact DB|fail) only [RB, ↓reduceIte, Nat.reduceEqDiff, reduceCtorEq, Nat.reduceLeDiff, Nat.reduceAdd, Int.reduceToNat, Nat.reduceLT, hmem, ias.cells1, ias.notTup, decide_true]) | (show retR _ _ _ _ _; simp (disch := first|exact DB|fail) only [RR, RB, ↓reduceIte, Nat.reduceEqDiff, reduceCtorEq, Nat.reduceLeDiff, Nat.reduceAdd, Int.reduceToNat, Nat.reduceLT, hmem, ias.cells1, ias.notTup, decide_true]) | (simp (disch := first|exact DB|fail) only [RB, ↓reduceIte, Nat.reduceEqDiff, reduceCtorEq, Nat.reduceLeDiff, Nat.reduceAdd, Int.reduceToNat, Nat.reduceLT, hmem, ias.cells1, ias.notTup, decide_true]) | exact rfl))
  refine W.midF (fun F' s2 => St.LeW [o] s s2 ∧ ∃ (a' : Nat) (m : V), a' ≤ 1000 ∧ s2.mem o = some (.obj [lv, .int .i64 a']) ∧ s2.mem s.next = some (.obj [.nilsl, .nilsl, .nilsl, .nilsl, .nilsl, .nilsl, .nilsl]) ∧ s2.mem (δ.next + 1) = some (.obj [va, .nilsl, .row δ.next 4 0 1, .nilsl, .nilsl, .nilsl, .nilsl]) ∧ s2.mem δ.next = some (.row [.agg [.str name, .int .i64 0, .int .i64 nn, m]]) ∧ Arr isPair 100 m ∧ δ.next + 1 < s2.next) ?_ ?_
  · ((have E := hmem; (repeat' (first | (refine NXt ?_; try intro K hK) | (refine hK _ _ ?_; clear hK; clear K; try refine PX ?_) | ((first | refine GC_case_t (fun hr => ?_) (fun hr => ?_) | refine GC_case_f (fun hr => ?_) (fun hr => ?_)) <;> (have h := hr; (try simp only [RH, reduceCtorEq] at h); refine SHb ?_; clear hr) <;> (try (exfalso; omega))) | (refine X_callc rfl ?_; refine SNb ?_; refine D.mono_call (Next_spec h14 h30 (TapeOk.mk (lv := lv) IEb (by exact DB) (by omega) hlst) _ (by omega) (by omega)) ?_; rintro v s' ⟨k, rfl, hk0, hk1, a', ha', rfl⟩; (try simp only [NB] at hδ); refine ⟨by exact CEb, ?_⟩; try refine SEb ?_) | (show D _ (J.ops _ _ _ _); refine SEb ?_) | (refine T_app ?_; try refine SEb ?_) | (refine T_fork ?_ ?_) | (simp only [T_nil]) | (refine TS (fun h => ?_) (fun h => ?_) (hc := HEb) <;> (try simp only [RH, reduceCtorEq] at h) <;> (try (exfalso; omega))) | (show retR _ _ _ _ _; refine SRb ?_) | exact rfl))) <;> (try clear E))
    · exact ⟨by (exact LWb), a', _, ha', by (first | exact SCb | refine SBb ?_), by (first | exact SCb | refine SBb ?_), by (first | exact SCb | refine SBb ?_), IB, ⟨_, .sl, by simp, by simp [isPair]⟩, by ((first | exact SCb | refine SBb ?_)) <;> omega⟩
    · exact ⟨by (exact LWb), a', _, ha', by (first | exact SCb | refine SBb ?_), by (first | exact SCb | refine SBb ?_), by (first | exact SCb | refine SBb ?_), IB, ⟨_, .sl, by simp, by simp [isPair]⟩, by ((first | exact SCb | refine SBb ?_)) <;> omega⟩
    · exact ⟨by (exact LWb), a', .nilsl, ha', by (first | exact SCb | refine SBb ?_), by (first | exact SCb | refine SBb ?_), by (first | exact SCb | refine SBb ?_), IB, ⟨[], .nil, by simp, by simp⟩, by ((first | exact SCb | refine SBb ?_)) <;> omega⟩
  rintro F2 s2 hfr2 ⟨hle2, a2, m, ha2, hmo2', hm6, hm8, hmr, hmm, hnx⟩
  have hnx2 := hle2.1
  ((have E := And.intro hfr2 (And.intro hmo2' (And.intro hm6 (And.intro hm8 hmr))); (repeat' (first | (refine NXa ?_; try intro K hK) | (refine hK _ _ ?_; clear hK; clear K; try refine PX ?_) | ((first | refine GC_case_t (fun hr => ?_) (fun hr => ?_) | refine GC_case_f (fun hr => ?_) (fun hr => ?_)) <;> (have h := hr; (try simp only [RH, reduceCtorEq] at h); refine SHb ?_; clear hr) <;> (try (exfalso; omega))) | (show D _ (J.ops _ _ _ _); refine SEb ?_) | (show retR _ _ _ _ _; refine SRb ?_) | exact rfl))) <;> (try clear E))
  refine W.midF (fun F' s3 => St.LeW [o] s s3 ∧ ∃ (a' : Nat) (vk : V) (ks : List V), a' ≤ 1000 ∧ s3.mem o = some (.obj [lv, .int .i64 a']) ∧ s3.mem s.next = some (.obj [.nilsl, .nilsl, .nilsl, .nilsl, .nilsl, .nilsl, .nilsl]) ∧ s3.mem (δ.next + 1) = some (.obj [va, vk, .row δ.next 4 0 1, .nilsl, .nilsl, .nilsl, .nilsl]) ∧ s3.mem δ.next = some (.row [.agg [.str name, .int .i64 0, .int .i64 nn, m]]) ∧ δ.next + 1 < s3.next ∧ Tip0 s s3 vk 1 ks ∧ (∀ x ∈ ks, isTok x) ∧ ks.length = nn) (W.bloop (fun n F s3 => St.LeW [o] s s3 ∧ ∃ (a' : Nat) (vk : V) (ks : List V), a' ≤ 1000 ∧ s3.mem o = some (.obj [lv, .int .i64 a']) ∧ s3.mem s.next = some (.obj [.nilsl, .nilsl, .nilsl, .nilsl, .nilsl, .nilsl, .nilsl]) ∧ s3.mem (δ.next + 1) = some (.obj [va, vk, .row δ.next 4 0 1, .nilsl, .nilsl, .nilsl, .nilsl]) ∧ s3.mem δ.next = some (.row [.agg [.str name, .int .i64 0, .int .i64 nn, m]]) ∧ δ.next + 1 < s3.next ∧ Tip0 s s3 vk 1 ks ∧ (∀ x ∈ ks, isTok x) ∧ F 9 = .int .i64 ks.length ∧ (ks.length : Int) + n = nn) nn.toNat ⟨hle2, a2, .nilsl, [], ha2, hmo2', hm6, hm8, hmr, hnx, Tip0.nil, by simp, IB, by simp; omega⟩ ?_) ?_
  · rintro n F s3 hfr ⟨hle3, a3, vk, ks, ha3, hmo3, hm63, hm83, hmr3, hnx3, htip, hkP, h9, hkn⟩
    have hnx3' := hle3.1
    have hw := cells1_tok hkP
    by_cases hlast : (ks.length : Int) = nn
    · ((have E := And.intro hfr (And.intro hfr2 h9); (repeat' (first | (refine NXt ?_; try intro K hK) | (refine hK _ _ ?_; clear hK; clear K; try refine PX ?_) | ((first | refine GC_case_t (fun hr => ?_) (fun hr => ?_) | refine GC_case_f (fun hr => ?_) (fun hr => ?_)) <;> (have h := hr; (try simp only [RH, reduceCtorEq] at h); refine SHb ?_; clear hr) <;> (try (exfalso; omega))) | (show D _ (J.ops _ _ _ _); refine SEb ?_) | (refine T_app ?_; try refine SEb ?_) | (refine T_fork ?_ ?_) | (simp only [T_nil]) | (refine TS (fun h => ?_) (fun h => ?_) (hc := HEb) <;> (try simp only [RH, reduceCtorEq] at h) <;> (try (exfalso; omega))) | (show retR _ _ _ _ _; refine SRb ?_) | exact rfl))) <;> (try clear E))
      exact ⟨hle3, a3, vk, ks, ha3, hmo3, hm63, hm83, hmr3, hnx3, htip, hkP, hlast⟩
    · (repeat' (first | (refine NXt ?_; try intro K hK) | (refine hK _ _ ?_; clear hK; clear K; try refine PX ?_) | ((first | refine GC_case_t (fun hr => ?_) (fun hr => ?_) | refine GC_case_f (fun hr => ?_) (fun hr => ?_)) <;> (have h := hr; (try simp only [RH, reduceCtorEq] at h); simp (disch := first|exact DB|fail) only [hr, RB, ↓reduceIte, Nat.reduceEqDiff, reduceCtorEq, Nat.reduceLeDiff, Nat.reduceAdd, Int.reduceToNat, Nat.reduceLT, hfr, hfr2, h9, hmo3, hm83, bv_rem, bv_quo, Int.tmod_eq_emod_of_nonneg, Int.tdiv_eq_ediv_of_nonneg, ix_wtab]; clear hr) <;> (try (exfalso; omega))) | (refine X_callc rfl ?_; simp (disch := first|exact DB|fail) only [List.nil_append, List.append_nil, RB, ↓reduceIte, Nat.reduceEqDiff, reduceCtorEq, Nat.reduceLeDiff, Nat.reduceAdd, Int.reduceToNat, Nat.reduceLT, hfr, hfr2, h9, hmo3, hm83, bv_rem, bv_quo, Int.tmod_eq_emod_of_nonneg, Int.tdiv_eq_ediv_of_nonneg, ix_wtab]; refine D.mono_call (Next_spec h14 h30 (TapeOk.mk (lv := lv) (by (simp (disch := first|exact DB|fail) only [RB, ↓reduceIte, Nat.reduceEqDiff, reduceCtorEq, Nat.reduceLeDiff, Nat.reduceAdd, Int.reduceToNat, Nat.reduceLT, hfr, hfr2, h9, hmo3, hm83, bv_rem, bv_quo, Int.tmod_eq_emod_of_nonneg, Int.tdiv_eq_ediv_of_nonneg, ix_wtab, Int.natCast_add, Int.natCast_one, Int.natCast_succ]) <;> rfl) (by exact DB) (by omega) hlst) _ (by omega) (by omega)) ?_; rintro v s' ⟨k, rfl, hk0, hk1, a', ha', rfl⟩; (try simp only [NB] at hδ); refine ⟨by first | exact CK | (simp only [RC, Chk.ok, V.ent]; simp (disch := first|exact DB|fail) only [RT, RB, ↓reduceIte, Nat.reduceEqDiff, reduceCtorEq, Nat.reduceLeDiff, Nat.reduceAdd, Int.reduceToNat, Nat.reduceLT, hfr, hfr2, h9, hmo3, hm83, bv_rem, bv_quo, Int.tmod_eq_emod_of_nonneg, Int.tdiv_eq_ediv_of_nonneg, ix_wtab]), ?_⟩; try simp (disch := first|exact DB|fail) only [RB, ↓reduceIte, Nat.reduceEqDiff, reduceCtorEq, Nat.reduceLeDiff, Nat.reduceAdd, Int.reduceToNat, Nat.reduceLT, hfr, hfr2, h9, hmo3, hm83, bv_rem, bv_quo, Int.tmod_eq_emod_of_nonneg, Int.tdiv_eq_ediv_of_nonneg, ix_wtab]) | (refine X_callc rfl ?_; simp (disch := first|exact DB|fail) only [List.nil_append, List.append_nil, RB, ↓reduceIte, Nat.reduceEqDiff, reduceCtorEq, Nat.reduceLeDiff, Nat.reduceAdd, Int.reduceToNat, Nat.reduceLT, hfr, hfr2, h9, hmo3, hm83, bv_rem, bv_quo, Int.tmod_eq_emod_of_nonneg, Int.tdiv_eq_ediv_of_nonneg, ix_wtab]; refine D.mono_call (word_spec M.h52 _ (wtab_ok _).1 (wtab_ok _).2 _) ?_; rintro v s' ⟨⟨w1, rfl, hw1⟩, δ1, hδ, rfl⟩; (try simp only [NB] at hδ); refine ⟨by first | exact CK | (simp only [RC, Chk.ok, V.ent]; simp (disch := first|exact DB|fail) only [RT, RB, ↓reduceIte, Nat.reduceEqDiff, reduceCtorEq, Nat.reduceLeDiff, Nat.reduceAdd, Int.reduceToNat, Nat.reduceLT, hfr, hfr2, h9, hmo3, hm83, bv_rem, bv_quo, Int.tmod_eq_emod_of_nonneg, Int.tdiv_eq_ediv_of_nonneg, ix_wtab]), ?_⟩; try simp (disch := first|exact DB|fail) only [RB, ↓reduceIte, Nat.reduceEqDiff, reduceCtorEq, Nat.reduceLeDiff, Nat.reduceAdd, Int.reduceToNat, Nat.reduceLT, hfr, hfr2, h9, hmo3, hm83, bv_rem, bv_quo, Int.tmod_eq_emod_of_nonneg, Int.tdiv_eq_ediv_of_nonneg, ix_wtab]) | (refine X_callc rfl ?_; simp (disch := first|exact DB|fail) only [List.nil_append, List.append_nil, RB, ↓reduceIte, Nat.reduceEqDiff, reduceCtorEq, Nat.reduceLeDiff, Nat.reduceAdd, Int.reduceToNat, Nat.reduceLT, hfr, hfr2, h9, hmo3, hm83, bv_rem, bv_quo, Int.tmod_eq_emod_of_nonneg, Int.tdiv_eq_ediv_of_nonneg, ix_wtab]; refine D.mono_call (tag_spec M.h53 _ (by omega) (by omega) _) ?_; rintro v s' ⟨⟨w2, rfl, hw2⟩, δ2, hδ, rfl⟩; (try simp only [NB] at hδ); refine ⟨by first | exact CK | (simp only [RC, Chk.ok, V.ent]; simp (disch := first|exact DB|fail) only [RT, RB, ↓reduceIte, Nat.reduceEqDiff, reduceCtorEq, Nat.reduceLeDiff, Nat.reduceAdd, Int.reduceToNat, Nat.reduceLT, hfr, hfr2, h9, hmo3, hm83, bv_rem, bv_quo, Int.tmod_eq_emod_of_nonneg, Int.tdiv_eq_ediv_of_nonneg, ix_wtab]), ?_⟩; try simp (disch := first|exact DB|fail) only [RB, ↓reduceIte, Nat.reduceEqDiff, reduceCtorEq, Nat.reduceLeDiff, Nat.reduceAdd, Int.reduceToNat, Nat.reduceLT, hfr, hfr2, h9, hmo3, hm83, bv_rem, bv_quo, Int.tmod_eq_emod_of_nonneg, Int.tdiv_eq_ediv_of_nonneg, ix_wtab]) | (refine X_callc rfl ?_; simp (disch := first|exact DB|fail) only [List.nil_append, List.append_nil, RB, ↓reduceIte, Nat.reduceEqDiff, reduceCtorEq, Nat.reduceLeDiff, Nat.reduceAdd, Int.reduceToNat, Nat.reduceLT, hfr, hfr2, h9, hmo3, hm83, bv_rem, bv_quo, Int.tmod_eq_emod_of_nonneg, Int.tdiv_eq_ediv_of_nonneg, ix_wtab]; refine D.mono_call (features_spec M.h54 _ (by omega) (by omega) _) ?_; rintro v s' ⟨⟨w3, rfl, hw3⟩, δ3, hδ, rfl⟩; (try simp only [NB] at hδ); refine ⟨by first | exact CK | (simp only [RC, Chk.ok, V.ent]; simp (disch := first|exact DB|fail) only [RT, RB, ↓reduceIte, Nat.reduceEqDiff, reduceCtorEq, Nat.reduceLeDiff, Nat.reduceAdd, Int.reduceToNat, Nat.reduceLT, hfr, hfr2, h9, hmo3, hm83, bv_rem, bv_quo, Int.tmod_eq_emod_of_nonneg, Int.tdiv_eq_ediv_of_nonneg, ix_wtab]), ?_⟩; try simp (disch := first|exact DB|fail) only [RB, ↓reduceIte, Nat.reduceEqDiff, reduceCtorEq, Nat.reduceLeDiff, Nat.reduceAdd, Int.reduceToNat, Nat.reduceLT, hfr, hfr2, h9, hmo3, hm83, bv_rem, bv_quo, Int.tmod_eq_emod_of_nonneg, Int.tdiv_eq_ediv_of_nonneg, ix_wtab]) | (show D _ (J.ops _ _ _ _); simp (disch := first|exact DB|fail) only [RB, ↓reduceIte, Nat.reduceEqDiff, reduceCtorEq, Nat.reduceLeDiff, Nat.reduceAdd, Int.reduceToNat, Nat.reduceLT, hfr, hfr2, h9, hmo3, hm83, bv_rem, bv_quo, Int.tmod_eq_emod_of_nonneg, Int.tdiv_eq_ediv_of_nonneg, ix_wtab]) | (refine T_app ?_; try simp (disch := first|exact DB|fail) only [RB, ↓reduceIte, Nat.reduceEqDiff, reduceCtorEq, Nat.reduceLeDiff, Nat.reduceAdd, Int.reduceToNat, Nat.reduceLT, hfr, hfr2, h9, hmo3, hm83, bv_rem, bv_quo, Int.tmod_eq_emod_of_nonneg, Int.tdiv_eq_ediv_of_nonneg, ix_wtab]) | (refine T_fork ?_ ?_) | (simp only [T_nil]) | (refine TS (fun h => ?_) (fun h => ?_) (hc := by (simp (disch := first|exact DB|fail) only [RB, ↓reduceIte, Nat.reduceEqDiff, reduceCtorEq, Nat.reduceLeDiff, Nat.reduceAdd, Int.reduceToNat, Nat.reduceLT, hfr, hfr2, h9, hmo3, hm83, bv_rem, bv_quo, Int.tmod_eq_emod_of_nonneg, Int.tdiv_eq_ediv_of_nonneg, ix_wtab]) <;> rfl) <;> (try simp only [RH, reduceCtorEq] at h) <;> (try (exfalso; omega))) | (show retR _ _ _ _ _; simp (disch := first|exact DB|fail) only [RR, RB, ↓reduceIte, Nat.reduceEqDiff, reduceCtorEq, Nat.reduceLeDiff, Nat.reduceAdd, Int.reduceToNat, Nat.reduceLT, hfr, hfr2, h9, hmo3, hm83, bv_rem, bv_quo, Int.tmod_eq_emod_of_nonneg, Int.tdiv_eq_ediv_of_nonneg, ix_wtab]) | exact rfl))
      refine X_appW (W := [o]) (S0 := s) (v := vk) rfl rfl (by (repeat' (first | assumption | exact Tip0.nil | refine Tip0.new_ ?_ | refine Tip0.over_ ?_ ?_ | refine Tip0.set_ ?_ (by (simp (disch := first|exact DB|fail) only [RB, ↓reduceIte, Nat.reduceEqDiff, reduceCtorEq, Nat.reduceLeDiff, Nat.reduceAdd, Int.reduceToNat, Nat.reduceLT, hmo3, hm83, Int.natCast_add, Int.natCast_one, Int.natCast_succ]) <;> rfl) | refine Tip0.tp_ ?_ ?_ (by (simp (disch := first|exact DB|fail) only [RB, ↓reduceIte, Nat.reduceEqDiff, reduceCtorEq, Nat.reduceLeDiff, Nat.reduceAdd, Int.reduceToNat, Nat.reduceLT, hmo3, hm83, Int.natCast_add, Int.natCast_one, Int.natCast_succ]) <;> rfl) | omega | (simp only [NB]; omega)))) (by (exact LWb)) rfl rfl rfl hw (by simp; omega) (by omega) (by intro δ hδ; (first | exact SCb | refine SBb ?_)) ?_
      intro v' δ4 htip' hle' hδ4
      (try simp only [NB] at hδ4)
      have hv' := htip'.isL
      ((have E := And.intro hfr (And.intro hfr2 (And.intro h9 (And.intro hm83 (And.intro hv'.cells1 hv'.notTup)))); (repeat' (first | (refine NXt ?_; try intro K hK) | (refine hK _ _ ?_; clear hK; clear K; try refine PX ?_) | ((first | refine GC_case_t (fun hr => ?_) (fun hr => ?_) | refine GC_case_f (fun hr => ?_) (fun hr => ?_)) <;> (have h := hr; (try simp only [RH, reduceCtorEq] at h); refine SHb ?_; clear hr) <;> (try (exfalso; omega))) | (show D _ (J.ops _ _ _ _); refine SEb ?_) | (refine T_app ?_; try refine SEb ?_) | (refine T_fork ?_ ?_) | (simp only [T_nil]) | (refine TS (fun h => ?_) (fun h => ?_) (hc := HEb) <;> (try simp only [RH, reduceCtorEq] at h) <;> (try (exfalso; omega))) | (show retR _ _ _ _ _; refine SRb ?_) | exact rfl))) <;> (try clear E))
      have htip2 : Tip0 s ((St.ovo _ δ4).set (δ.next + 1) (.obj [va, v', .row δ.next 4 0 1, .nilsl, .nilsl, .nilsl, .nilsl])) v' 1 _ := Tip0.set_ htip' (cs := [va, vk, .row δ.next 4 0 1, .nilsl, .nilsl, .nilsl, .nilsl]) (by ((have E := hm83; first | exact SXb | refine SEb ?_) <;> (try clear E)))
      refine ⟨n - 1, by omega, by (exact LWb), a', v', _, ha', (by have E := hmo3; exact IEb), (by have E := hm63; exact IEb), (by have E := hm83; exact IEb), (by have E := hmr3; exact IEb), by ((first | exact SCb | refine SBb ?_)) <;> omega, htip2, fun x hx => ?_, ?_, ?_⟩
      · rcases List.mem_append.1 hx with h | h
        · exact hkP x h
        · rw [List.mem_singleton.1 h]
          exact ⟨_, .sl, by simp, by simp [hw1, hw2, hw3]⟩
      · simp (disch := first|exact DB|fail) only [RB, ↓reduceIte, Nat.reduceEqDiff, reduceCtorEq, Nat.reduceLeDiff, Nat.reduceAdd, Int.reduceToNat, Nat.reduceLT, List.length_append, List.length_singleton, Int.natCast_add]
      · simp; omega
  rintro F3 s3 hfr3 ⟨hle3, a3, vk, ks, ha3, hmo3, hm63, hm83, hmr3, hnx3, htip, hkP, hkn⟩
  have hnx3' := hle3.1
  have ivk := htip.isL
  have hd0 : s.next + 1 ≤ δ.next := by omega
  ((have E := And.intro hfr3 (And.intro hfr2 (And.intro hmo3 (And.intro hm63 (And.intro hm83 hmr3)))); (repeat' (first | (refine NXa ?_; try intro K hK) | (refine hK _ _ ?_; clear hK; clear K; try refine PX ?_) | ((first | refine GC_case_t (fun hr => ?_) (fun hr => ?_) | refine GC_case_f (fun hr => ?_) (fun hr => ?_)) <;> (have h := hr; (try simp only [RH, reduceCtorEq] at h); refine SHb ?_; clear hr) <;> (try (exfalso; omega))) | (refine X_callc rfl ?_; refine SNb ?_; refine D.mono_call (Next_spec h14 h30 (TapeOk.mk (lv := lv) IEb (by exact DB) (by omega) hlst) _ (by omega) (by omega)) ?_; rintro v s' ⟨k, rfl, hk0, hk1, a', ha', rfl⟩; (try simp only [NB] at hδ); refine ⟨by exact CEb, ?_⟩; try refine SEb ?_) | (show D _ (J.ops _ _ _ _); refine SEb ?_) | (show retR _ _ _ _ _; refine SRb ?_) | exact rfl))) <;> (try clear E))
  refine W.midF (fun F' s4 => St.LeW [o] s s4 ∧ ∃ (a' : Nat) (vl : V) (ls : List V), a' ≤ 1000 ∧ s4.mem o = some (.obj [lv, .int .i64 a']) ∧ s4.mem s.next = some (.obj [.nilsl, .nilsl, .nilsl, .nilsl, .nilsl, .nilsl, .nilsl]) ∧ s4.mem (δ.next + 1) = some (.obj [va, vk, .row δ.next 4 0 1, .nilsl, .nilsl, .nilsl, .nilsl]) ∧ s4.mem δ.next = some (.row [.agg [.str name, .int .i64 0, .int .i64 nn, m]]) ∧ δ.next + 1 < s4.next ∧ F' 11 = vl ∧ Tip0 s s4 vl 4 ls ∧ (∀ x ∈ ls, isReg x) ∧ ls.length ≤ 4) (W.bloop (fun n F s4 => St.LeW [o] s s4 ∧ ∃ (a' : Nat) (vl : V) (ls : List V), a' ≤ 1000 ∧ s4.mem o = some (.obj [lv, .int .i64 a']) ∧ s4.mem s.next = some (.obj [.nilsl, .nilsl, .nilsl, .nilsl, .nilsl, .nilsl, .nilsl]) ∧ s4.mem (δ.next + 1) = some (.obj [va, vk, .row δ.next 4 0 1, .nilsl, .nilsl, .nilsl, .nilsl]) ∧ s4.mem δ.next = some (.row [.agg [.str name, .int .i64 0, .int .i64 nn, m]]) ∧ δ.next + 1 < s4.next ∧ F 11 = vl ∧ Tip0 s s4 vl 4 ls ∧ (∀ x ∈ ls, isReg x) ∧ F 12 = .int .i64 n ∧ ls.length + n ≤ 4) k.toNat ⟨by (exact LWb), a', .nilsl, [], ha', IB, (by have E := hm63; exact IEb), (by have E := hm83; exact IEb), (by have E := hmr3; exact IEb), by ((first | exact SCb | refine SBb ?_)) <;> omega, IB, Tip0.nil, by simp, by (first | exact SCb | refine SBb ?_); congr 1; omega, by simp; omega⟩ ?_) ?_
  · rintro n F s4 hfr ⟨hle4, a4, vl, ls, ha4, hmo4, hm64, hm84, hmr4, hnx4, h11, htip4, hlP, h12, hln⟩
    have hnx4' := hle4.1
    have ivl := htip4.isL
    have hw4 : wOk 4 ls = true := wOk_of fun x hx => isReg_cells (hlP x hx)
    ((have E := And.intro hfr (And.intro hfr3 (And.intro hfr2 (And.intro h11 (And.intro h12 (And.intro hmo4 (And.intro hm64 (And.intro hm84 hmr4))))))); (repeat' (first | (refine NXa ?_; try intro K hK) | (refine hK _ _ ?_; clear hK; clear K; try refine PX ?_) | ((first | refine GC_case_t (fun hr => ?_) (fun hr => ?_) | refine GC_case_f (fun hr => ?_) (fun hr => ?_)) <;> (have h := hr; (try simp only [RH, reduceCtorEq] at h); refine SHb ?_; clear hr) <;> (try (exfalso; omega))) | (refine X_callc rfl ?_; refine SNb ?_; refine D.mono_call (Next_spec h14 h30 (TapeOk.mk (lv := lv) IEb (by exact DB) (by omega) hlst) _ (by omega) (by omega)) ?_; rintro v s' ⟨k, rfl, hk0, hk1, a', ha', rfl⟩; (try simp only [NB] at hδ); refine ⟨by exact CEb, ?_⟩; try refine SEb ?_) | (refine X_callc rfl ?_; refine SNb ?_; refine D.mono_call (Type_spec h30 M.h15 _ _) ?_; rintro v s' ⟨⟨ty, rfl⟩, δ5, hδ, rfl⟩; (try simp only [NB] at hδ); refine ⟨by exact CEb, ?_⟩; try refine SEb ?_) | (show D _ (J.ops _ _ _ _); refine SEb ?_) | (show retR _ _ _ _ _; refine SRb ?_) | exact rfl))) <;> (try clear E))
    by_cases hn0 : n = 0
    · subst hn0
      refine W.test (t := false) (by (((have E := h12; first | exact SXb | refine SEb ?_) <;> (try clear E))) <;> rfl) (fun h => by cases h) (fun _ => ?_)
      (repeat' (first | (refine NXt ?_; try intro K hK) | (refine hK _ _ ?_; clear hK; clear K; try refine PX ?_) | ((first | refine GC_case_t (fun hr => ?_) (fun hr => ?_) | refine GC_case_f (fun hr => ?_) (fun hr => ?_)) <;> (have h := hr; (try simp only [RH, reduceCtorEq] at h); simp (disch := first|exact DB|fail) only [hr, RB, ↓reduceIte, Nat.reduceEqDiff, reduceCtorEq, Nat.reduceLeDiff, Nat.reduceAdd, Int.reduceToNat, Nat.reduceLT]; clear hr) <;> (try (exfalso; omega))) | (show D _ (J.ops _ _ _ _); refine SBb ?_) | (refine T_app ?_; try refine SBb ?_) | (refine T_fork ?_ ?_) | (simp only [T_nil]) | (refine TS (fun h => ?_) (fun h => ?_) (hc := HCb) <;> (try simp only [RH, reduceCtorEq] at h) <;> (try (exfalso; omega))) | (show retR _ _ _ _ _; simp (disch := first|exact DB|fail) only [RR, RB, ↓reduceIte, Nat.reduceEqDiff, reduceCtorEq, Nat.reduceLeDiff, Nat.reduceAdd, Int.reduceToNat, Nat.reduceLT]) | exact rfl))
      exact ⟨hle4, a4, vl, ls, ha4, hmo4, hm64, hm84, hmr4, hnx4, by ((have E := h11; first | exact SXb | refine SEb ?_) <;> (try clear E)), htip4, hlP, by omega⟩
    refine W.test (t := true) (by (((have E := h12; first | exact SXb | refine SEb ?_) <;> (try clear E))) <;> first | rfl | (simp; omega)) (fun _ => ?_) (fun h => by cases h)
    ((have E := And.intro hfr (And.intro hfr3 (And.intro hfr2 (And.intro h11 (And.intro h12 (And.intro hmo4 (And.intro hm64 (And.intro hm84 hmr4))))))); (repeat' (first | (refine NXa ?_; try intro K hK) | (refine hK _ _ ?_; clear hK; clear K; try refine PX ?_) | ((first | refine GC_case_t (fun hr => ?_) (fun hr => ?_) | refine GC_case_f (fun hr => ?_) (fun hr => ?_)) <;> (have h := hr; (try simp only [RH, reduceCtorEq] at h); refine SHb ?_; clear hr) <;> (try (exfalso; omega))) | (refine X_callc rfl ?_; refine SNb ?_; refine D.mono_call (Next_spec h14 h30 (TapeOk.mk (lv := lv) IEb (by exact DB) (by omega) hlst) _ (by omega) (by omega)) ?_; rintro v s' ⟨k, rfl, hk0, hk1, a', ha', rfl⟩; (try simp only [NB] at hδ); refine ⟨by exact CEb, ?_⟩; try refine SEb ?_) | (refine X_callc rfl ?_; refine SNb ?_; refine D.mono_call (Type_spec h30 M.h15 _ _) ?_; rintro v s' ⟨⟨ty, rfl⟩, δ5, hδ, rfl⟩; (try simp only [NB] at hδ); refine ⟨by exact CEb, ?_⟩; try refine SEb ?_) | (show D _ (J.ops _ _ _ _); refine SEb ?_) | (show retR _ _ _ _ _; refine SRb ?_) | exact rfl))) <;> (try clear E))
    refine W.midF (fun F' s5 => St.LeW [o] s s5 ∧ ∃ (a' : Nat) (mk : V) (b e : Int), a' ≤ 1000 ∧ s5.mem o = some (.obj [lv, .int .i64 a']) ∧ s5.mem s.next = some (.obj [.nilsl, .nilsl, .nilsl, .nilsl, .nilsl, .nilsl, .nilsl]) ∧ s5.mem (δ.next + 1) = some (.obj [va, vk, .row δ.next 4 0 1, .nilsl, .nilsl, .nilsl, .nilsl]) ∧ s5.mem δ.next = some (.row [.agg [.str name, .int .i64 0, .int .i64 nn, m]]) ∧ δ.next + 1 < s5.next ∧ s5.mem δ5.next = some (.obj [.str ty, .int .i64 b, .int .i64 e, mk]) ∧ Arr isPair 100 mk ∧ δ5.next < s5.next ∧ δ.next + 1 < δ5.next ∧ Tip0 s s5 vl 4 ls) ?_ ?_
    · ((have E := And.intro hfr (And.intro hfr3 (And.intro hfr2 (And.intro h11 (And.intro h12 (And.intro hmo4 (And.intro hm64 (And.intro hm84 hmr4))))))); (repeat' (first | (refine NXt ?_; try intro K hK) | (refine hK _ _ ?_; clear hK; clear K; try refine PX ?_) | ((first | refine GC_case_t (fun hr => ?_) (fun hr => ?_) | refine GC_case_f (fun hr => ?_) (fun hr => ?_)) <;> (have h := hr; (try simp only [RH, reduceCtorEq] at h); refine SHb ?_; clear hr) <;> (try (exfalso; omega))) | (refine X_callc rfl ?_; refine SNb ?_; refine D.mono_call (Next_spec h14 h30 (TapeOk.mk (lv := lv) IEb (by exact DB) (by omega) hlst) _ (by omega) (by omega)) ?_; rintro v s' ⟨k, rfl, hk0, hk1, a', ha', rfl⟩; (try simp only [NB] at hδ); refine ⟨by exact CEb, ?_⟩; try refine SEb ?_) | (show D _ (J.ops _ _ _ _); refine SEb ?_) | (refine T_app ?_; try refine SEb ?_) | (refine T_fork ?_ ?_) | (simp only [T_nil]) | (refine TS (fun h => ?_) (fun h => ?_) (hc := HEb) <;> (try simp only [RH, reduceCtorEq] at h) <;> (try (exfalso; omega))) | (show retR _ _ _ _ _; refine SRb ?_) | exact rfl))) <;> (try clear E))
      · refine ⟨by (exact LWb), a', _, _, _, ha', (by have E := hmo4; exact IEb), (by have E := hm64; exact IEb), (by have E := hm84; exact IEb), (by have E := hmr4; exact IEb), by ((first | exact SCb | refine SBb ?_)) <;> omega, IB, ⟨_, .sl, by simp, by simp [isPair]⟩, by ((first | exact SCb | refine SBb ?_)) <;> omega, by omega, by (repeat' (first | assumption | exact Tip0.nil | refine Tip0.new_ ?_ | refine Tip0.over_ ?_ ?_ | refine Tip0.set_ ?_ (by (simp (disch := first|exact DB|fail) only [RB, ↓reduceIte, Nat.reduceEqDiff, reduceCtorEq, Nat.reduceLeDiff, Nat.reduceAdd, Int.reduceToNat, Nat.reduceLT, hmo4, Int.natCast_add, Int.natCast_one, Int.natCast_succ]) <;> rfl) | refine Tip0.tp_ ?_ ?_ (by (simp (disch := first|exact DB|fail) only [RB, ↓reduceIte, Nat.reduceEqDiff, reduceCtorEq, Nat.reduceLeDiff, Nat.reduceAdd, Int.reduceToNat, Nat.reduceLT, hmo4, Int.natCast_add, Int.natCast_one, Int.natCast_succ]) <;> rfl) | omega | (simp only [NB]; omega)))⟩
      · refine ⟨by (exact LWb), a', .nilsl, _, _, ha', (by have E := hmo4; exact IEb), (by have E := hm64; exact IEb), (by have E := hm84; exact IEb), (by have E := hmr4; exact IEb), by ((first | exact SCb | refine SBb ?_)) <;> omega, IB, ⟨[], .nil, by simp, by simp⟩, by ((first | exact SCb | refine SBb ?_)) <;> omega, by omega, by (repeat' (first | assumption | exact Tip0.nil | refine Tip0.new_ ?_ | refine Tip0.over_ ?_ ?_ | refine Tip0.set_ ?_ (by (simp (disch := first|exact DB|fail) only [RB, ↓reduceIte, Nat.reduceEqDiff, reduceCtorEq, Nat.reduceLeDiff, Nat.reduceAdd, Int.reduceToNat, Nat.reduceLT, hmo4, Int.natCast_add, Int.natCast_one, Int.natCast_succ]) <;> rfl) | refine Tip0.tp_ ?_ ?_ (by (simp (disch := first|exact DB|fail) only [RB, ↓reduceIte, Nat.reduceEqDiff, reduceCtorEq, Nat.reduceLeDiff, Nat.reduceAdd, Int.reduceToNat, Nat.reduceLT, hmo4, Int.natCast_add, Int.natCast_one, Int.natCast_succ]) <;> rfl) | omega | (simp only [NB]; omega)))⟩
    rintro F5 s5 hfr5 ⟨hle5, a5, mk, b, e, ha5, hmo5, hm65, hm85, hmr5, hnx5, hm5, hmk, hδ5, hδ5', htip5⟩
    have hnx5' := hle5.1
    ((have E := And.intro hfr5 (And.intro hfr (And.intro hfr3 (And.intro hfr2 (And.intro h11 (And.intro ivl.len ivl.notStr))))); (repeat' (first | (refine NXt ?_; try intro K hK) | (refine hK _ _ ?_; clear hK; clear K; try refine PX ?_) | ((first | refine GC_case_t (fun hr => ?_) (fun hr => ?_) | refine GC_case_f (fun hr => ?_) (fun hr => ?_)) <;> (have h := hr; (try simp only [RH, reduceCtorEq] at h); refine SHb ?_; clear hr) <;> (try (exfalso; omega))) | (show D _ (J.ops _ _ _ _); refine SEb ?_) | (refine T_app ?_; try refine SEb ?_) | (refine T_fork ?_ ?_) | (simp only [T_nil]) | (show retR _ _ _ _ _; refine SRb ?_) | exact rfl))) <;> (try clear E))
    refine W.midF (fun F' s6 => St.Gr s5 s6 ∧ isB (F' 15)) (W.rangeG (N := ls.length) (fun k F' s6 => isB (F' 15)) IB IB (by omega) rfl ST ⟨false, IB⟩ ?_ ?_) ?_
    · rintro k F' δ6 hk hfr' hi hδ6 ⟨bb, h15⟩
      obtain ⟨ra, rb, re, rm, hx, _⟩ := hlP _ (List.getElem_mem hk)
      ((have E := And.intro hfr' (And.intro hi (And.intro h15 (And.intro ivl.ixE (And.intro hx (And.intro hfr5 hm5))))); (repeat' (first | (refine NXt ?_; try intro K hK) | (refine hK _ _ ?_; clear hK; clear K; try refine PX ?_) | ((first | refine GC_case_t (fun hr => ?_) (fun hr => ?_) | refine GC_case_f (fun hr => ?_) (fun hr => ?_)) <;> (have h := hr; (try simp only [RH, reduceCtorEq] at h); refine SHb ?_; clear hr) <;> (try (exfalso; omega))) | (show D _ (J.ops _ _ _ _); refine SEb ?_) | (refine T_app ?_; try refine SEb ?_) | (refine T_fork ?_ ?_) | (simp only [T_nil]) | (refine TS (fun h => ?_) (fun h => ?_) (hc := HEb) <;> (try simp only [RH, reduceCtorEq] at h) <;> (try (exfalso; omega))) | (show retR _ _ _ _ _; refine SRb ?_) | exact rfl))) <;> (try clear E))
      all_goals exact ⟨by (exact LEb), _, IB⟩
    · rintro F' δ6 hfr' hδ6 ⟨bb, h15⟩
      (simp only [RP, ↓reduceIte, Nat.reduceEqDiff, reduceCtorEq])
      exact ⟨⟨δ6, hδ6, rfl⟩, bb, h15⟩
    rintro F6 s6 hfr6 ⟨⟨δ6, hδ6, rfl⟩, bb, h15⟩
    ((have E := And.intro hfr6 (And.intro hfr5 (And.intro hfr (And.intro h15 (And.intro h11 (And.intro h12 hm5))))); (repeat' (first | (refine NXt ?_; try intro K hK) | (refine hK _ _ ?_; clear hK; clear K; try refine PX ?_) | ((first | refine GC_case_t (fun hr => ?_) (fun hr => ?_) | refine GC_case_f (fun hr => ?_) (fun hr => ?_)) <;> (have h := hr; (try simp only [RH, reduceCtorEq] at h); refine SHb ?_; clear hr) <;> (try (exfalso; omega))) | (show D _ (J.ops _ _ _ _); refine SEb ?_) | (refine T_app ?_; try refine SEb ?_) | (refine T_fork ?_ ?_) | (simp only [T_nil]) | (refine TS (fun h => ?_) (fun h => ?_) (hc := HEb) <;> (try simp only [RH, reduceCtorEq] at h) <;> (try (exfalso; omega))) | (show retR _ _ _ _ _; refine SRb ?_) | exact rfl))) <;> (try clear E))
    · refine X_appW (W := [o]) (S0 := s) (v := vl) rfl rfl (by (repeat' (first | assumption | exact Tip0.nil | refine Tip0.new_ ?_ | refine Tip0.over_ ?_ ?_ | refine Tip0.set_ ?_ (by (simp (disch := first|exact DB|fail) only [RB, ↓reduceIte, Nat.reduceEqDiff, reduceCtorEq, Nat.reduceLeDiff, Nat.reduceAdd, Int.reduceToNat, Nat.reduceLT, hmo5, Int.natCast_add, Int.natCast_one, Int.natCast_succ]) <;> rfl) | refine Tip0.tp_ ?_ ?_ (by (simp (disch := first|exact DB|fail) only [RB, ↓reduceIte, Nat.reduceEqDiff, reduceCtorEq, Nat.reduceLeDiff, Nat.reduceAdd, Int.reduceToNat, Nat.reduceLT, hmo5, Int.natCast_add, Int.natCast_one, Int.natCast_succ]) <;> rfl) | omega | (simp only [NB]; omega)))) (by (exact LWb)) rfl rfl rfl hw4 (by simp; omega) (by omega) (fun _ _ => trivial) ?_
      intro v' δ7 htip' hle' hδ7
      (try simp only [NB] at hδ7)
      ((have E := And.intro hfr6 (And.intro hfr5 (And.intro hfr h12)); (repeat' (first | (refine NXt ?_; try intro K hK) | (refine hK _ _ ?_; clear hK; clear K; try refine PX ?_) | ((first | refine GC_case_t (fun hr => ?_) (fun hr => ?_) | refine GC_case_f (fun hr => ?_) (fun hr => ?_)) <;> (have h := hr; (try simp only [RH, reduceCtorEq] at h); refine SHb ?_; clear hr) <;> (try (exfalso; omega))) | (show D _ (J.ops _ _ _ _); refine SEb ?_) | (refine T_app ?_; try refine SEb ?_) | (refine T_fork ?_ ?_) | (simp only [T_nil]) | (refine TS (fun h => ?_) (fun h => ?_) (hc := HEb) <;> (try simp only [RH, reduceCtorEq] at h) <;> (try (exfalso; omega))) | (show retR _ _ _ _ _; refine SRb ?_) | exact rfl))) <;> (try clear E))
      exact ⟨n - 1, by omega, by (exact LWb), a5, v', _, ha5, (by have E := hmo5; exact IEb), (by have E := hm65; exact IEb), (by have E := hm85; exact IEb), (by have E := hmr5; exact IEb), by ((first | exact SCb | refine SBb ?_)) <;> omega, IB, htip', fun x hx => by
        rcases List.mem_append.1 hx with h | h
        · exact hlP x h
        · rw [List.mem_singleton.1 h]
          exact ⟨_, _, _, _, rfl, hmk⟩, by (first | exact SCb | refine SBb ?_); congr 1; omega, by simp; omega⟩
    · exact ⟨n - 1, by omega, by (exact LWb), a5, vl, ls, ha5, (by have E := hmo5; exact IEb), (by have E := hm65; exact IEb), (by have E := hm85; exact IEb), (by have E := hmr5; exact IEb), by ((first | exact SCb | refine SBb ?_)) <;> omega, (by have E := And.intro hfr6 (And.intro hfr5 (And.intro hfr h11)); exact IEb), by (exact TPb), hlP, by (first | exact SCb | refine SBb ?_); congr 1; omega, by omega⟩
  rintro F4 s4 hfr4 ⟨hle4, a4, vl, ls, ha4, hmo4, hm64, hm84, hmr4, hnx4, h11, htip4, hlP, hln⟩
  have hnx4' := hle4.1
  have ivl := htip4.isL
  ((have E := And.intro hfr4 (And.intro hfr3 (And.intro hfr2 (And.intro h11 (And.intro hmo4 (And.intro hm64 (And.intro hm84 hmr4)))))); (repeat' (first | (refine NXa ?_; try intro K hK) | (refine hK _ _ ?_; clear hK; clear K; try refine PX ?_) | ((first | refine GC_case_t (fun hr => ?_) (fun hr => ?_) | refine GC_case_f (fun hr => ?_) (fun hr => ?_)) <;> (have h := hr; (try simp only [RH, reduceCtorEq] at h); refine SHb ?_; clear hr) <;> (try (exfalso; omega))) | (refine X_callc rfl ?_; refine SNb ?_; refine D.mono_call (SortRegions_spec H.h64 H.h65 H.h55 M.h56 _ _ ivl hlP (by omega) _) ?_; rintro v s' ⟨⟨xs, ixs, hxP, hxl⟩, δ8, hδ, rfl⟩; (try simp only [NB] at hδ); refine ⟨by exact CEb, ?_⟩; try refine SEb ?_) | (show D _ (J.ops _ _ _ _); refine SEb ?_) | (show retR _ _ _ _ _; refine SRb ?_) | exact rfl))) <;> (try clear E))
  have hblt : δ.next + 1 < δ8.next + 1 := by omega
  have ivk' := htip.isL
  have hkl : ks.length ≤ 100 := by omega
  have hco : δ.next + 1 ≠ o := by omega
  generalize v = vx at *
  (repeat' (first | (refine NXt ?_; try intro K hK) | (refine hK _ _ ?_; clear hK; clear K; try refine PX ?_) | ((first | refine GC_case_t (fun hr => ?_) (fun hr => ?_) | refine GC_case_f (fun hr => ?_) (fun hr => ?_)) <;> (have h := hr; (try simp only [RH, reduceCtorEq] at h); simp (disch := first|exact DB|fail) only [hr, RB, ↓reduceIte, Nat.reduceEqDiff, reduceCtorEq, Nat.reduceLeDiff, Nat.reduceAdd, Int.reduceToNat, Nat.reduceLT, hfr4, hfr3, hfr2, h11, hmo4, hm64, hm84, hmr4, ixs.cells1, ixs.notTup, frzcV, isCell_sl, Nat.blt_eq, Bool.true_and, hblt]; clear hr) <;> (try (exfalso; omega))) | (refine X_callc rfl ?_; simp (disch := first|exact DB|fail) only [List.nil_append, List.append_nil, RB, ↓reduceIte, Nat.reduceEqDiff, reduceCtorEq, Nat.reduceLeDiff, Nat.reduceAdd, Int.reduceToNat, Nat.reduceLT, hfr4, hfr3, hfr2, h11, hmo4, hm64, hm84, hmr4, ixs.cells1, ixs.notTup, frzcV, isCell_sl, Nat.blt_eq, Bool.true_and, hblt]; refine D.mono_call (nodes_spec h14 h30 M.h101 (TapeOk.mk (lv := lv) (by have E := And.intro hmo4 (And.intro hm64 (And.intro hm84 hmr4)); exact IEb) (by first | omega | (((first | exact SCb | refine SBb ?_)) <;> omega)) (by omega) hlst) (δ.next + 1) (by first | omega | (((first | exact SCb | refine SBb ?_)) <;> omega)) hco va vk _ _ _ _ ks ivk hkl (by have E := And.intro hmo4 (And.intro hm64 (And.intro hm84 hmr4)); exact IEb)) ?_; rintro v s' ⟨vn, ns, a', δ9, ivn, hN, hnl, ha', hδ, rfl⟩; (try simp only [NB] at hδ); refine ⟨by first | exact CK | (simp only [RC, Chk.ok, V.ent]; simp (disch := first|exact DB|fail) only [RT, RB, ↓reduceIte, Nat.reduceEqDiff, reduceCtorEq, Nat.reduceLeDiff, Nat.reduceAdd, Int.reduceToNat, Nat.reduceLT, hfr4, hfr3, hfr2, h11, hmo4, hm64, hm84, hmr4, ixs.cells1, ixs.notTup, frzcV, isCell_sl, Nat.blt_eq, Bool.true_and, hblt]), ?_⟩; try simp (disch := first|exact DB|fail) only [RB, ↓reduceIte, Nat.reduceEqDiff, reduceCtorEq, Nat.reduceLeDiff, Nat.reduceAdd, Int.reduceToNat, Nat.reduceLT, hfr4, hfr3, hfr2, h11, hmo4, hm64, hm84, hmr4, ixs.cells1, ixs.notTup, frzcV, isCell_sl, Nat.blt_eq, Bool.true_and, hblt]) | (refine X_callc rfl ?_; simp (disch := first|exact DB|fail) only [List.nil_append, List.append_nil, RB, ↓reduceIte, Nat.reduceEqDiff, reduceCtorEq, Nat.reduceLeDiff, Nat.reduceAdd, Int.reduceToNat, Nat.reduceLT, hfr4, hfr3, hfr2, h11, hmo4, hm64, hm84, hmr4, ixs.cells1, ixs.notTup, frzcV, isCell_sl, Nat.blt_eq, Bool.true_and, hblt]; refine D.mono_call (heads_spec h14 h30 M.h102 (TapeOk.mk (lv := lv) (by have E := And.intro hmo4 (And.intro hm64 (And.intro hm84 hmr4)); exact IEb) (by first | omega | (((first | exact SCb | refine SBb ?_)) <;> omega)) (by omega) hlst) (δ.next + 1) (by first | omega | (((first | exact SCb | refine SBb ?_)) <;> omega)) hco va vk _ _ _ ks ivk hkl (by have E := And.intro hmo4 (And.intro hm64 (And.intro hm84 hmr4)); exact IEb)) ?_; rintro v s' ⟨vh, vr, hs, rs, a', δ10, ih, ir, hhl, hrl, hhI, hrS, ha', hδ, rfl⟩; (try simp only [NB] at hδ); refine ⟨by first | exact CK | (simp only [RC, Chk.ok, V.ent]; simp (disch := first|exact DB|fail) only [RT, RB, ↓reduceIte, Nat.reduceEqDiff, reduceCtorEq, Nat.reduceLeDiff, Nat.reduceAdd, Int.reduceToNat, Nat.reduceLT, hfr4, hfr3, hfr2, h11, hmo4, hm64, hm84, hmr4, ixs.cells1, ixs.notTup, frzcV, isCell_sl, Nat.blt_eq, Bool.true_and, hblt]), ?_⟩; try simp (disch := first|exact DB|fail) only [RB, ↓reduceIte, Nat.reduceEqDiff, reduceCtorEq, Nat.reduceLeDiff, Nat.reduceAdd, Int.reduceToNat, Nat.reduceLT, hfr4, hfr3, hfr2, h11, hmo4, hm64, hm84, hmr4, ixs.cells1, ixs.notTup, frzcV, isCell_sl, Nat.blt_eq, Bool.true_and, hblt]) | (refine X_callc rfl ?_; simp (disch := first|exact DB|fail) only [List.nil_append, List.append_nil, RB, ↓reduceIte, Nat.reduceEqDiff, reduceCtorEq, Nat.reduceLeDiff, Nat.reduceAdd, Int.reduceToNat, Nat.reduceLT, hfr4, hfr3, hfr2, h11, hmo4, hm64, hm84, hmr4, ixs.cells1, ixs.notTup, frzcV, isCell_sl, Nat.blt_eq, Bool.true_and, hblt]; refine D.mono_call (Next_spec h14 h30 (TapeOk.mk (lv := lv) (by (simp (disch := first|exact DB|fail) only [RB, ↓reduceIte, Nat.reduceEqDiff, reduceCtorEq, Nat.reduceLeDiff, Nat.reduceAdd, Int.reduceToNat, Nat.reduceLT, hfr4, hfr3, hfr2, h11, hmo4, hm64, hm84, hmr4, ixs.cells1, ixs.notTup, frzcV, isCell_sl, Nat.blt_eq, Bool.true_and, hblt, Int.natCast_add, Int.natCast_one, Int.natCast_succ]) <;> rfl) (by exact DB) (by omega) hlst) _ (by omega) (by omega)) ?_; rintro v s' ⟨k, rfl, hk0, hk1, a', ha', rfl⟩; (try simp only [NB] at hδ); refine ⟨by first | exact CK | (simp only [RC, Chk.ok, V.ent]; simp (disch := first|exact DB|fail) only [RT, RB, ↓reduceIte, Nat.reduceEqDiff, reduceCtorEq, Nat.reduceLeDiff, Nat.reduceAdd, Int.reduceToNat, Nat.reduceLT, hfr4, hfr3, hfr2, h11, hmo4, hm64, hm84, hmr4, ixs.cells1, ixs.notTup, frzcV, isCell_sl, Nat.blt_eq, Bool.true_and, hblt]), ?_⟩; try simp (disch := first|exact DB|fail) only [RB, ↓reduceIte, Nat.reduceEqDiff, reduceCtorEq, Nat.reduceLeDiff, Nat.reduceAdd, Int.reduceToNat, Nat.reduceLT, hfr4, hfr3, hfr2, h11, hmo4, hm64, hm84, hmr4, ixs.cells1, ixs.notTup, frzcV, isCell_sl, Nat.blt_eq, Bool.true_and, hblt]) | (show D _ (J.ops _ _ _ _); simp (disch := first|exact DB|fail) only [RB, ↓reduceIte, Nat.reduceEqDiff, reduceCtorEq, Nat.reduceLeDiff, Nat.reduceAdd, Int.reduceToNat, Nat.reduceLT, hfr4, hfr3, hfr2, h11, hmo4, hm64, hm84, hmr4, ixs.cells1, ixs.notTup, frzcV, isCell_sl, Nat.blt_eq, Bool.true_and, hblt]) | (refine T_app ?_; try simp (disch := first|exact DB|fail) only [RB, ↓reduceIte, Nat.reduceEqDiff, reduceCtorEq, Nat.reduceLeDiff, Nat.reduceAdd, Int.reduceToNat, Nat.reduceLT, hfr4, hfr3, hfr2, h11, hmo4, hm64, hm84, hmr4, ixs.cells1, ixs.notTup, frzcV, isCell_sl, Nat.blt_eq, Bool.true_and, hblt]) | (refine T_fork ?_ ?_) | (simp only [T_nil]) | (refine TS (fun h => ?_) (fun h => ?_) (hc := by (simp (disch := first|exact DB|fail) only [RB, ↓reduceIte, Nat.reduceEqDiff, reduceCtorEq, Nat.reduceLeDiff, Nat.reduceAdd, Int.reduceToNat, Nat.reduceLT, hfr4, hfr3, hfr2, h11, hmo4, hm64, hm84, hmr4, ixs.cells1, ixs.notTup, frzcV, isCell_sl, Nat.blt_eq, Bool.true_and, hblt]) <;> rfl) <;> (try simp only [RH, reduceCtorEq] at h) <;> (try (exfalso; omega))) | (show retR _ _ _ _ _; simp (disch := first|exact DB|fail) only [RR, RB, ↓reduceIte, Nat.reduceEqDiff, reduceCtorEq, Nat.reduceLeDiff, Nat.reduceAdd, Int.reduceToNat, Nat.reduceLT, hfr4, hfr3, hfr2, h11, hmo4, hm64, hm84, hmr4, ixs.cells1, ixs.notTup, frzcV, isCell_sl, Nat.blt_eq, Bool.true_and, hblt]) | (simp (disch := first|exact DB|fail) only [RB, ↓reduceIte, Nat.reduceEqDiff, reduceCtorEq, Nat.reduceLeDiff, Nat.reduceAdd, Int.reduceToNat, Nat.reduceLT, hfr4, hfr3, hfr2, h11, hmo4, hm64, hm84, hmr4, ixs.cells1, ixs.notTup, frzcV, isCell_sl, Nat.blt_eq, Bool.true_and, hblt]) | exact rfl))
  · refine ⟨⟨as, ks, [.agg [.str name, .int .i64 0, .int .i64 nn, m]], xs, ns, hs, rs, ⟨⟨va, vk, _, vx, vn, vh, vr, rfl, ias, ivk, .sl, ixs, ivn, ih, ir⟩, hasP, hkP, fun x hx => by rw [List.mem_singleton.1 hx]; exact ⟨_, _, _, _, rfl, hmm⟩, hxP, hN, hhI, hrS, by omega, by omega, by simp, by omega, by omega, by omega, by omega⟩, ⟨name, nn, m, rfl, hmm, by omega, hkn.symm⟩, by omega, by omega, hhl, hrl⟩, LeW.tp (a := a') (by (exact LWb)) ha' ?_⟩
    (first | exact SCb | refine SBb ?_)
  · refine ⟨⟨as, ks, [.agg [.str name, .int .i64 0, .int .i64 nn, m]], xs, ns, [], [], ⟨⟨va, vk, _, vx, vn, .nilsl, .nilsl, rfl, ias, ivk, .sl, ixs, ivn, .nil, .nil⟩, hasP, hkP, fun x hx => by rw [List.mem_singleton.1 hx]; exact ⟨_, _, _, _, rfl, hmm⟩, hxP, hN, by simp, by simp, by omega, by omega, by simp, by omega, by omega, by simp, by simp⟩, ⟨name, nn, m, rfl, hmm, by omega, hkn.symm⟩, by omega, by omega, .inl rfl, rfl⟩, LeW.tp (a := a') (by (exact LWb)) ha' ?_⟩
    (first | exact SCb | refine SBb ?_)
end Go.VS.Fn

namespace Go.VS.Fn
open Go.VS
variable {T : Nat → Option FnDef}

def sp (p : Int × Int) : V := .agg [.int .i64 p.1, .int .i64 p.2]
theorem sp_def : ∀ p : Int × Int, sp p = .agg [.int .i64 p.1, .int .i64 p.2] := fun _ => rfl

theorem Same_spec (h9 : T 9 = some (.body v9)) (va vb : V) (xs ys : List (Int × Int)) (ha : IsL va (xs.map sp)) (hb : IsL vb (ys.map sp)) (s : St) (hl : xs.length < 1000000) :
    D T (.call 9 [va, vb] s (fun v s' => v = .bool (decide (xs = ys)) ∧ s' = s)) := by
  have wrapN : ∀ i : Nat, i < 1000000 → IntKind.i64.wrap ((i : Int) + 1) = ((i + 1 : Nat) : Int) := fun i hi => by rw [wrap64 (by omega) (by omega)]; simp
  have la := ha.len
  have lb := hb.len
  rw [List.length_map] at la lb
  (refine C.fn (by assumption) rfl ?_)
  unfold v9
  dsimp only
  (refine W.so fun K hK => ?_; simp only [RL, ↓reduceIte, Nat.reduceEqDiff, reduceCtorEq, Nat.reduceLeDiff, Nat.reduceAdd]; refine hK _ _ ?_; clear hK; clear K)
  refine W.assoc ?_
  (refine W.so fun K hK => ?_; simp only [RL, ↓reduceIte, Nat.reduceEqDiff, reduceCtorEq, Nat.reduceLeDiff, Nat.reduceAdd, la, lb, ha.notStr, hb.notStr]; refine hK _ _ ?_; clear hK; clear K)
  refine W.test (by (simp only [RL, ↓reduceIte, Nat.reduceEqDiff, reduceCtorEq, Nat.reduceLeDiff, Nat.reduceAdd]) <;> rfl) (fun h => ?_) (fun h => ?_)
  · (refine W.so fun K hK => ?_; simp only [RL, ↓reduceIte, Nat.reduceEqDiff, reduceCtorEq, Nat.reduceLeDiff, Nat.reduceAdd]; refine hK _ _ ?_; clear hK; clear K)
    (refine D.ret ?_; simp only [seqK, retR, resAll, ResV.get, resV, RL, ↓reduceIte, Nat.reduceEqDiff, reduceCtorEq, Nat.reduceLeDiff, Nat.reduceAdd])
    simp only [decide_eq_true_eq] at h
    exact ⟨by rw [decide_eq_false]; rintro rfl; exact h rfl, trivial⟩
  have hlen : xs.length = ys.length := by simp at h; omega
  refine D.skip ?_
  simp only [seqK]
  refine W.assoc ?_
  (refine W.so fun K hK => ?_; simp only [RL, ↓reduceIte, Nat.reduceEqDiff, reduceCtorEq, Nat.reduceLeDiff, Nat.reduceAdd, la, lb, ha.notStr, hb.notStr]; refine hK _ _ ?_; clear hK; clear K)
  refine W.seq (.block (W.loop (fun n F s' => ∃ i : Nat, n = xs.length - i ∧ i ≤ xs.length ∧ F 13 = .int .i64 i ∧ F 12 = .int .i64 xs.length ∧ F 0 = va ∧ F 1 = vb ∧ s' = s ∧ xs.take i = ys.take i) xs.length ?_ ?_))
  · refine ⟨0, by simp, by simp, ?_, ?_, ?_, ?_, rfl, by simp⟩ <;> simp only [RL, ↓reduceIte, Nat.reduceEqDiff, reduceCtorEq, Nat.reduceLeDiff, Nat.reduceAdd] <;> rfl
  rintro n F _ ⟨i, rfl, hi, h13, h12, h0, h1, rfl, heq⟩
  (refine W.so fun K hK => ?_; simp only [RL, ↓reduceIte, Nat.reduceEqDiff, reduceCtorEq, Nat.reduceLeDiff, Nat.reduceAdd, h13, h12]; refine hK _ _ ?_; clear hK; clear K)
  refine W.test (by (simp only [RL, ↓reduceIte, Nat.reduceEqDiff, reduceCtorEq, Nat.reduceLeDiff, Nat.reduceAdd]) <;> rfl) (fun h => ?_) (fun h => ?_)
  · simp only [decide_eq_true_eq] at h
    have hi' : i < xs.length := by omega
    have hi2 : i < ys.length := by omega
    have ea : (xs.map sp)[i]? = some (sp xs[i]) := by simp [hi']
    have eb : (ys.map sp)[i]? = some (sp ys[i]) := by simp [hi2]
    obtain ⟨c1, g1, j1, ia⟩ := ha.idx (kk := .i64) ea (k := 2) rfl
    obtain ⟨c2, g2, j2, ib⟩ := hb.idx (kk := .i64) eb (k := 2) rfl
    refine D.skip ?_
    simp only [seqK]
    refine W.seq (.block ?_)
    (refine W.so fun K hK => ?_; simp only [RL, ↓reduceIte, Nat.reduceEqDiff, reduceCtorEq, Nat.reduceLeDiff, Nat.reduceAdd, h13]; refine hK _ _ ?_; clear hK; clear K)
    (refine W.so fun K hK => ?_; simp only [RL, ↓reduceIte, Nat.reduceEqDiff, reduceCtorEq, Nat.reduceLeDiff, Nat.reduceAdd, h0, h1, ia, ib, sp]; refine hK _ _ ?_; clear hK; clear K)
    refine W.cond (by (simp only [RL, ↓reduceIte, Nat.reduceEqDiff, reduceCtorEq, Nat.reduceLeDiff, Nat.reduceAdd]) <;> rfl) (fun h => ?_) (fun h => ?_)
    · (refine W.so fun K hK => ?_; simp only [RL, ↓reduceIte, Nat.reduceEqDiff, reduceCtorEq, Nat.reduceLeDiff, Nat.reduceAdd]; refine hK _ _ ?_; clear hK; clear K)
      refine D.ret ?_
      simp only [seqK, blockK, retR, resAll, ResV.get, resV, RL, ↓reduceIte, Nat.reduceEqDiff, reduceCtorEq, Nat.reduceLeDiff, Nat.reduceAdd]
      have h := of_decide_eq_true h
      refine ⟨?_, trivial⟩
      rw [decide_eq_false]
      rintro rfl
      exact h ⟨rfl, rfl⟩
    · refine D.skip ?_
      simp only [seqK, blockK]
      (refine W.ops' fun K hK => ?_; simp only [RL, ↓reduceIte, Nat.reduceEqDiff, reduceCtorEq, Nat.reduceLeDiff, Nat.reduceAdd, h13, wrapN i (by omega), h12]; refine hK _ _ ?_; clear hK; clear K)
      simp only [seqK]
      have h := Classical.not_not.1 (of_decide_eq_false h)
      refine ⟨xs.length - (i + 1), by omega, i + 1, rfl, by omega, ?_, ?_, ?_, ?_, trivial, ?_⟩
      · simp only [RL, ↓reduceIte, Nat.reduceEqDiff, reduceCtorEq, Nat.reduceLeDiff, Nat.reduceAdd]
      · simp only [RL, ↓reduceIte, Nat.reduceEqDiff, reduceCtorEq, Nat.reduceLeDiff, Nat.reduceAdd, h12]
      · simp only [RL, ↓reduceIte, Nat.reduceEqDiff, reduceCtorEq, Nat.reduceLeDiff, Nat.reduceAdd, h0]
      · simp only [RL, ↓reduceIte, Nat.reduceEqDiff, reduceCtorEq, Nat.reduceLeDiff, Nat.reduceAdd, h1]
      · rw [List.take_succ_eq_append_getElem hi', List.take_succ_eq_append_getElem hi2, heq]
        rw [show xs[i] = ys[i] from Prod.ext h.1 h.2]
  · refine D.exit ?_
    simp only [seqK, blockK, Nat.beq_refl, cond_true]
    (refine W.so fun K hK => ?_; simp only [RL, ↓reduceIte, Nat.reduceEqDiff, reduceCtorEq, Nat.reduceLeDiff, Nat.reduceAdd]; refine hK _ _ ?_; clear hK; clear K)
    (refine D.ret ?_; simp only [seqK, retR, resAll, ResV.get, resV, RL, ↓reduceIte, Nat.reduceEqDiff, reduceCtorEq, Nat.reduceLeDiff, Nat.reduceAdd])
    simp only [decide_eq_false_iff_not] at h
    have : xs = ys := by
      have : i = xs.length := by omega
      rw [this, List.take_length, hlen, List.take_length] at heq
      exact heq
    exact ⟨by rw [decide_eq_true this], trivial⟩
end Go.VS.Fn

namespace Go.VS.Fn
open Go.VS
variable {T : Nat → Option FnDef}

theorem ModB_spec (h30 : T 30 = some (.body v30)) (x n : Int) (s : St) (hn : 1 ≤ n) (hn2 : n < 1000000) :
    D T (.call 30 [.int .i64 x, .int .i64 n] s (fun v s' => v = .int .i64 (x % n) ∧ s' = s)) := by
  have hn0 : n ≠ 0 := by omega
  have h1 := Int.emod_nonneg x (show n ≠ 0 by omega)
  have h2 := Int.emod_lt_of_pos x (show 0 < n by omega)
  have h3 := tmod_cases x n hn
  (refine C.fn (by assumption) rfl ?_)
  unfold v30
  dsimp only
  (refine W.so fun K hK => ?_; simp only [RL, ↓reduceIte, Nat.reduceEqDiff, reduceCtorEq, Nat.reduceLeDiff, Nat.reduceAdd]; refine hK _ _ ?_; clear hK; clear K)
  refine W.assoc ?_
  (refine W.so fun K hK => ?_; simp only [RL, ↓reduceIte, Nat.reduceEqDiff, reduceCtorEq, Nat.reduceLeDiff, Nat.reduceAdd]; refine hK _ _ ?_; clear hK; clear K)
  refine W.test (by (simp only [RL, ↓reduceIte, Nat.reduceEqDiff, reduceCtorEq, Nat.reduceLeDiff, Nat.reduceAdd]) <;> rfl) (fun h => ?_) (fun h => ?_)
  · simp at h; omega
  refine D.skip ?_
  simp only [seqK]
  (refine W.so fun K hK => ?_; simp only [RL, ↓reduceIte, Nat.reduceEqDiff, reduceCtorEq, Nat.reduceLeDiff, Nat.reduceAdd, bv_rem _ _ _ hn0]; refine hK _ _ ?_; clear hK; clear K)
  refine W.assoc ?_
  (refine W.so fun K hK => ?_; simp only [RL, ↓reduceIte, Nat.reduceEqDiff, reduceCtorEq, Nat.reduceLeDiff, Nat.reduceAdd]; refine hK _ _ ?_; clear hK; clear K)
  refine W.test (by (simp only [RL, ↓reduceIte, Nat.reduceEqDiff, reduceCtorEq, Nat.reduceLeDiff, Nat.reduceAdd]) <;> rfl) (fun h => ?_) (fun h => ?_)
  · (refine W.ops' fun K hK => ?_; simp only [RL, ↓reduceIte, Nat.reduceEqDiff, reduceCtorEq, Nat.reduceLeDiff, Nat.reduceAdd]; refine hK _ _ ?_; clear hK; clear K)
    simp only [seqK]
    (refine W.so fun K hK => ?_; simp only [RL, ↓reduceIte, Nat.reduceEqDiff, reduceCtorEq, Nat.reduceLeDiff, Nat.reduceAdd]; refine hK _ _ ?_; clear hK; clear K)
    (refine D.ret ?_; simp only [seqK, retR, resAll, ResV.get, resV, RL, ↓reduceIte, Nat.reduceEqDiff, reduceCtorEq, Nat.reduceLeDiff, Nat.reduceAdd])
    simp at h
    rw [wrap64 (by omega) (by omega)]
    exact ⟨congrArg _ (by omega), trivial⟩
  · refine D.skip ?_
    simp only [seqK]
    (refine W.so fun K hK => ?_; simp only [RL, ↓reduceIte, Nat.reduceEqDiff, reduceCtorEq, Nat.reduceLeDiff, Nat.reduceAdd]; refine hK _ _ ?_; clear hK; clear K)
    (refine D.ret ?_; simp only [seqK, retR, resAll, ResV.get, resV, RL, ↓reduceIte, Nat.reduceEqDiff, reduceCtorEq, Nat.reduceLeDiff, Nat.reduceAdd])
    simp at h
    exact ⟨congrArg _ (by omega), trivial⟩

theorem NextB_spec (h14 : T 14 = some (.body v14)) (h30 : T 30 = some (.body v30)) {s : St} {o a : Nat} {lv : V} (t : TapeOk s o lv a) (n : Int) (hn : 1 ≤ n) (hn2 : n < 1000000) : D T (.call 14 [.ptr o 0, .int .i64 n] s (fun v s' => ∃ k, v = .int .i64 k ∧ 0 ≤ k ∧ k < n ∧ ∃ a' : Nat, a' ≤ 1000 ∧ s' = s.set o (.obj [lv, .int .i64 a']))) := by
  obtain ⟨xs, hL, hl⟩ := t.lst
  have hmem := t.mem
  have hlen : lenV lv = some xs.length := by have := hL.len; rw [ints, List.length_map] at this; exact this
  by_cases hlt : a < xs.length
  · refine C.fn h14 rfl ?_
    unfold v14
    dsimp only
    have hix := (show IsL lv (xs.map (V.int .i64)) from hL)
    have e1 := Int.emod_nonneg xs[a] (show n ≠ 0 by omega)
    have e2 := Int.emod_lt_of_pos xs[a] (show 0 < n by omega)
    ((have E := And.intro hmem (And.intro hlen (And.intro hL.notStr hix.ixmE)); (repeat' (first | (refine NXt ?_; try intro K hK) | (refine hK _ _ ?_; clear hK; clear K; try refine PX ?_) | ((first | refine GC_case_t (fun hr => ?_) (fun hr => ?_) | refine GC_case_f (fun hr => ?_) (fun hr => ?_)) <;> (have h := hr; (try simp only [RH, reduceCtorEq] at h); refine SHb ?_; clear hr) <;> (try (exfalso; omega))) | (refine X_callc rfl ?_; refine SNb ?_; refine D.mono_call (ModB_spec h30 _ _ _ hn hn2) ?_; rintro v s' ⟨rfl, rfl⟩; (try simp only [NB] at hδ); refine ⟨by exact CEb, ?_⟩; try refine SEb ?_) | (show D _ (J.ops _ _ _ _); refine SEb ?_) | (refine T_app ?_; try refine SEb ?_) | (refine T_fork ?_ ?_) | (simp only [T_nil]) | (refine TS (fun h => ?_) (fun h => ?_) (hc := HEb) <;> (try simp only [RH, reduceCtorEq] at h) <;> (try (exfalso; omega))) | (show retR _ _ _ _ _; refine SRb ?_) | exact rfl))) <;> (try clear E))
    exact ⟨_, rfl, e1, e2, a + 1, by omega, by simp⟩
  · refine C.fn h14 rfl ?_
    unfold v14
    dsimp only
    ((have E := And.intro hmem (And.intro hlen hL.notStr); (repeat' (first | (refine NXt ?_; try intro K hK) | (refine hK _ _ ?_; clear hK; clear K; try refine PX ?_) | ((first | refine GC_case_t (fun hr => ?_) (fun hr => ?_) | refine GC_case_f (fun hr => ?_) (fun hr => ?_)) <;> (have h := hr; (try simp only [RH, reduceCtorEq] at h); refine SHb ?_; clear hr) <;> (try (exfalso; omega))) | (show D _ (J.ops _ _ _ _); refine SEb ?_) | (refine T_app ?_; try refine SEb ?_) | (refine T_fork ?_ ?_) | (simp only [T_nil]) | (refine TS (fun h => ?_) (fun h => ?_) (hc := HEb) <;> (try simp only [RH, reduceCtorEq] at h) <;> (try (exfalso; omega))) | (show retR _ _ _ _ _; refine SRb ?_) | exact rfl))) <;> (try clear E))
    exact ⟨0, rfl, by omega, by omega, a, t.ha, (set_same hmem).symm⟩

theorem TOk.isText {b e : Int} {ts : List V} (h : TOk b ts e) : ∀ x ∈ ts, isText x := by
  induction ts generalizing b with
  | nil => intro x hx; cases hx
  | cons t r ih =>
    obtain ⟨a, e', m, rfl, hm, _, hr⟩ := h
    intro x hx
    rcases List.mem_cons.1 hx with rfl | hx
    · exact ⟨_, _, _, _, rfl, hm⟩
    · exact ih hr x hx
theorem TOk.le {b e : Int} {ts : List V} (h : TOk b ts e) : b ≤ e := by
  induction ts generalizing b with
  | nil => have h : b = e := h; omega
  | cons t r ih =>
    obtain ⟨a, e', m, rfl, hm, h1, hr⟩ := h
    have := ih hr
    omega
theorem TOk.get {b e : Int} {ts : List V} (h : TOk b ts e) {i : Nat} (hi : i < ts.length) : ∃ a x y m, ts[i] = .agg [.str a, .int .i64 x, .int .i64 y, m] ∧ b ≤ x ∧ x < y ∧ y ≤ e := by
  induction ts generalizing b i with
  | nil => simp at hi
  | cons t r ih =>
    obtain ⟨a, e', m, rfl, hm, h1, hr⟩ := h
    cases i with
    | zero => exact ⟨a, b, e', m, rfl, by omega, h1, hr.le⟩
    | succ i =>
      obtain ⟨a2, x, y, m2, hx, h2, h3, h4⟩ := ih hr (i := i) (by simpa using hi)
      exact ⟨a2, x, y, m2, by simpa using hx, by omega, h3, h4⟩

theorem TOk.count {b e : Int} {ts : List V} (h : TOk b ts e) : (ts.length : Int) ≤ e - b := by
  induction ts generalizing b with
  | nil => have h : b = e := h; simp; omega
  | cons t r ih =>
    obtain ⟨a, e', m, rfl, hm, h1, hr⟩ := h
    have := ih hr
    simp; omega

/-- A span of a text of a corpus. -/
def InText (ts : List V) (b e : Int) : Prop := ∃ i, ∃ h : i < ts.length, ∃ a x y m, ts[i] = .agg [.str a, .int .i64 x, .int .i64 y, m] ∧ x ≤ b ∧ b < e ∧ e ≤ y

set_option maxHeartbeats 4000000 in
theorem Matches_spec (M : HM T) {s : St} {o a : Nat} {lv : V} (t : TapeOk s o lv a) (a0 a1 vt a3 a4 a5 a6 : V) (ts : List V) (N : Int) (hL : IsL vt ts) (hT : TOk 0 ts N) (hN : N ≤ 5000) (hlen : 1 ≤ ts.length) (hlen2 : ts.length ≤ 5000) (most : Int) (hm0 : 0 ≤ most) (hm1 : most ≤ 50) :
    D T (.call 22 [.ptr o 0, .agg [a0, a1, vt, a3, a4, a5, a6], .int .i64 0, .int .i64 most] s (fun v s' => (∃ ms : List (Int × Int), IsL v (ms.map fun p => .agg [.int .i64 p.1, .int .i64 p.2, .nilsl]) ∧ (ms.length : Int) ≤ most ∧ ∀ p ∈ ms, InText ts p.1 p.2) ∧ St.Tp s o lv s')) := by
  have h14 := M.h14
  have h30 := M.h30
  have hlst := t.lst
  have hmem := t.mem
  have hlt := t.lt
  have hat := t.ha
  refine C.fn M.h22 rfl ?_
  unfold v22
  dsimp only
  ((have E := hmem; (repeat' (first | (refine NXa ?_; try intro K hK) | (refine hK _ _ ?_; clear hK; clear K; try refine PX ?_) | ((first | refine GC_case_t (fun hr => ?_) (fun hr => ?_) | refine GC_case_f (fun hr => ?_) (fun hr => ?_)) <;> (have h := hr; (try simp only [RH, reduceCtorEq] at h); refine SHb ?_; clear hr) <;> (try (exfalso; omega))) | (refine X_callc rfl ?_; refine SNb ?_; refine D.mono_call (NextB_spec h14 h30 (TapeOk.mk (lv := lv) IEb (by exact DB) (by omega) hlst) _ (by omega) (by omega)) ?_; rintro v s' ⟨k, rfl, hk0, hk1, a', ha', rfl⟩; (try simp only [NB] at hδ); refine ⟨by exact CEb, ?_⟩; try refine SEb ?_) | (show D _ (J.ops _ _ _ _); refine SEb ?_) | (show retR _ _ _ _ _; refine SRb ?_) | exact rfl))) <;> (try clear E))
  refine W.midF (fun F' s2 => St.LeW [o] s s2 ∧ ∃ (a' : Nat) (vo : V) (ms : List (Int × Int)), a' ≤ 1000 ∧ s2.mem o = some (.obj [lv, .int .i64 a']) ∧ F' 9 = vo ∧ Tip0 s s2 vo 3 (ms.map fun p => .agg [.int .i64 p.1, .int .i64 p.2, .nilsl]) ∧ (ms.length : Int) ≤ most ∧ ∀ p ∈ ms, InText ts p.1 p.2) (W.bloop (fun n F' s2 => St.LeW [o] s s2 ∧ ∃ (a' : Nat) (vo : V) (ms : List (Int × Int)), a' ≤ 1000 ∧ s2.mem o = some (.obj [lv, .int .i64 a']) ∧ s2.mem s.next = some (.obj [a0, a1, vt, a3, a4, a5, a6]) ∧ s.next < s2.next ∧ F' 9 = vo ∧ Tip0 s s2 vo 3 (ms.map fun p => .agg [.int .i64 p.1, .int .i64 p.2, .nilsl]) ∧ F' 10 = .int .i64 n ∧ (ms.length : Int) + n ≤ most ∧ ∀ p ∈ ms, InText ts p.1 p.2) k.toNat ⟨by (exact LWb), a', .nilsl, [], ha', by (first | exact SCb | refine SBb ?_), by (first | exact SCb | refine SBb ?_), by ((first | exact SCb | refine SBb ?_)) <;> omega, IB, Tip0.nil, by (first | exact SCb | refine SBb ?_); congr 1; omega, by simp; omega, by simp⟩ ?_) ?_
  · rintro n F s2 hfr ⟨hle2, a2, vo, ms, ha2, hmo2, hmc2, hnx2, h9, htip, h10, hml, hmP⟩
    have hnx2' := hle2.1
    by_cases hn0 : n = 0
    · subst hn0
      ((have E := And.intro hfr h10; (repeat' (first | (refine NXt ?_; try intro K hK) | (refine hK _ _ ?_; clear hK; clear K; try refine PX ?_) | ((first | refine GC_case_t (fun hr => ?_) (fun hr => ?_) | refine GC_case_f (fun hr => ?_) (fun hr => ?_)) <;> (have h := hr; (try simp only [RH, reduceCtorEq] at h); refine SHb ?_; clear hr) <;> (try (exfalso; omega))) | (show D _ (J.ops _ _ _ _); refine SEb ?_) | (refine T_app ?_; try refine SEb ?_) | (refine T_fork ?_ ?_) | (simp only [T_nil]) | (refine TS (fun h => ?_) (fun h => ?_) (hc := HEb) <;> (try simp only [RH, reduceCtorEq] at h) <;> (try (exfalso; omega))) | (show retR _ _ _ _ _; refine SRb ?_) | exact rfl))) <;> (try clear E))
      exact ⟨hle2, a2, vo, ms, ha2, hmo2, by ((have E := h9; first | exact SXb | refine SEb ?_) <;> (try clear E)), htip, by omega, hmP⟩
    refine W.assoc ?_
    refine W.so fun K hK => ?_
    ((have E := h10; first | exact SXb | refine SEb ?_) <;> (try clear E))
    refine hK _ _ ?_
    clear hK; clear K
    refine W.test (t := true) (by (((have E := h10; first | exact SXb | refine SEb ?_) <;> (try clear E))) <;> first | rfl | (simp; omega)) (fun _ => ?_) (fun h => by cases h)
    refine D.skip ?_
    simp only [seqK]
    refine W.seq (.block ?_)
    have hw : wOk 3 (ms.map fun p : Int × Int => V.agg [.int .i64 p.1, .int .i64 p.2, .nilsl]) = true := wOk_of fun x hx => by obtain ⟨p, _, rfl⟩ := List.mem_map.1 hx; rfl
    refine W.midF (fun F' s3 => St.LeW [o] s s3 ∧ ∃ (a' : Nat) (i : Nat) (hi : i < ts.length) (na : List Nat) (x y : Int) (m : V), ts[i] = .agg [.str na, .int .i64 x, .int .i64 y, m] ∧ 0 ≤ x ∧ x < y ∧ y ≤ N ∧ a' ≤ 1000 ∧ s3.mem o = some (.obj [lv, .int .i64 a']) ∧ s3.mem s.next = some (.obj [a0, a1, vt, a3, a4, a5, a6]) ∧ s.next < s3.next ∧ Tip0 s s3 vo 3 (ms.map fun p => .agg [.int .i64 p.1, .int .i64 p.2, .nilsl]) ∧ ∃ i11, F' 11 = .ptr i11 0 ∧ s.next < i11 ∧ i11 < s3.next ∧ s3.mem i11 = some (.obj [.str na, .int .i64 x, .int .i64 y, m])) (W.tree' fun K hK => ?_) ?_
    · ((have E := And.intro hfr (And.intro hmo2 (And.intro hmc2 (And.intro hL.len hL.notStr))); (repeat' (first | (refine NXt ?_; try intro K hK) | (refine hK _ _ ?_; clear hK; clear K; try refine PX ?_) | ((first | refine GC_case_t (fun hr => ?_) (fun hr => ?_) | refine GC_case_f (fun hr => ?_) (fun hr => ?_)) <;> (have h := hr; (try simp only [RH, reduceCtorEq] at h); refine SHb ?_; clear hr) <;> (try (exfalso; omega))) | (refine X_callc rfl ?_; refine SNb ?_; refine D.mono_call (NextB_spec h14 h30 (TapeOk.mk (lv := lv) IEb (by exact DB) (by omega) hlst) _ (by omega) (by omega)) ?_; rintro v s' ⟨k, rfl, hk0, hk1, a', ha', rfl⟩; (try simp only [NB] at hδ); refine ⟨by exact CEb, ?_⟩; try refine SEb ?_) | (show D _ (J.ops _ _ _ _); refine SEb ?_) | (refine T_app ?_; try refine SEb ?_) | (refine T_fork ?_ ?_) | (simp only [T_nil]) | (refine TS (fun h => ?_) (fun h => ?_) (hc := HEb) <;> (try simp only [RH, reduceCtorEq] at h) <;> (try (exfalso; omega))) | (show retR _ _ _ _ _; refine SRb ?_) | exact rfl))) <;> (try clear E))
      all_goals
        obtain ⟨na, x, y, m, hx, hx1, hx2, hx3⟩ := hT.get (i := k.toNat) (by omega)
        ((have E := And.intro hL.ixiE hx; first | exact SXb | refine SEb ?_) <;> (try clear E))
        ((have E := And.intro hfr (And.intro hmo2 hmc2); (repeat' (first | (refine NXt ?_; try intro K hK) | (refine hK _ _ ?_; clear hK; clear K; try refine PX ?_) | ((first | refine GC_case_t (fun hr => ?_) (fun hr => ?_) | refine GC_case_f (fun hr => ?_) (fun hr => ?_)) <;> (have h := hr; (try simp only [RH, reduceCtorEq] at h); refine SHb ?_; clear hr) <;> (try (exfalso; omega))) | (show D _ (J.ops _ _ _ _); refine SEb ?_) | (refine T_app ?_; try refine SEb ?_) | (refine T_fork ?_ ?_) | (simp only [T_nil]) | (refine TS (fun h => ?_) (fun h => ?_) (hc := HEb) <;> (try simp only [RH, reduceCtorEq] at h) <;> (try (exfalso; omega))) | (show retR _ _ _ _ _; refine SRb ?_) | exact rfl))) <;> (try clear E))
        exact ⟨by (exact LWb), a', k.toNat, by omega, na, x, y, m, hx, hx1, hx2, hx3, ha', by ((have E := hmo2; first | exact SXb | refine SEb ?_) <;> (try clear E)), by ((have E := hmc2; first | exact SXb | refine SEb ?_) <;> (try clear E)), by ((first | exact SCb | refine SBb ?_)) <;> omega, by (repeat' (first | assumption | exact Tip0.nil | refine Tip0.new_ ?_ | refine Tip0.over_ ?_ ?_ | refine Tip0.set_ ?_ (by (simp (disch := first|exact DB|fail) only [RB, ↓reduceIte, Nat.reduceEqDiff, reduceCtorEq, Nat.reduceLeDiff, Nat.reduceAdd, Int.reduceToNat, Nat.reduceLT, hmo2, Int.natCast_add, Int.natCast_one, Int.natCast_succ]) <;> rfl) | refine Tip0.tp_ ?_ ?_ (by (simp (disch := first|exact DB|fail) only [RB, ↓reduceIte, Nat.reduceEqDiff, reduceCtorEq, Nat.reduceLeDiff, Nat.reduceAdd, Int.reduceToNat, Nat.reduceLT, hmo2, Int.natCast_add, Int.natCast_one, Int.natCast_succ]) <;> rfl) | omega | (simp only [NB]; omega))), _, IB, by first | omega | (((first | exact SCb | refine SBb ?_)) <;> omega), by first | omega | (((first | exact SCb | refine SBb ?_)) <;> omega), IB⟩
    rintro F3 s3 hfr3 ⟨hle3, a3, i, hi, na, x, y, m, hti, hx0, hxy, hyN, ha3, hmo3, hmc3, hnx3, htip3, i11, h11, hi11, hi11', hm11⟩
    have hnx3' := hle3.1
    ((have E := And.intro hfr3 (And.intro hfr (And.intro h11 (And.intro hmo3 hm11))); (repeat' (first | (refine NXt ?_; try intro K hK) | (refine hK _ _ ?_; clear hK; clear K; try refine PX ?_) | ((first | refine GC_case_t (fun hr => ?_) (fun hr => ?_) | refine GC_case_f (fun hr => ?_) (fun hr => ?_)) <;> (have h := hr; (try simp only [RH, reduceCtorEq] at h); refine SHb ?_; clear hr) <;> (try (exfalso; omega))) | (refine X_callc rfl ?_; refine SNb ?_; refine D.mono_call (NextB_spec h14 h30 (TapeOk.mk (lv := lv) IEb (by exact DB) (by omega) hlst) _ (by omega) (by omega)) ?_; rintro v s' ⟨k, rfl, hk0, hk1, a', ha', rfl⟩; (try simp only [NB] at hδ); refine ⟨by exact CEb, ?_⟩; try refine SEb ?_) | (show D _ (J.ops _ _ _ _); refine SEb ?_) | (refine T_app ?_; try refine SEb ?_) | (refine T_fork ?_ ?_) | (simp only [T_nil]) | (refine TS (fun h => ?_) (fun h => ?_) (hc := HEb) <;> (try simp only [RH, reduceCtorEq] at h) <;> (try (exfalso; omega))) | (show retR _ _ _ _ _; refine SRb ?_) | exact rfl))) <;> (try clear E))
    refine W.seq (W.bloop0 (fun _ F' => F' 14 = .int .i64 0) 0 IB ?_)
    rintro n' F' hfr' h14'
    ((have E := And.intro hfr' (And.intro h14' (And.intro hfr3 (And.intro hfr (And.intro h9 hm11)))); (repeat' (first | (refine NXt ?_; try intro K hK) | (refine hK _ _ ?_; clear hK; clear K; try refine PX ?_) | ((first | refine GC_case_t (fun hr => ?_) (fun hr => ?_) | refine GC_case_f (fun hr => ?_) (fun hr => ?_)) <;> (have h := hr; (try simp only [RH, reduceCtorEq] at h); refine SHb ?_; clear hr) <;> (try (exfalso; omega))) | (show D _ (J.ops _ _ _ _); refine SEb ?_) | (refine T_app ?_; try refine SEb ?_) | (refine T_fork ?_ ?_) | (simp only [T_nil]) | (refine TS (fun h => ?_) (fun h => ?_) (hc := HEb) <;> (try simp only [RH, reduceCtorEq] at h) <;> (try (exfalso; omega))) | (show retR _ _ _ _ _; refine SRb ?_) | exact rfl))) <;> (try clear E))
    refine X_appW (W := [o]) (S0 := s) (v := vo) rfl rfl (by (repeat' (first | assumption | exact Tip0.nil | refine Tip0.new_ ?_ | refine Tip0.over_ ?_ ?_ | refine Tip0.set_ ?_ (by (simp (disch := first|exact DB|fail) only [RB, ↓reduceIte, Nat.reduceEqDiff, reduceCtorEq, Nat.reduceLeDiff, Nat.reduceAdd, Int.reduceToNat, Nat.reduceLT, hmo3, hm11, Int.natCast_add, Int.natCast_one, Int.natCast_succ]) <;> rfl) | refine Tip0.tp_ ?_ ?_ (by (simp (disch := first|exact DB|fail) only [RB, ↓reduceIte, Nat.reduceEqDiff, reduceCtorEq, Nat.reduceLeDiff, Nat.reduceAdd, Int.reduceToNat, Nat.reduceLT, hmo3, hm11, Int.natCast_add, Int.natCast_one, Int.natCast_succ]) <;> rfl) | omega | (simp only [NB]; omega)))) (by (exact LWb)) rfl rfl rfl hw (by simp; omega) (by omega) (fun _ _ => trivial) ?_
    intro v' δ7 htip' hle' hδ7
    (try simp only [NB] at hδ7)
    ((have E := And.intro hfr' (And.intro hfr3 (And.intro hfr h10)); (repeat' (first | (refine NXt ?_; try intro K hK) | (refine hK _ _ ?_; clear hK; clear K; try refine PX ?_) | ((first | refine GC_case_t (fun hr => ?_) (fun hr => ?_) | refine GC_case_f (fun hr => ?_) (fun hr => ?_)) <;> (have h := hr; (try simp only [RH, reduceCtorEq] at h); refine SHb ?_; clear hr) <;> (try (exfalso; omega))) | (show D _ (J.ops _ _ _ _); refine SEb ?_) | (refine T_app ?_; try refine SEb ?_) | (refine T_fork ?_ ?_) | (simp only [T_nil]) | (refine TS (fun h => ?_) (fun h => ?_) (hc := HEb) <;> (try simp only [RH, reduceCtorEq] at h) <;> (try (exfalso; omega))) | (show retR _ _ _ _ _; refine SRb ?_) | exact rfl))) <;> (try clear E))
    rename_i k1 hk1a hk1b _ _
    refine ⟨n - 1, by omega, hle', a', v', ms ++ [(x + k1, x + k1 + 1 + k)], ha', (by have E := hmo3; exact IEb), (by have E := hmc3; exact IEb), by ((first | exact SCb | refine SBb ?_)) <;> omega, IB, by rw [List.map_append]; exact htip', by (first | exact SCb | refine SBb ?_); congr 1; omega, by simp; omega, fun p hp => ?_⟩
    rcases List.mem_append.1 hp with h | h
    · exact hmP p h
    · rw [List.mem_singleton.1 h]
      exact ⟨i, hi, na, x, y, m, hti, by simp; omega, by simp; omega, by simp; omega⟩
  rintro F2 s2 hfr2 ⟨hle2, a2, vo, ms, ha2, hmo2, h9, htip, hml, hmP⟩
  ((have E := And.intro hfr2 h9; (repeat' (first | (refine NXt ?_; try intro K hK) | (refine hK _ _ ?_; clear hK; clear K; try refine PX ?_) | ((first | refine GC_case_t (fun hr => ?_) (fun hr => ?_) | refine GC_case_f (fun hr => ?_) (fun hr => ?_)) <;> (have h := hr; (try simp only [RH, reduceCtorEq] at h); refine SHb ?_; clear hr) <;> (try (exfalso; omega))) | (show D _ (J.ops _ _ _ _); refine SEb ?_) | (refine T_app ?_; try refine SEb ?_) | (refine T_fork ?_ ?_) | (simp only [T_nil]) | (refine TS (fun h => ?_) (fun h => ?_) (hc := HEb) <;> (try simp only [RH, reduceCtorEq] at h) <;> (try (exfalso; omega))) | (show retR _ _ _ _ _; refine SRb ?_) | exact rfl))) <;> (try clear E))
  exact ⟨⟨ms, htip.isL, hml, hmP⟩, LeW.tp hle2 ha2 hmo2⟩

set_option maxHeartbeats 4000000 in
theorem SpansT_spec (M : HM T) {s : St} {o a : Nat} {lv : V} (t : TapeOk s o lv a) (a0 a1 vt a3 a4 a5 a6 : V) (ts : List V) (N : Int) (hL : IsL vt ts) (hT : TOk 0 ts N) (hN : N ≤ 5000) (hlen : 1 ≤ ts.length) (hlen2 : ts.length ≤ 5000) (most : Int) (hm0 : 0 ≤ most) (hm1 : most ≤ 50) :
    D T (.call 5 [.ptr o 0, .agg [a0, a1, vt, a3, a4, a5, a6], .int .i64 most] s (fun v s' => (∃ ms : List (Int × Int), Tip0 s s' v 2 (ms.map sp) ∧ (ms.length : Int) ≤ most ∧ ∀ p ∈ ms, InText ts p.1 p.2) ∧ St.Tp s o lv s')) := by
  have h14 := M.h14
  have h30 := M.h30
  have hlst := t.lst
  have hmem := t.mem
  have hlt := t.lt
  have hat := t.ha
  refine C.fn M.h5 rfl ?_
  unfold v5
  dsimp only
  ((have E := hmem; (repeat' (first | (refine NXt ?_; try intro K hK) | (refine hK _ _ ?_; clear hK; clear K; try refine PX ?_) | ((first | refine GC_case_t (fun hr => ?_) (fun hr => ?_) | refine GC_case_f (fun hr => ?_) (fun hr => ?_)) <;> (have h := hr; (try simp only [RH, reduceCtorEq] at h); refine SHb ?_; clear hr) <;> (try (exfalso; omega))) | (refine X_callc rfl ?_; refine SNb ?_; refine D.mono_call (Matches_spec M (TapeOk.mk (lv := lv) (by have E := hmem; exact IEb) (by first | omega | (((first | exact SCb | refine SBb ?_)) <;> omega)) (by omega) hlst) _ _ _ _ _ _ _ _ _ hL hT hN hlen hlen2 _ hm0 hm1) ?_; rintro v s' ⟨⟨ms, ims, hml, hmP⟩, a', δ, ha', hδ, rfl⟩; (try simp only [NB] at hδ); refine ⟨by exact CEb, ?_⟩; try refine SEb ?_) | (show D _ (J.ops _ _ _ _); refine SEb ?_) | (refine T_app ?_; try refine SEb ?_) | (refine T_fork ?_ ?_) | (simp only [T_nil]) | (refine TS (fun h => ?_) (fun h => ?_) (hc := HEb) <;> (try simp only [RH, reduceCtorEq] at h) <;> (try (exfalso; omega))) | (show retR _ _ _ _ _; refine SRb ?_) | exact rfl))) <;> (try clear E))
  have hlenm : lenV v = some ms.length := by rw [ims.len, List.length_map]
  ((have E := And.intro hlenm ims.notStr; first | exact SXb | refine SEb ?_) <;> (try clear E))
  (repeat' (first | (refine NXt ?_; try intro K hK) | (refine hK _ _ ?_; clear hK; clear K; try refine PX ?_) | ((first | refine GC_case_t (fun hr => ?_) (fun hr => ?_) | refine GC_case_f (fun hr => ?_) (fun hr => ?_)) <;> (have h := hr; (try simp only [RH, reduceCtorEq] at h); simp (disch := first|exact DB|fail) only [hr, RB, ↓reduceIte, Nat.reduceEqDiff, reduceCtorEq, Nat.reduceLeDiff, Nat.reduceAdd, Int.reduceToNat, Nat.reduceLT]; clear hr) <;> (try (exfalso; omega))) | (show D _ (J.ops _ _ _ _); refine SBb ?_) | (refine T_app ?_; try refine SBb ?_) | (refine T_fork ?_ ?_) | (simp only [T_nil]) | (refine TS (fun h => ?_) (fun h => ?_) (hc := HCb) <;> (try simp only [RH, reduceCtorEq] at h) <;> (try (exfalso; omega))) | (show retR _ _ _ _ _; simp (disch := first|exact DB|fail) only [RR, RB, ↓reduceIte, Nat.reduceEqDiff, reduceCtorEq, Nat.reduceLeDiff, Nat.reduceAdd, Int.reduceToNat, Nat.reduceLT]) | exact rfl))
  have hw : ∀ l : List (Int × Int), wOk 2 (l.map sp) = true := fun l => wOk_of fun x hx => by obtain ⟨p, _, rfl⟩ := List.mem_map.1 hx; rfl
  refine W.seq (W.range (N := ms.length) (fun k F s' => St.LeW [o] s s' ∧ ∃ (a' : Nat) (vo : V), a' ≤ 1000 ∧ s'.mem o = some (.obj [lv, .int .i64 a']) ∧ F 7 = vo ∧ Tip0 s s' vo 2 ((ms.take k).map sp)) IB IB (by omega) rfl ST ⟨by (exact LWb), a', .nilsl, ha', by (first | exact SCb | refine SBb ?_), IB, Tip0.nil⟩ ?_ ?_)
  · rintro k F s' hk hfr hi ⟨hle2, a2, vo, ha2, hmo2, h7, htip⟩
    have hnx2 := hle2.1
    ((have E := And.intro hfr (And.intro hi (And.intro ims.ixmE h7)); (repeat' (first | (refine NXt ?_; try intro K hK) | (refine hK _ _ ?_; clear hK; clear K; try refine PX ?_) | ((first | refine GC_case_t (fun hr => ?_) (fun hr => ?_) | refine GC_case_f (fun hr => ?_) (fun hr => ?_)) <;> (have h := hr; (try simp only [RH, reduceCtorEq] at h); refine SHb ?_; clear hr) <;> (try (exfalso; omega))) | (show D _ (J.ops _ _ _ _); refine SEb ?_) | (refine T_app ?_; try refine SEb ?_) | (refine T_fork ?_ ?_) | (simp only [T_nil]) | (refine TS (fun h => ?_) (fun h => ?_) (hc := HEb) <;> (try simp only [RH, reduceCtorEq] at h) <;> (try (exfalso; omega))) | (show retR _ _ _ _ _; refine SRb ?_) | exact rfl))) <;> (try clear E))
    refine X_appW (W := [o]) (S0 := s) (v := vo) rfl rfl (by (repeat' (first | assumption | exact Tip0.nil | refine Tip0.new_ ?_ | refine Tip0.over_ ?_ ?_ | refine Tip0.set_ ?_ (by (simp (disch := first|exact DB|fail) only [RB, ↓reduceIte, Nat.reduceEqDiff, reduceCtorEq, Nat.reduceLeDiff, Nat.reduceAdd, Int.reduceToNat, Nat.reduceLT, hmo2, Int.natCast_add, Int.natCast_one, Int.natCast_succ]) <;> rfl) | refine Tip0.tp_ ?_ ?_ (by (simp (disch := first|exact DB|fail) only [RB, ↓reduceIte, Nat.reduceEqDiff, reduceCtorEq, Nat.reduceLeDiff, Nat.reduceAdd, Int.reduceToNat, Nat.reduceLT, hmo2, Int.natCast_add, Int.natCast_one, Int.natCast_succ]) <;> rfl) | omega | (simp only [NB]; omega)))) (by (exact LWb)) rfl rfl rfl (hw _) (by simp; omega) (by omega) (fun _ _ => trivial) ?_
    intro v' δ7 htip' hle' hδ7
    (try simp only [NB] at hδ7)
    (repeat' (first | (refine NXt ?_; try intro K hK) | (refine hK _ _ ?_; clear hK; clear K; try refine PX ?_) | ((first | refine GC_case_t (fun hr => ?_) (fun hr => ?_) | refine GC_case_f (fun hr => ?_) (fun hr => ?_)) <;> (have h := hr; (try simp only [RH, reduceCtorEq] at h); simp (disch := first|exact DB|fail) only [hr, RB, ↓reduceIte, Nat.reduceEqDiff, reduceCtorEq, Nat.reduceLeDiff, Nat.reduceAdd, Int.reduceToNat, Nat.reduceLT]; clear hr) <;> (try (exfalso; omega))) | (show D _ (J.ops _ _ _ _); refine SBb ?_) | (refine T_app ?_; try refine SBb ?_) | (refine T_fork ?_ ?_) | (simp only [T_nil]) | (refine TS (fun h => ?_) (fun h => ?_) (hc := HCb) <;> (try simp only [RH, reduceCtorEq] at h) <;> (try (exfalso; omega))) | (show retR _ _ _ _ _; simp (disch := first|exact DB|fail) only [RR, RB, ↓reduceIte, Nat.reduceEqDiff, reduceCtorEq, Nat.reduceLeDiff, Nat.reduceAdd, Int.reduceToNat, Nat.reduceLT]) | exact rfl))
    exact ⟨hle', a2, v', ha2, (by have E := hmo2; exact IEb), IB, by rw [List.take_succ_eq_append_getElem hk, List.map_append]; exact htip'⟩
  · rintro F s' hfr ⟨hle2, a2, vo, ha2, hmo2, h7, htip⟩
    ((have E := And.intro hfr h7; (repeat' (first | (refine NXt ?_; try intro K hK) | (refine hK _ _ ?_; clear hK; clear K; try refine PX ?_) | ((first | refine GC_case_t (fun hr => ?_) (fun hr => ?_) | refine GC_case_f (fun hr => ?_) (fun hr => ?_)) <;> (have h := hr; (try simp only [RH, reduceCtorEq] at h); refine SHb ?_; clear hr) <;> (try (exfalso; omega))) | (show D _ (J.ops _ _ _ _); refine SEb ?_) | (refine T_app ?_; try refine SEb ?_) | (refine T_fork ?_ ?_) | (simp only [T_nil]) | (refine TS (fun h => ?_) (fun h => ?_) (hc := HEb) <;> (try simp only [RH, reduceCtorEq] at h) <;> (try (exfalso; omega))) | (show retR _ _ _ _ _; refine SRb ?_) | exact rfl))) <;> (try clear E))
    rw [List.take_length] at htip
    exact ⟨⟨ms, htip, hml, hmP⟩, LeW.tp hle2 ha2 hmo2⟩
theorem Spans_spec (M : HM T) {s : St} {o a : Nat} {lv : V} (t : TapeOk s o lv a) (a0 a1 vt a3 a4 a5 a6 : V) (ts : List V) (N : Int) (hL : IsL vt ts) (hT : TOk 0 ts N) (hN : N ≤ 5000) (hlen : 1 ≤ ts.length) (hlen2 : ts.length ≤ 5000) (most : Int) (hm0 : 0 ≤ most) (hm1 : most ≤ 50) :
    D T (.call 5 [.ptr o 0, .agg [a0, a1, vt, a3, a4, a5, a6], .int .i64 most] s (fun v s' => (∃ ms : List (Int × Int), IsL v (ms.map sp) ∧ (ms.length : Int) ≤ most ∧ ∀ p ∈ ms, InText ts p.1 p.2) ∧ St.Tp s o lv s')) :=
  (SpansT_spec M t a0 a1 vt a3 a4 a5 a6 ts N hL hT hN hlen hlen2 most hm0 hm1).mono_call fun _ _ ⟨⟨ms, h1, h2, h3⟩, h4⟩ => ⟨⟨ms, h1.isL, h2, h3⟩, h4⟩
end Go.VS.Fn

namespace Go.VS.Fn
open Go.VS
variable {T : Nat → Option FnDef}

theorem Grow_spec (h : T 103 = some (.body v103)) (n : Nat) (s : St) (hn : n ≤ 1000000) :
    D T (.call 103 [.nilsl, .int .i64 n] s (fun v s' => (n = 0 ∧ v = .nilsl ∧ s' = s) ∨ (0 < n ∧ v = .row s.next 2 0 0 ∧ s' = s.new (.row [])))) := by
  (refine C.fn (by assumption) rfl ?_)
  unfold v103
  dsimp only
  (refine W.so fun K hK => ?_; simp only [RL, ↓reduceIte, Nat.reduceEqDiff, reduceCtorEq, Nat.reduceLeDiff, Nat.reduceAdd]; refine hK _ _ ?_; clear hK; clear K)
  refine W.assoc ?_
  (refine W.so fun K hK => ?_; simp only [RL, ↓reduceIte, Nat.reduceEqDiff, reduceCtorEq, Nat.reduceLeDiff, Nat.reduceAdd]; refine hK _ _ ?_; clear hK; clear K)
  refine W.test (by (simp only [RL, ↓reduceIte, Nat.reduceEqDiff, reduceCtorEq, Nat.reduceLeDiff, Nat.reduceAdd]) <;> rfl) (fun h => ?_) (fun h => ?_)
  · simp at h; omega
  refine D.skip ?_
  simp only [seqK]
  refine W.assoc ?_
  have e1 : IntKind.i64.wrap ((n : Int) - IntKind.i64.wrap (0 - 0)) = (n : Int) := by
    rw [show IntKind.i64.wrap (0 - 0) = 0 from rfl, wrap64 (by omega) (by omega)]; simp
  (refine W.so fun K hK => ?_; simp only [RL, ↓reduceIte, Nat.reduceEqDiff, reduceCtorEq, Nat.reduceLeDiff, Nat.reduceAdd, Int.cast_ofNat_Int, Int.natCast_zero, e1]; refine hK _ _ ?_; clear hK; clear K)
  refine W.assoc ?_
  (refine W.so fun K hK => ?_; simp only [RL, ↓reduceIte, Nat.reduceEqDiff, reduceCtorEq, Nat.reduceLeDiff, Nat.reduceAdd]; refine hK _ _ ?_; clear hK; clear K)
  refine W.test (by (simp only [RL, ↓reduceIte, Nat.reduceEqDiff, reduceCtorEq, Nat.reduceLeDiff, Nat.reduceAdd]) <;> rfl) (fun h => ?_) (fun h => ?_)
  · simp at h
    refine W.ops' fun K hK => ?_
    have hm1 : (0 : Int) < (n : Int) := by omega
    have hm2 : (n : Int) ≤ (most : Int) := by simp only [most]; omega
    have hm3 : decide (16 ≤ 4096) = true := rfl
    simp only [RL, ↓reduceIte, Nat.reduceEqDiff, reduceCtorEq, Nat.reduceLeDiff, Nat.reduceAdd, sliceV, asIdx, Int.le_refl, Int.toNat_zero, h, hm1, hm2, hm3, Bool.and_self, Bool.and_true, Int.natCast_zero, Int.toNat_natCast, Nat.zero_le, Nat.sub_self, Nat.sub_zero, Nat.beq_refl]
    refine hK _ _ ?_
    simp only [seqK]
    (refine W.so fun K hK => ?_; simp only [RL, ↓reduceIte, Nat.reduceEqDiff, reduceCtorEq, Nat.reduceLeDiff, Nat.reduceAdd]; refine hK _ _ ?_; clear hK; clear K)
    (refine D.ret ?_; simp only [seqK, retR, resAll, ResV.get, resV, RL, ↓reduceIte, Nat.reduceEqDiff, reduceCtorEq, Nat.reduceLeDiff, Nat.reduceAdd])
    exact .inr ⟨h, trivial, trivial⟩
  · refine D.skip ?_
    simp only [seqK]
    (refine W.so fun K hK => ?_; simp only [RL, ↓reduceIte, Nat.reduceEqDiff, reduceCtorEq, Nat.reduceLeDiff, Nat.reduceAdd]; refine hK _ _ ?_; clear hK; clear K)
    (refine D.ret ?_; simp only [seqK, retR, resAll, ResV.get, resV, RL, ↓reduceIte, Nat.reduceEqDiff, reduceCtorEq, Nat.reduceLeDiff, Nat.reduceAdd])
    simp at h
    exact .inl ⟨h, trivial, trivial⟩
end Go.VS.Fn

namespace Go.VS.Fn
open Go.VS
variable {T : Nat → Option FnDef}

/-- A row that is written to, whole; or nil. -/
def RowAt (s : St) (v : V) (k : Nat) (xs : List V) : Prop := (v = .nilsl ∧ xs = []) ∨ ∃ r, v = .row r k 0 xs.length ∧ r < s.next ∧ s.mem r = some (.row xs)

theorem le_kill_new {s0 s : St} (h : St.Le s0 s) (r : Nat) (hr : s0.next ≤ r) (hn : s0.next ≤ s.next) (e : Ent) : St.Le s0 ((s.kill r).new e) :=
  ⟨by rw [next_new', next_kill']; omega, fun id hi _ => by rw [mem_new', if_neg (by rw [next_kill']; omega), mem_kill', if_neg (by omega)]; exact h.2 id hi (by simp)⟩

/-- What was there before s0 stands; the row is newer. -/
def NewRow (s0 s : St) (v : V) : Prop := St.Le s0 s ∧ ∀ r k o n, v = .row r k o n → s0.next ≤ r

theorem append_row {s0 s : St} {v w : V} {k by_ : Nat} {xs ys : List V} (h : RowAt s v k xs) (hn : NewRow s0 s v) (hw : elems w s = some ys) (hr : rowOk w k = true) (h1 : wOk k ys = true) (hl : xs.length + ys.length ≤ most) (hb : by_ ≤ 4096) :
    ∃ v' s', appendV true k by_ v w s = some (v', s') ∧ RowAt s' v' k (xs ++ ys) ∧ NewRow s0 s' v' := by
  have hnext := hn.1.1
  rcases h with ⟨rfl, rfl⟩ | ⟨r, rfl, hrn, hm⟩
  · by_cases hy : ys = []
    · subst hy
      exact ⟨.nilsl, s, by simp [appendV, hw, wOk, hr, show rowOk V.nilsl k = true from rfl], .inl ⟨rfl, rfl⟩, hn⟩
    · have : ys.isEmpty = false := by simp [hy]
      simp only [List.length_nil, Nat.zero_add] at hl
      refine ⟨.row s.next k 0 ys.length, s.new (.row ys), ?_, .inr ⟨s.next, by simp, by simp [next_new'], by simp [mem_new']⟩, hn.1.trans (St.LeW.new _ _ _), ?_⟩
      · simp [appendV, hw, h1, show rowOk V.nilsl k = true from rfl, hr, this, hl, hb]
      · intro r k' o n e
        injection e with e
        subst e
        exact hnext
  · have h0 := hn.2 r k 0 xs.length rfl
    by_cases hy : ys = []
    · subst hy
      exact ⟨.row r k 0 xs.length, s, by simp [appendV, hw, wOk, hr, show rowOk (V.row r k 0 xs.length) k = true from by simp [rowOk]], .inr ⟨r, by simp, hrn, by simpa using hm⟩, hn⟩
    · have : ys.isEmpty = false := by simp [hy]
      refine ⟨.row s.next k 0 (xs.length + ys.length), (s.kill r).new (.row (xs ++ ys)), ?_, .inr ⟨s.next, by simp, by simp [next_new', next_kill'], by simp [mem_new', next_kill']⟩, le_kill_new hn.1 r h0 hnext _, ?_⟩
      · have he : elems (.row r k 0 xs.length) s = some xs := by simp [elems, hm]
        simp [appendV, hw, h1, show rowOk (V.row r k 0 xs.length) k = true from by simp [rowOk], hr, this, hl, hb, he]
      · intro r' k' o n e
        injection e with e
        subst e
        exact hnext

theorem concat_len (h43 : T 43 = some (.body v43)) (h103 : T 103 = some (.body v103)) (ls : List (V × List V)) (v : V) (s : St) (hv : IsL v (ls.map (·.1))) (hls : ∀ p ∈ ls, IsL p.1 p.2) (hn : (ls.flatMap (·.2)).length ≤ 1000000) (hl : ls.length ≤ 1000) (hwo : ∀ p ∈ ls, wOk 2 p.2 = true) :
    D T (.call 43 [v] s (fun u s' => RowAt s' u 2 (ls.flatMap (·.2)) ∧ St.Le s s' ∧ ∀ r k o n, u = .row r k o n → s.next ≤ r)) := by
  have lv := hv.len
  rw [List.length_map] at lv
  have hsum : ∀ i, ((ls.take i).flatMap (·.2)).length ≤ 1000000 := fun i => by
    refine Nat.le_trans ?_ hn
    have := List.take_append_drop i ls
    conv => rhs; rw [← this]
    simp only [List.flatMap_append, List.length_append]
    omega
  (refine C.fn (by assumption) rfl ?_)
  unfold v43
  dsimp only
  (refine W.so fun K hK => ?_; simp only [RL, ↓reduceIte, Nat.reduceEqDiff, reduceCtorEq, Nat.reduceLeDiff, Nat.reduceAdd]; refine hK _ _ ?_; clear hK; clear K)
  (refine W.so fun K hK => ?_; simp only [RL, ↓reduceIte, Nat.reduceEqDiff, reduceCtorEq, Nat.reduceLeDiff, Nat.reduceAdd]; refine hK _ _ ?_; clear hK; clear K)
  refine W.assoc ?_
  (refine W.so fun K hK => ?_; simp only [RL, ↓reduceIte, Nat.reduceEqDiff, reduceCtorEq, Nat.reduceLeDiff, Nat.reduceAdd, lv, hv.notStr]; refine hK _ _ ?_; clear hK; clear K)
  refine W.seq (.block (W.loop (fun n F s' => ∃ i : Nat, n = ls.length - i ∧ i ≤ ls.length ∧ F 11 = .int .i64 i ∧ F 10 = .int .i64 ls.length ∧ F 9 = v ∧ F 0 = v ∧ F 3 = .int .i64 (((ls.take i).flatMap (·.2)).length : Nat) ∧ s' = s) ls.length ?_ ?_))
  · refine ⟨0, by simp, by simp, ?_, ?_, ?_, ?_, ?_, rfl⟩ <;> simp only [RL, ↓reduceIte, Nat.reduceEqDiff, reduceCtorEq, Nat.reduceLeDiff, Nat.reduceAdd] <;> rfl
  rintro n F s' ⟨i, rfl, hi, h11, h10, h9, h0, h3, hs⟩
  have hs := hs.symm
  subst hs
  (refine W.so fun K hK => ?_; simp only [RL, ↓reduceIte, Nat.reduceEqDiff, reduceCtorEq, Nat.reduceLeDiff, Nat.reduceAdd, h11, h10]; refine hK _ _ ?_; clear hK; clear K)
  refine W.test (by (simp only [RL, ↓reduceIte, Nat.reduceEqDiff, reduceCtorEq, Nat.reduceLeDiff, Nat.reduceAdd]) <;> rfl) (fun h => ?_) (fun h => ?_)
  · simp only [decide_eq_true_eq] at h
    have hi' : i < ls.length := by omega
    have ea : (ls.map (·.1))[i]? = some ls[i].1 := by simp [hi']
    have hx := hls _ (List.getElem_mem hi')
    obtain ⟨c1, g1, j1, ia⟩ := hv.idx (kk := .i64) ea (k := 1) (by rw [hx.cells1]; rfl)
    rw [hx.cells1] at ia
    have lx := hx.len
    have ex : ((ls.take (i + 1)).flatMap (·.2)).length = ((ls.take i).flatMap (·.2)).length + ls[i].2.length := by
      rw [List.take_succ_eq_append_getElem hi', List.flatMap_append, List.length_append]; simp
    have b0 := hsum (i + 1)
    have e1 : IntKind.i64.wrap ((((ls.take i).flatMap (·.2)).length : Int) + (ls[i].2.length : Int)) = (((ls.take (i + 1)).flatMap (·.2)).length : Nat) := by
      rw [wrap64 (by omega) (by omega), ex]; simp
    refine D.skip ?_
    simp only [seqK]
    refine W.seq (.block ?_)
    (refine W.so fun K hK => ?_; simp only [RL, ↓reduceIte, Nat.reduceEqDiff, reduceCtorEq, Nat.reduceLeDiff, Nat.reduceAdd, h9, h11, ia]; refine hK _ _ ?_; clear hK; clear K)
    (refine W.so fun K hK => ?_; simp only [RL, ↓reduceIte, Nat.reduceEqDiff, reduceCtorEq, Nat.reduceLeDiff, Nat.reduceAdd, h3, lx, hx.notStr, e1]; refine hK _ _ ?_; clear hK; clear K)
    (refine W.so fun K hK => ?_; simp only [RL, ↓reduceIte, Nat.reduceEqDiff, reduceCtorEq, Nat.reduceLeDiff, Nat.reduceAdd]; refine hK _ _ ?_; clear hK; clear K)
    refine W.cond (by (simp only [RL, ↓reduceIte, Nat.reduceEqDiff, reduceCtorEq, Nat.reduceLeDiff, Nat.reduceAdd]) <;> rfl) (fun h => ?_) (fun h => ?_)
    · simp at h; omega
    refine D.skip ?_
    simp only [seqK, blockK]
    (refine W.ops' fun K hK => ?_; simp only [RL, ↓reduceIte, Nat.reduceEqDiff, reduceCtorEq, Nat.reduceLeDiff, Nat.reduceAdd, h11, wrap64 (show -9223372036854775808 ≤ (i : Int) + 1 by omega) (by omega)]; refine hK _ _ ?_; clear hK; clear K)
    simp only [seqK]
    refine ⟨ls.length - (i + 1), by omega, i + 1, rfl, by omega, ?_, ?_, ?_, ?_, ?_, trivial⟩
    · simp only [RL, ↓reduceIte, Nat.reduceEqDiff, reduceCtorEq, Nat.reduceLeDiff, Nat.reduceAdd]; simp
    · simp only [RL, ↓reduceIte, Nat.reduceEqDiff, reduceCtorEq, Nat.reduceLeDiff, Nat.reduceAdd, h10]
    · simp only [RL, ↓reduceIte, Nat.reduceEqDiff, reduceCtorEq, Nat.reduceLeDiff, Nat.reduceAdd, h9]
    · simp only [RL, ↓reduceIte, Nat.reduceEqDiff, reduceCtorEq, Nat.reduceLeDiff, Nat.reduceAdd, h0]
    · simp only [RL, ↓reduceIte, Nat.reduceEqDiff, reduceCtorEq, Nat.reduceLeDiff, Nat.reduceAdd]
  · refine D.exit ?_
    simp only [seqK, blockK, Nat.beq_refl, cond_true]
    have hi0 : i = ls.length := by simp at h; omega
    subst hi0
    rw [List.take_length] at h3
    (refine W.so fun K hK => ?_; simp only [RL, ↓reduceIte, Nat.reduceEqDiff, reduceCtorEq, Nat.reduceLeDiff, Nat.reduceAdd, h3])
    (refine X_callc rfl ?_; simp only [RL, ↓reduceIte, Nat.reduceEqDiff, reduceCtorEq, Nat.reduceLeDiff, Nat.reduceAdd, List.nil_append, List.append_nil])
    refine (Grow_spec h103 _ _ hn).mono_call ?_
    intro u s1 hu
    refine ⟨by simp, ?_⟩
    have hu' : RowAt s1 u 2 [] ∧ NewRow s s1 u := by
      rcases hu with ⟨_, rfl, rfl⟩ | ⟨_, rfl, rfl⟩
      · exact ⟨.inl ⟨rfl, rfl⟩, St.LeW.refl _ _, fun _ _ _ _ e => by cases e⟩
      · refine ⟨.inr ⟨s.next, rfl, by simp [next_new'], by simp [mem_new']⟩, St.LeW.new _ _ _, fun r k o n e => ?_⟩
        injection e with e
        omega
    obtain ⟨hrow, hnew⟩ := hu'
    ((try simp only [RL, ↓reduceIte, Nat.reduceEqDiff, reduceCtorEq, Nat.reduceLeDiff, Nat.reduceAdd]); refine hK _ _ ?_; clear hK; clear K)
    refine W.assoc ?_
    (refine W.so fun K hK => ?_; simp only [RL, ↓reduceIte, Nat.reduceEqDiff, reduceCtorEq, Nat.reduceLeDiff, Nat.reduceAdd, h0, lv, hv.notStr]; refine hK _ _ ?_; clear hK; clear K)
    refine W.seq (.block (W.loop (fun n F s' => ∃ i : Nat, n = ls.length - i ∧ i ≤ ls.length ∧ F 27 = .int .i64 i ∧ F 26 = .int .i64 ls.length ∧ F 25 = v ∧ RowAt s' (F 6) 2 ((ls.take i).flatMap (·.2)) ∧ NewRow s s' (F 6)) ls.length ?_ ?_))
    · refine ⟨0, by simp, by simp, ?_, ?_, ?_, ?_, ?_⟩
      · simp only [RL, ↓reduceIte, Nat.reduceEqDiff, reduceCtorEq, Nat.reduceLeDiff, Nat.reduceAdd]; rfl
      · simp only [RL, ↓reduceIte, Nat.reduceEqDiff, reduceCtorEq, Nat.reduceLeDiff, Nat.reduceAdd]
      · simp only [RL, ↓reduceIte, Nat.reduceEqDiff, reduceCtorEq, Nat.reduceLeDiff, Nat.reduceAdd]
      · simp only [RL, ↓reduceIte, Nat.reduceEqDiff, reduceCtorEq, Nat.reduceLeDiff, Nat.reduceAdd]; exact hrow
      · simp only [RL, ↓reduceIte, Nat.reduceEqDiff, reduceCtorEq, Nat.reduceLeDiff, Nat.reduceAdd]; exact hnew
    rintro n F' s2 ⟨i, rfl, hi, h27, h26, h25, hrow2, hnew2⟩
    (refine W.so fun K hK => ?_; simp only [RL, ↓reduceIte, Nat.reduceEqDiff, reduceCtorEq, Nat.reduceLeDiff, Nat.reduceAdd, h27, h26]; refine hK _ _ ?_; clear hK; clear K)
    refine W.test (by (simp only [RL, ↓reduceIte, Nat.reduceEqDiff, reduceCtorEq, Nat.reduceLeDiff, Nat.reduceAdd]) <;> rfl) (fun h => ?_) (fun h => ?_)
    · simp only [decide_eq_true_eq] at h
      have hi' : i < ls.length := by omega
      have ea : (ls.map (·.1))[i]? = some ls[i].1 := by simp [hi']
      have hx := hls _ (List.getElem_mem hi')
      obtain ⟨c1, g1, j1, ia⟩ := hv.idx (kk := .i64) ea (k := 1) (by rw [hx.cells1]; rfl)
      rw [hx.cells1] at ia
      have ex : (ls.take (i + 1)).flatMap (·.2) = (ls.take i).flatMap (·.2) ++ ls[i].2 := by
        rw [List.take_succ_eq_append_getElem hi', List.flatMap_append]; simp
      have b0 := hsum (i + 1)
      rw [ex, List.length_append] at b0
      obtain ⟨u', s3, happ, hrow3, hnew3⟩ := append_row (by_ := 16) hrow2 hnew2 (hx.elems (s := s2)) (by rcases hx with ⟨e, _⟩ | ⟨c, g, off, e⟩ <;> rw [e] <;> rfl) (hwo _ (List.getElem_mem hi')) (by simp only [most]; omega) (by omega)
      refine D.skip ?_
      simp only [seqK]
      refine W.seq (.block ?_)
      (refine W.so fun K hK => ?_; simp only [RL, ↓reduceIte, Nat.reduceEqDiff, reduceCtorEq, Nat.reduceLeDiff, Nat.reduceAdd, h25, h27, ia]; refine hK _ _ ?_; clear hK; clear K)
      (refine W.ops' fun K hK => ?_; simp only [RL, ↓reduceIte, Nat.reduceEqDiff, reduceCtorEq, Nat.reduceLeDiff, Nat.reduceAdd, happ]; refine hK _ _ ?_; clear hK; clear K)
      simp only [seqK, blockK]
      (refine W.ops' fun K hK => ?_; simp only [RL, ↓reduceIte, Nat.reduceEqDiff, reduceCtorEq, Nat.reduceLeDiff, Nat.reduceAdd, h27, wrap64 (show -9223372036854775808 ≤ (i : Int) + 1 by omega) (by omega)]; refine hK _ _ ?_; clear hK; clear K)
      simp only [seqK]
      refine ⟨ls.length - (i + 1), by omega, i + 1, rfl, by omega, ?_, ?_, ?_, ?_, ?_⟩
      · simp only [RL, ↓reduceIte, Nat.reduceEqDiff, reduceCtorEq, Nat.reduceLeDiff, Nat.reduceAdd]; simp
      · simp only [RL, ↓reduceIte, Nat.reduceEqDiff, reduceCtorEq, Nat.reduceLeDiff, Nat.reduceAdd, h26]
      · simp only [RL, ↓reduceIte, Nat.reduceEqDiff, reduceCtorEq, Nat.reduceLeDiff, Nat.reduceAdd, h25]
      · simp only [RL, ↓reduceIte, Nat.reduceEqDiff, reduceCtorEq, Nat.reduceLeDiff, Nat.reduceAdd]; rw [ex]; exact hrow3
      · simp only [RL, ↓reduceIte, Nat.reduceEqDiff, reduceCtorEq, Nat.reduceLeDiff, Nat.reduceAdd]; exact hnew3
    · refine D.exit ?_
      simp only [seqK, blockK, Nat.beq_refl, cond_true]
      (refine W.so fun K hK => ?_; simp only [RL, ↓reduceIte, Nat.reduceEqDiff, reduceCtorEq, Nat.reduceLeDiff, Nat.reduceAdd]; refine hK _ _ ?_; clear hK; clear K)
      (refine D.ret ?_; simp only [seqK, retR, resAll, ResV.get, resV, RL, ↓reduceIte, Nat.reduceEqDiff, reduceCtorEq, Nat.reduceLeDiff, Nat.reduceAdd])
      have hi0 : i = ls.length := by simp at h; omega
      subst hi0
      rw [List.take_length] at hrow2
      exact ⟨hrow2, hnew2.1, hnew2.2⟩
end Go.VS.Fn

namespace Go.VS.Fn
open Go.VS
variable {T : Nat → Option FnDef}

/-- The functions on lists of spans. -/
structure HS (T : Nat → Option FnDef) : Prop where
  h61 : T 61 = some (.body v61)
  h49 : T 49 = some (.body v49)
  h50 : T 50 = some (.body v50)
  h29 : T 29 = some (.body v29)
  h58 : T 58 = some (.body v58)
  h41 : T 41 = some (.body v41)
  h42 : T 42 = some (.body v42)
  h46 : T 46 = some (.body v46)
  h47 : T 47 = some (.body v47)
  h48 : T 48 = some (.body v48)
  h23 : T 23 = some (.body v23)
  h25 : T 25 = some (.body v25)
  h27 : T 27 = some (.body v27)
  h39 : T 39 = some (.body v39)
  h40 : T 40 = some (.body v40)
  h45 : T 45 = some (.body v45)
  h24 : T 24 = some (.body v24)
  h26 : T 26 = some (.body v26)
  h43 : T 43 = some (.body v43)
  h103 : T 103 = some (.body v103)
  h8 : T 8 = some (.body v8)
  h6 : T 6 = some (.body v6)
  h7 : T 7 = some (.body v7)
  h10 : T 10 = some (.body v10)
  h11 : T 11 = some (.body v11)
  h28 : T 28 = some (.body v28)
  h9 : T 9 = some (.body v9)
  h12 : T 12 = some (.body v12)

theorem isNaN_spec (h : T 61 = some (.body v61)) (n : Int) (s : St) : D T (.call 61 [.int .i64 n] s (fun v s' => v = .bool false ∧ s = s')) := by
  (refine C.fn (by assumption) rfl ?_)
  unfold v61
  dsimp only
  (repeat' (first | (refine NXt ?_; try intro K hK) | (refine hK _ _ ?_; clear hK; clear K; try refine PX ?_) | ((first | refine GC_case_t (fun hr => ?_) (fun hr => ?_) | refine GC_case_f (fun hr => ?_) (fun hr => ?_)) <;> (have h := hr; (try simp only [RH, reduceCtorEq] at h); simp (disch := first|exact DB|fail) only [hr, RB, ↓reduceIte, Nat.reduceEqDiff, reduceCtorEq, Nat.reduceLeDiff, Nat.reduceAdd, Int.reduceToNat, Nat.reduceLT]; clear hr) <;> (try (exfalso; omega))) | (show D _ (J.ops _ _ _ _); refine SBb ?_) | (refine T_app ?_; try refine SBb ?_) | (refine T_fork ?_ ?_) | (simp only [T_nil]) | (refine TS (fun h => ?_) (fun h => ?_) (hc := HCb) <;> (try simp only [RH, reduceCtorEq] at h) <;> (try (exfalso; omega))) | (show retR _ _ _ _ _; simp (disch := first|exact DB|fail) only [RR, RB, ↓reduceIte, Nat.reduceEqDiff, reduceCtorEq, Nat.reduceLeDiff, Nat.reduceAdd, Int.reduceToNat, Nat.reduceLT]) | exact rfl))
  exact ⟨by simp, trivial⟩
/-- As cmp.Compare tells it. -/
def cmpI (a b : Int) : Int := if a < b then -1 else if b < a then 1 else 0
theorem cmpI_spec (S : HS T) (a b : Int) (s : St) : D T (.call 49 [.int .i64 a, .int .i64 b] s (fun v s' => v = .int .i64 (cmpI a b) ∧ s = s')) := by
  refine C.fn S.h49 rfl ?_
  unfold v49
  dsimp only
  (repeat' (first | (refine NXt ?_; try intro K hK) | (refine hK _ _ ?_; clear hK; clear K; try refine PX ?_) | ((first | refine GC_case_t (fun hr => ?_) (fun hr => ?_) | refine GC_case_f (fun hr => ?_) (fun hr => ?_)) <;> (have h := hr; (try simp only [RH, reduceCtorEq] at h); simp (disch := first|exact DB|fail) only [hr, RB, ↓reduceIte, Nat.reduceEqDiff, reduceCtorEq, Nat.reduceLeDiff, Nat.reduceAdd, Int.reduceToNat, Nat.reduceLT]; clear hr) <;> (try (exfalso; omega))) | (refine X_callc rfl ?_; simp (disch := first|exact DB|fail) only [List.nil_append, List.append_nil, RB, ↓reduceIte, Nat.reduceEqDiff, reduceCtorEq, Nat.reduceLeDiff, Nat.reduceAdd, Int.reduceToNat, Nat.reduceLT]; refine D.mono_call (isNaN_spec S.h61 _ _) ?_; rintro v s' ⟨rfl, rfl⟩; (try simp only [NB] at hδ); refine ⟨by first | exact CK | (simp only [RC, Chk.ok, V.ent]; simp (disch := first|exact DB|fail) only [RT, RB, ↓reduceIte, Nat.reduceEqDiff, reduceCtorEq, Nat.reduceLeDiff, Nat.reduceAdd, Int.reduceToNat, Nat.reduceLT]), ?_⟩; try refine SBb ?_) | (show D _ (J.ops _ _ _ _); refine SBb ?_) | (refine T_app ?_; try refine SBb ?_) | (refine T_fork ?_ ?_) | (simp only [T_nil]) | (refine TS (fun h => ?_) (fun h => ?_) (hc := HCb) <;> (try simp only [RH, reduceCtorEq] at h) <;> (try (exfalso; omega))) | (show retR _ _ _ _ _; simp (disch := first|exact DB|fail) only [RR, RB, ↓reduceIte, Nat.reduceEqDiff, reduceCtorEq, Nat.reduceLeDiff, Nat.reduceAdd, Int.reduceToNat, Nat.reduceLT]) | exact rfl))
  all_goals exact ⟨by simp only [cmpI]; (repeat' split) <;> first | rfl | (exfalso; omega), trivial⟩
def cmpS (p q : Int × Int) : Int := if cmpI p.1 q.1 = 0 then cmpI p.2 q.2 else cmpI p.1 q.1
theorem Or_spec (S : HS T) (c g : Nat) (a b : Int) (s : St) : D T (.call 50 [.sl c g 0 [.int .i64 a, .int .i64 b]] s (fun v s' => v = .int .i64 (if a = 0 then b else a) ∧ s = s')) := by
  refine C.fn S.h50 rfl ?_
  unfold v50
  dsimp only
  (repeat' (first | (refine NXt ?_; try intro K hK) | (refine hK _ _ ?_; clear hK; clear K; try refine PX ?_) | ((first | refine GC_case_t (fun hr => ?_) (fun hr => ?_) | refine GC_case_f (fun hr => ?_) (fun hr => ?_)) <;> (have h := hr; (try simp only [RH, reduceCtorEq] at h); simp (disch := first|exact DB|fail) only [hr, RB, ↓reduceIte, Nat.reduceEqDiff, reduceCtorEq, Nat.reduceLeDiff, Nat.reduceAdd, Int.reduceToNat, Nat.reduceLT]; clear hr) <;> (try (exfalso; omega))) | (show D _ (J.ops _ _ _ _); refine SBb ?_) | (refine T_app ?_; try refine SBb ?_) | (refine T_fork ?_ ?_) | (simp only [T_nil]) | (refine TS (fun h => ?_) (fun h => ?_) (hc := HCb) <;> (try simp only [RH, reduceCtorEq] at h) <;> (try (exfalso; omega))) | (show retR _ _ _ _ _; simp (disch := first|exact DB|fail) only [RR, RB, ↓reduceIte, Nat.reduceEqDiff, reduceCtorEq, Nat.reduceLeDiff, Nat.reduceAdd, Int.reduceToNat, Nat.reduceLT]) | exact rfl))
  refine W.seq (W.range0 (N := 2) (fun k F' => (1 ≤ k → a = 0) ∧ (2 ≤ k → b = 0)) IB IB (by omega) rfl (by intro k F x y z h; revert h; (try simp only [put_at, Nat.reduceEqDiff, reduceCtorEq, ↓reduceIte]); exact id) ⟨by omega, by omega⟩ ?_ ?_)
  · rintro k F hk hfr hi ⟨hI1, hI2⟩
    obtain rfl | rfl : k = 0 ∨ k = 1 := by omega
    · have e0 : ∀ kk : IntKind, idxV 1 (.sl c g 0 [.int .i64 a, .int .i64 b]) (.int kk 0) = some (.cptr c g 0 0 [.int .i64 a]) := fun kk => rfl
      ((have E := And.intro hfr (And.intro hi e0); (repeat' (first | (refine NXt ?_; try intro K hK) | (refine hK _ _ ?_; clear hK; clear K; try refine PX ?_) | ((first | refine GC_case_t (fun hr => ?_) (fun hr => ?_) | refine GC_case_f (fun hr => ?_) (fun hr => ?_)) <;> (have h := hr; (try simp only [RH, reduceCtorEq] at h); refine SHb ?_; clear hr) <;> (try (exfalso; omega))) | (show D _ (J.ops _ _ _ _); refine SEb ?_) | (refine T_app ?_; try refine SEb ?_) | (refine T_fork ?_ ?_) | (simp only [T_nil]) | (refine TS (fun h => ?_) (fun h => ?_) (hc := HEb) <;> (try simp only [RH, reduceCtorEq] at h) <;> (try (exfalso; omega))) | (show retR _ _ _ _ _; refine SRb ?_) | exact rfl))) <;> (try clear E))
      · exact ⟨by rw [if_neg (by assumption)], trivial⟩
      · exact ⟨trivial, fun _ => by omega, by omega⟩
    · have e0 : ∀ kk : IntKind, idxV 1 (.sl c g 0 [.int .i64 a, .int .i64 b]) (.int kk 1) = some (.cptr c g 1 0 [.int .i64 b]) := fun kk => rfl
      ((have E := And.intro hfr (And.intro hi e0); (repeat' (first | (refine NXt ?_; try intro K hK) | (refine hK _ _ ?_; clear hK; clear K; try refine PX ?_) | ((first | refine GC_case_t (fun hr => ?_) (fun hr => ?_) | refine GC_case_f (fun hr => ?_) (fun hr => ?_)) <;> (have h := hr; (try simp only [RH, reduceCtorEq] at h); refine SHb ?_; clear hr) <;> (try (exfalso; omega))) | (show D _ (J.ops _ _ _ _); refine SEb ?_) | (refine T_app ?_; try refine SEb ?_) | (refine T_fork ?_ ?_) | (simp only [T_nil]) | (refine TS (fun h => ?_) (fun h => ?_) (hc := HEb) <;> (try simp only [RH, reduceCtorEq] at h) <;> (try (exfalso; omega))) | (show retR _ _ _ _ _; refine SRb ?_) | exact rfl))) <;> (try clear E))
      · exact ⟨by rw [if_pos (hI1 (by omega))], trivial⟩
      · exact ⟨trivial, fun _ => hI1 (by omega), fun _ => by omega⟩
  · rintro F hfr ⟨hI1, hI2⟩
    ((have E := hfr; (repeat' (first | (refine NXt ?_; try intro K hK) | (refine hK _ _ ?_; clear hK; clear K; try refine PX ?_) | ((first | refine GC_case_t (fun hr => ?_) (fun hr => ?_) | refine GC_case_f (fun hr => ?_) (fun hr => ?_)) <;> (have h := hr; (try simp only [RH, reduceCtorEq] at h); refine SHb ?_; clear hr) <;> (try (exfalso; omega))) | (show D _ (J.ops _ _ _ _); refine SEb ?_) | (refine T_app ?_; try refine SEb ?_) | (refine T_fork ?_ ?_) | (simp only [T_nil]) | (refine TS (fun h => ?_) (fun h => ?_) (hc := HEb) <;> (try simp only [RH, reduceCtorEq] at h) <;> (try (exfalso; omega))) | (show retR _ _ _ _ _; refine SRb ?_) | exact rfl))) <;> (try clear E))
    exact ⟨by rw [if_pos (hI1 (by omega)), hI2 (by omega)], trivial⟩
theorem compare_spec (S : HS T) (p q : Int × Int) (s : St) : D T (.call 29 [sp p, sp q] s (fun v s' => v = .int .i64 (cmpS p q) ∧ St.Gr s s')) := by
  refine C.fn S.h29 rfl ?_
  unfold v29
  dsimp only
  ((have E := sp_def; (repeat' (first | (refine NXt ?_; try intro K hK) | (refine hK _ _ ?_; clear hK; clear K; try refine PX ?_) | ((first | refine GC_case_t (fun hr => ?_) (fun hr => ?_) | refine GC_case_f (fun hr => ?_) (fun hr => ?_)) <;> (have h := hr; (try simp only [RH, reduceCtorEq] at h); refine SHb ?_; clear hr) <;> (try (exfalso; omega))) | (refine X_callc rfl ?_; refine SNb ?_; refine D.mono_call (cmpI_spec S _ _ _) ?_; rintro v s' ⟨rfl, rfl⟩; (try simp only [NB] at hδ); refine ⟨by exact CEb, ?_⟩; try refine SEb ?_) | (refine X_callc rfl ?_; refine SNb ?_; refine D.mono_call (Or_spec S _ _ _ _ _) ?_; rintro v s' ⟨rfl, rfl⟩; (try simp only [NB] at hδ); refine ⟨by exact CEb, ?_⟩; try refine SEb ?_) | (show D _ (J.ops _ _ _ _); refine SEb ?_) | (refine T_app ?_; try refine SEb ?_) | (refine T_fork ?_ ?_) | (simp only [T_nil]) | (refine TS (fun h => ?_) (fun h => ?_) (hc := HEb) <;> (try simp only [RH, reduceCtorEq] at h) <;> (try (exfalso; omega))) | (show retR _ _ _ _ _; refine SRb ?_) | exact rfl))) <;> (try clear E))
  exact ⟨rfl, by (exact LEb)⟩

/-- A function value of spans, in stores that grow from s. -/
def FnS (T : Nat → Option FnDef) (s : St) (f : V) (P : Int × Int → Bool) : Prop :=
  ∃ id fi ca, f = .fn id fi ca ∧ ∀ p s', St.Gr s s' → D T (.call id (fi ++ [sp p] ++ ca) s' (fun v s'' => v = .bool (P p) ∧ St.Gr s' s''))

theorem Index_spec (S : HS T) (v : V) (xs : List (Int × Int)) (hL : IsL v (xs.map sp)) (hl : xs.length ≤ 100000) (p : Int × Int) (s : St) : D T (.call 42 [v, sp p] s (fun v s' => (∃ k : Int, v = .int .i64 k ∧ -1 ≤ k ∧ (0 ≤ k ↔ p ∈ xs)) ∧ St.Gr s s')) := by
  refine C.fn S.h42 rfl ?_
  unfold v42
  dsimp only
  ((have E := And.intro hL.lenm (And.intro hL.notStr sp_def); (repeat' (first | (refine NXt ?_; try intro K hK) | (refine hK _ _ ?_; clear hK; clear K; try refine PX ?_) | ((first | refine GC_case_t (fun hr => ?_) (fun hr => ?_) | refine GC_case_f (fun hr => ?_) (fun hr => ?_)) <;> (have h := hr; (try simp only [RH, reduceCtorEq] at h); refine SHb ?_; clear hr) <;> (try (exfalso; omega))) | (show D _ (J.ops _ _ _ _); refine SEb ?_) | (refine T_app ?_; try refine SEb ?_) | (refine T_fork ?_ ?_) | (simp only [T_nil]) | (refine TS (fun h => ?_) (fun h => ?_) (hc := HEb) <;> (try simp only [RH, reduceCtorEq] at h) <;> (try (exfalso; omega))) | (show retR _ _ _ _ _; refine SRb ?_) | exact rfl))) <;> (try clear E))
  refine W.seq (W.range0 (N := xs.length) (fun k F' => p ∉ xs.take k) IB IB (by omega) rfl (by intro k F x y z h; revert h; (try simp only [put_at, Nat.reduceEqDiff, reduceCtorEq, ↓reduceIte]); exact id) (by simp) ?_ ?_)
  · rintro k F hk hfr hi hI
    ((have E := And.intro hfr (And.intro hi (And.intro hL.ixmE sp_def)); (repeat' (first | (refine NXt ?_; try intro K hK) | (refine hK _ _ ?_; clear hK; clear K; try refine PX ?_) | ((first | refine GC_case_t (fun hr => ?_) (fun hr => ?_) | refine GC_case_f (fun hr => ?_) (fun hr => ?_)) <;> (have h := hr; (try simp only [RH, reduceCtorEq] at h); refine SHb ?_; clear hr) <;> (try (exfalso; omega))) | (show D _ (J.ops _ _ _ _); refine SEb ?_) | (refine T_app ?_; try refine SEb ?_) | (refine T_fork ?_ ?_) | (simp only [T_nil]) | (refine TS (fun h => ?_) (fun h => ?_) (hc := HEb) <;> (try simp only [RH, reduceCtorEq] at h) <;> (try (exfalso; omega))) | (show retR _ _ _ _ _; refine SRb ?_) | exact rfl))) <;> (try clear E))
    · refine ⟨⟨k, rfl, by omega, ?_⟩, by (exact LEb)⟩
      refine ⟨fun _ => ?_, fun _ => by omega⟩
      have e : p = xs[k] := by apply Prod.ext <;> simp_all
      rw [e]; exact List.getElem_mem hk
    · refine ⟨trivial, ?_⟩
      rw [List.take_succ_eq_append_getElem hk]
      simp only [List.mem_append, List.mem_singleton, not_or]
      refine ⟨hI, fun e => ?_⟩
      subst e
      simp_all
  · rintro F hfr hI
    rw [List.take_length] at hI
    ((have E := hfr; (repeat' (first | (refine NXt ?_; try intro K hK) | (refine hK _ _ ?_; clear hK; clear K; try refine PX ?_) | ((first | refine GC_case_t (fun hr => ?_) (fun hr => ?_) | refine GC_case_f (fun hr => ?_) (fun hr => ?_)) <;> (have h := hr; (try simp only [RH, reduceCtorEq] at h); refine SHb ?_; clear hr) <;> (try (exfalso; omega))) | (show D _ (J.ops _ _ _ _); refine SEb ?_) | (refine T_app ?_; try refine SEb ?_) | (refine T_fork ?_ ?_) | (simp only [T_nil]) | (refine TS (fun h => ?_) (fun h => ?_) (hc := HEb) <;> (try simp only [RH, reduceCtorEq] at h) <;> (try (exfalso; omega))) | (show retR _ _ _ _ _; refine SRb ?_) | exact rfl))) <;> (try clear E))
    exact ⟨⟨-1, rfl, by omega, ⟨fun h => absurd h (by omega), fun h => absurd h hI⟩⟩, by (exact LEb)⟩
theorem Contains_spec (S : HS T) (v : V) (xs : List (Int × Int)) (hL : IsL v (xs.map sp)) (hl : xs.length ≤ 100000) (p : Int × Int) (s : St) : D T (.call 41 [v, sp p] s (fun v s' => v = .bool (decide (p ∈ xs)) ∧ St.Gr s s')) := by
  refine C.fn S.h41 rfl ?_
  unfold v41
  dsimp only
  ((have E := sp_def; (repeat' (first | (refine NXt ?_; try intro K hK) | (refine hK _ _ ?_; clear hK; clear K; try refine PX ?_) | ((first | refine GC_case_t (fun hr => ?_) (fun hr => ?_) | refine GC_case_f (fun hr => ?_) (fun hr => ?_)) <;> (have h := hr; (try simp only [RH, reduceCtorEq] at h); refine SHb ?_; clear hr) <;> (try (exfalso; omega))) | (refine X_callc rfl ?_; refine SNb ?_; refine D.mono_call (Index_spec S _ _ hL hl p _) ?_; rintro v s' ⟨⟨k, rfl, hk1, hk2⟩, δ, hδ, rfl⟩; (try simp only [NB] at hδ); refine ⟨by exact CEb, ?_⟩; try refine SEb ?_) | (show D _ (J.ops _ _ _ _); refine SEb ?_) | (refine T_app ?_; try refine SEb ?_) | (refine T_fork ?_ ?_) | (simp only [T_nil]) | (refine TS (fun h => ?_) (fun h => ?_) (hc := HEb) <;> (try simp only [RH, reduceCtorEq] at h) <;> (try (exfalso; omega))) | (show retR _ _ _ _ _; refine SRb ?_) | exact rfl))) <;> (try clear E))
  exact ⟨by simp [hk2], by (exact LEb)⟩

/-- slices.IndexFunc over a slice that nobody writes to, or a row of such elements. -/
theorem IndexFunc_spec (S : HS T) (v : V) (xs : List (Int × Int)) (f : V) (P : Int × Int → Bool) (s : St) (hL : IsL v (xs.map sp)) (hl : xs.length ≤ 100000) (hf : FnS T s f P) : D T (.call 58 [v, f] s (fun v s' => (∃ k : Int, v = .int .i64 k ∧ -1 ≤ k ∧ (0 ≤ k ↔ ∃ p ∈ xs, P p = true)) ∧ St.Gr s s')) := by
  obtain ⟨fid, fi, ca, rfl, hcall⟩ := hf
  refine C.fn S.h58 rfl ?_
  unfold v58
  dsimp only
  ((have E := And.intro hL.lenm hL.notStr; (repeat' (first | (refine NXt ?_; try intro K hK) | (refine hK _ _ ?_; clear hK; clear K; try refine PX ?_) | ((first | refine GC_case_t (fun hr => ?_) (fun hr => ?_) | refine GC_case_f (fun hr => ?_) (fun hr => ?_)) <;> (have h := hr; (try simp only [RH, reduceCtorEq] at h); refine SHb ?_; clear hr) <;> (try (exfalso; omega))) | (show D _ (J.ops _ _ _ _); refine SEb ?_) | (refine T_app ?_; try refine SEb ?_) | (refine T_fork ?_ ?_) | (simp only [T_nil]) | (refine TS (fun h => ?_) (fun h => ?_) (hc := HEb) <;> (try simp only [RH, reduceCtorEq] at h) <;> (try (exfalso; omega))) | (show retR _ _ _ _ _; refine SRb ?_) | exact rfl))) <;> (try clear E))
  refine W.seq (W.rangeG (N := xs.length) (fun k F' s' => ∀ p ∈ xs.take k, P p = false) IB IB (by omega) rfl ST (by simp) ?_ ?_)
  · rintro k F δ hk hfr hi hδ hI
    ((have E := And.intro hfr (And.intro hi (And.intro hL.ixmE sp_def)); (repeat' (first | (refine NXt ?_; try intro K hK) | (refine hK _ _ ?_; clear hK; clear K; try refine PX ?_) | ((first | refine GC_case_t (fun hr => ?_) (fun hr => ?_) | refine GC_case_f (fun hr => ?_) (fun hr => ?_)) <;> (have h := hr; (try simp only [RH, reduceCtorEq] at h); refine SHb ?_; clear hr) <;> (try (exfalso; omega))) | (refine X_callc rfl ?_; refine SNb ?_; refine D.mono_call (hcall xs[k] _ ⟨δ, hδ, rfl⟩) ?_; rintro v s' ⟨rfl, δ2, hδ2, rfl⟩; (try simp only [NB] at hδ); refine ⟨by exact CEb, ?_⟩; try refine SEb ?_) | (show D _ (J.ops _ _ _ _); refine SEb ?_) | (refine T_app ?_; try refine SEb ?_) | (refine T_fork ?_ ?_) | (simp only [T_nil]) | (refine TS (fun h => ?_) (fun h => ?_) (hc := HEb) <;> (try simp only [RH, reduceCtorEq] at h) <;> (try (exfalso; omega))) | (show retR _ _ _ _ _; refine SRb ?_) | exact rfl))) <;> (try clear E))
    · refine ⟨⟨k, rfl, by omega, ⟨fun _ => ⟨xs[k], List.getElem_mem hk, by assumption⟩, fun _ => by omega⟩⟩, by (exact LEb)⟩
    · refine ⟨by (exact LEb), fun p hp => ?_⟩
      rw [List.take_succ_eq_append_getElem hk] at hp
      rcases List.mem_append.1 hp with h1 | h1
      · exact hI p h1
      · rw [List.mem_singleton.1 h1]; assumption
  · rintro F δ hfr hδ hI
    rw [List.take_length] at hI
    ((have E := hfr; (repeat' (first | (refine NXt ?_; try intro K hK) | (refine hK _ _ ?_; clear hK; clear K; try refine PX ?_) | ((first | refine GC_case_t (fun hr => ?_) (fun hr => ?_) | refine GC_case_f (fun hr => ?_) (fun hr => ?_)) <;> (have h := hr; (try simp only [RH, reduceCtorEq] at h); refine SHb ?_; clear hr) <;> (try (exfalso; omega))) | (show D _ (J.ops _ _ _ _); refine SEb ?_) | (refine T_app ?_; try refine SEb ?_) | (refine T_fork ?_ ?_) | (simp only [T_nil]) | (refine TS (fun h => ?_) (fun h => ?_) (hc := HEb) <;> (try simp only [RH, reduceCtorEq] at h) <;> (try (exfalso; omega))) | (show retR _ _ _ _ _; refine SRb ?_) | exact rfl))) <;> (try clear E))
    exact ⟨⟨-1, rfl, by omega, ⟨fun h => absurd h (by omega), fun ⟨p, hp, h⟩ => by rw [hI p hp] at h; cases h⟩⟩, by (exact LEb)⟩
theorem ContainsFunc_spec (S : HS T) (v : V) (xs : List (Int × Int)) (f : V) (P : Int × Int → Bool) (s : St) (hL : IsL v (xs.map sp)) (hl : xs.length ≤ 100000) (hf : FnS T s f P) : D T (.call 48 [v, f] s (fun v s' => v = .bool (xs.any P) ∧ St.Gr s s')) := by
  refine C.fn S.h48 rfl ?_
  unfold v48
  dsimp only
  (repeat' (first | (refine NXt ?_; try intro K hK) | (refine hK _ _ ?_; clear hK; clear K; try refine PX ?_) | ((first | refine GC_case_t (fun hr => ?_) (fun hr => ?_) | refine GC_case_f (fun hr => ?_) (fun hr => ?_)) <;> (have h := hr; (try simp only [RH, reduceCtorEq] at h); simp (disch := first|exact DB|fail) only [hr, RB, ↓reduceIte, Nat.reduceEqDiff, reduceCtorEq, Nat.reduceLeDiff, Nat.reduceAdd, Int.reduceToNat, Nat.reduceLT]; clear hr) <;> (try (exfalso; omega))) | (refine X_callc rfl ?_; simp (disch := first|exact DB|fail) only [List.nil_append, List.append_nil, RB, ↓reduceIte, Nat.reduceEqDiff, reduceCtorEq, Nat.reduceLeDiff, Nat.reduceAdd, Int.reduceToNat, Nat.reduceLT]; refine D.mono_call (IndexFunc_spec S _ _ _ _ _ hL hl hf) ?_; rintro v s' ⟨⟨k, rfl, hk1, hk2⟩, δ, hδ, rfl⟩; (try simp only [NB] at hδ); refine ⟨by first | exact CK | (simp only [RC, Chk.ok, V.ent]; simp (disch := first|exact DB|fail) only [RT, RB, ↓reduceIte, Nat.reduceEqDiff, reduceCtorEq, Nat.reduceLeDiff, Nat.reduceAdd, Int.reduceToNat, Nat.reduceLT]), ?_⟩; try refine SBb ?_) | (show D _ (J.ops _ _ _ _); refine SBb ?_) | (refine T_app ?_; try refine SBb ?_) | (refine T_fork ?_ ?_) | (simp only [T_nil]) | (refine TS (fun h => ?_) (fun h => ?_) (hc := HCb) <;> (try simp only [RH, reduceCtorEq] at h) <;> (try (exfalso; omega))) | (show retR _ _ _ _ _; simp (disch := first|exact DB|fail) only [RR, RB, ↓reduceIte, Nat.reduceEqDiff, reduceCtorEq, Nat.reduceLeDiff, Nat.reduceAdd, Int.reduceToNat, Nat.reduceLT]) | exact rfl))
  refine ⟨?_, by (exact LEb)⟩
  congr 1
  rw [Bool.eq_iff_iff, decide_eq_true_eq, hk2, List.any_eq_true]

theorem lies1_spec (S : HS T) (p q : Int × Int) (o : Nat) (s : St) (ho : o < s.next) (hm : s.mem o = some (.obj [.int .i64 p.1, .int .i64 p.2])) : D T (.call 47 [sp q, .ptr o 0] s (fun v s' => v = .bool (decide (q.1 ≤ p.1 ∧ p.2 ≤ q.2)) ∧ St.Gr s s')) := by
  refine C.fn S.h47 rfl ?_
  unfold v47
  dsimp only
  ((have E := And.intro sp_def hm; (repeat' (first | (refine NXt ?_; try intro K hK) | (refine hK _ _ ?_; clear hK; clear K; try refine PX ?_) | ((first | refine GC_case_t (fun hr => ?_) (fun hr => ?_) | refine GC_case_f (fun hr => ?_) (fun hr => ?_)) <;> (have h := hr; (try simp only [RH, reduceCtorEq] at h); refine SHb ?_; clear hr) <;> (try (exfalso; omega))) | (show D _ (J.ops _ _ _ _); refine SEb ?_) | (refine T_app ?_; try refine SEb ?_) | (refine T_fork ?_ ?_) | (simp only [T_nil]) | (refine TS (fun h => ?_) (fun h => ?_) (hc := HEb) <;> (try simp only [RH, reduceCtorEq] at h) <;> (try (exfalso; omega))) | (show retR _ _ _ _ _; refine SRb ?_) | exact rfl))) <;> (try clear E))
  all_goals exact ⟨by congr 1; by_cases h1 : q.1 ≤ p.1 <;> by_cases h2 : p.2 ≤ q.2 <;> simp [h1, h2] <;> omega, by (exact LEb)⟩
theorem FnS.mono {s s1 : St} {f : V} {P : Int × Int → Bool} (h : FnS T s f P) (hl : St.Le s s1) : FnS T s1 f P := by
  obtain ⟨fid, fi, ca, rfl, hc⟩ := h
  exact ⟨fid, fi, ca, rfl, fun p s' hg => hc p s' ((hl.trans hg.le).gr)⟩
theorem lies_spec (S : HS T) (v : V) (xs : List (Int × Int)) (hL : IsL v (xs.map sp)) (hl : xs.length ≤ 100000) (p : Int × Int) (s : St) : D T (.call 46 [sp p, v] s (fun v s' => v = .bool (xs.any fun q => decide (q.1 ≤ p.1 ∧ p.2 ≤ q.2)) ∧ St.Gr s s')) := by
  refine C.fn S.h46 rfl ?_
  unfold v46
  dsimp only
  have hf : FnS T (s.new (.obj [.int .i64 p.1, .int .i64 p.2])) (.fn 47 [] [.ptr s.next 0]) (fun q => decide (q.1 ≤ p.1 ∧ p.2 ≤ q.2)) := by
    refine ⟨47, [], [.ptr s.next 0], rfl, fun q s' hg => ?_⟩
    obtain ⟨δ, hδ, rfl⟩ := hg
    (try simp only [NB] at hδ)
    exact lies1_spec S p q s.next _ (by ((first | exact SCb | refine SBb ?_)); omega) (by (first | exact SCb | refine SBb ?_))
  ((have E := sp_def; (repeat' (first | (refine NXt ?_; try intro K hK) | (refine hK _ _ ?_; clear hK; clear K; try refine PX ?_) | ((first | refine GC_case_t (fun hr => ?_) (fun hr => ?_) | refine GC_case_f (fun hr => ?_) (fun hr => ?_)) <;> (have h := hr; (try simp only [RH, reduceCtorEq] at h); refine SHb ?_; clear hr) <;> (try (exfalso; omega))) | (refine X_callc rfl ?_; refine SNb ?_; refine D.mono_call (ContainsFunc_spec S _ _ _ _ _ hL hl hf) ?_; rintro v s' ⟨rfl, δ, hδ, rfl⟩; (try simp only [NB] at hδ); refine ⟨by exact CEb, ?_⟩; try refine SEb ?_) | (show D _ (J.ops _ _ _ _); refine SEb ?_) | (refine T_app ?_; try refine SEb ?_) | (refine T_fork ?_ ?_) | (simp only [T_nil]) | (refine TS (fun h => ?_) (fun h => ?_) (hc := HEb) <;> (try simp only [RH, reduceCtorEq] at h) <;> (try (exfalso; omega))) | (show retR _ _ _ _ _; refine SRb ?_) | exact rfl))) <;> (try clear E))
  all_goals exact ⟨by simp, by (exact LEb)⟩

/-- The slice in the captured variable. -/
theorem Inside1_spec (S : HS T) (v : V) (xs : List (Int × Int)) (hL : IsL v (xs.map sp)) (hl : xs.length ≤ 100000) (p : Int × Int) (o : Nat) (s : St) (ho : o < s.next) (hm : s.mem o = some (.obj [v])) : D T (.call 27 [sp p, .ptr o 0] s (fun v s' => v = .bool (xs.any fun q => decide (q.1 ≤ p.1 ∧ p.2 ≤ q.2)) ∧ St.Gr s s')) := by
  refine C.fn S.h27 rfl ?_
  unfold v27
  dsimp only
  ((have E := And.intro sp_def hm; (repeat' (first | (refine NXt ?_; try intro K hK) | (refine hK _ _ ?_; clear hK; clear K; try refine PX ?_) | ((first | refine GC_case_t (fun hr => ?_) (fun hr => ?_) | refine GC_case_f (fun hr => ?_) (fun hr => ?_)) <;> (have h := hr; (try simp only [RH, reduceCtorEq] at h); refine SHb ?_; clear hr) <;> (try (exfalso; omega))) | (refine X_callc rfl ?_; refine SNb ?_; refine D.mono_call (lies_spec S _ _ hL hl p _) ?_; rintro v s' ⟨rfl, δ, hδ, rfl⟩; (try simp only [NB] at hδ); refine ⟨by exact CEb, ?_⟩; try refine SEb ?_) | (show D _ (J.ops _ _ _ _); refine SEb ?_) | (refine T_app ?_; try refine SEb ?_) | (refine T_fork ?_ ?_) | (simp only [T_nil]) | (refine TS (fun h => ?_) (fun h => ?_) (hc := HEb) <;> (try simp only [RH, reduceCtorEq] at h) <;> (try (exfalso; omega))) | (show retR _ _ _ _ _; refine SRb ?_) | exact rfl))) <;> (try clear E))
  exact ⟨trivial, by (exact LEb)⟩
theorem Intersect1_spec (S : HS T) (v : V) (xs : List (Int × Int)) (hL : IsL v (xs.map sp)) (hl : xs.length ≤ 100000) (p : Int × Int) (o : Nat) (s : St) (ho : o < s.next) (hm : s.mem o = some (.obj [v])) : D T (.call 25 [sp p, .ptr o 0] s (fun v s' => v = .bool (decide (p ∈ xs)) ∧ St.Gr s s')) := by
  refine C.fn S.h25 rfl ?_
  unfold v25
  dsimp only
  ((have E := And.intro sp_def hm; (repeat' (first | (refine NXt ?_; try intro K hK) | (refine hK _ _ ?_; clear hK; clear K; try refine PX ?_) | ((first | refine GC_case_t (fun hr => ?_) (fun hr => ?_) | refine GC_case_f (fun hr => ?_) (fun hr => ?_)) <;> (have h := hr; (try simp only [RH, reduceCtorEq] at h); refine SHb ?_; clear hr) <;> (try (exfalso; omega))) | (refine X_callc rfl ?_; refine SNb ?_; refine D.mono_call (Contains_spec S _ _ hL hl p _) ?_; rintro v s' ⟨rfl, δ, hδ, rfl⟩; (try simp only [NB] at hδ); refine ⟨by exact CEb, ?_⟩; try refine SEb ?_) | (show D _ (J.ops _ _ _ _); refine SEb ?_) | (refine T_app ?_; try refine SEb ?_) | (refine T_fork ?_ ?_) | (simp only [T_nil]) | (refine TS (fun h => ?_) (fun h => ?_) (hc := HEb) <;> (try simp only [RH, reduceCtorEq] at h) <;> (try (exfalso; omega))) | (show retR _ _ _ _ _; refine SRb ?_) | exact rfl))) <;> (try clear E))
  exact ⟨trivial, by (exact LEb)⟩
theorem Subtract1_spec (S : HS T) (v : V) (xs : List (Int × Int)) (hL : IsL v (xs.map sp)) (hl : xs.length ≤ 100000) (p : Int × Int) (o : Nat) (s : St) (ho : o < s.next) (hm : s.mem o = some (.obj [v])) : D T (.call 23 [sp p, .ptr o 0] s (fun v s' => v = .bool (!decide (p ∈ xs)) ∧ St.Gr s s')) := by
  refine C.fn S.h23 rfl ?_
  unfold v23
  dsimp only
  ((have E := And.intro sp_def hm; (repeat' (first | (refine NXt ?_; try intro K hK) | (refine hK _ _ ?_; clear hK; clear K; try refine PX ?_) | ((first | refine GC_case_t (fun hr => ?_) (fun hr => ?_) | refine GC_case_f (fun hr => ?_) (fun hr => ?_)) <;> (have h := hr; (try simp only [RH, reduceCtorEq] at h); refine SHb ?_; clear hr) <;> (try (exfalso; omega))) | (refine X_callc rfl ?_; refine SNb ?_; refine D.mono_call (Contains_spec S _ _ hL hl p _) ?_; rintro v s' ⟨rfl, δ, hδ, rfl⟩; (try simp only [NB] at hδ); refine ⟨by exact CEb, ?_⟩; try refine SEb ?_) | (show D _ (J.ops _ _ _ _); refine SEb ?_) | (refine T_app ?_; try refine SEb ?_) | (refine T_fork ?_ ?_) | (simp only [T_nil]) | (refine TS (fun h => ?_) (fun h => ?_) (hc := HEb) <;> (try simp only [RH, reduceCtorEq] at h) <;> (try (exfalso; omega))) | (show retR _ _ _ _ _; refine SRb ?_) | exact rfl))) <;> (try clear E))
  exact ⟨trivial, by (exact LEb)⟩
/-- keep's own function: the other's answer turned round. -/
theorem keep1_spec (S : HS T) (f : V) (P : Int × Int → Bool) (p : Int × Int) (o : Nat) (s : St) (ho : o < s.next) (hm : s.mem o = some (.obj [f])) (hf : FnS T s f P) : D T (.call 39 [sp p, .ptr o 0] s (fun v s' => v = .bool (!P p) ∧ St.Gr s s')) := by
  obtain ⟨fid, fi, ca, rfl, hcall⟩ := hf
  refine C.fn S.h39 rfl ?_
  unfold v39
  dsimp only
  ((have E := And.intro sp_def hm; (repeat' (first | (refine NXt ?_; try intro K hK) | (refine hK _ _ ?_; clear hK; clear K; try refine PX ?_) | ((first | refine GC_case_t (fun hr => ?_) (fun hr => ?_) | refine GC_case_f (fun hr => ?_) (fun hr => ?_)) <;> (have h := hr; (try simp only [RH, reduceCtorEq] at h); refine SHb ?_; clear hr) <;> (try (exfalso; omega))) | (refine X_callc rfl ?_; refine SNb ?_; refine D.mono_call (hcall p _ (by (exact LEb))) ?_; rintro v s' ⟨rfl, δ2, hδ2, rfl⟩; (try simp only [NB] at hδ); refine ⟨by exact CEb, ?_⟩; try refine SEb ?_) | (show D _ (J.ops _ _ _ _); refine SEb ?_) | (refine T_app ?_; try refine SEb ?_) | (refine T_fork ?_ ?_) | (simp only [T_nil]) | (refine TS (fun h => ?_) (fun h => ?_) (hc := HEb) <;> (try simp only [RH, reduceCtorEq] at h) <;> (try (exfalso; omega))) | (show retR _ _ _ _ _; refine SRb ?_) | exact rfl))) <;> (try clear E))
  exact ⟨trivial, by (exact LEb)⟩
end Go.VS.Fn

namespace Go.VS.Fn
open Go.VS
variable {T : Nat → Option FnDef}

/-- A row of spans that is newer than S0: the slice's own, what lies behind. -/
structure PR (S0 s : St) (v : V) (xs : List (Int × Int)) : Prop where
  row : (v = .nilsl ∧ xs = []) ∨ ∃ r ys, v = .row r 2 0 xs.length ∧ r < s.next ∧ S0.next ≤ r ∧ s.mem r = some (.row ((xs ++ ys : List (Int × Int)).map sp)) ∧ (xs ++ ys).length ≤ 100000
  le : St.Le S0 s
theorem PR.len {S0 s : St} {v : V} {xs : List (Int × Int)} (h : PR S0 s v xs) : lenV v = some xs.length := by
  rcases h.row with ⟨rfl, rfl⟩ | ⟨r, ys, rfl, _⟩ <;> rfl
theorem PR.notStr {S0 s : St} {v : V} {xs : List (Int × Int)} (h : PR S0 s v xs) : v.isStr = false := by
  rcases h.row with ⟨rfl, rfl⟩ | ⟨r, ys, rfl, _⟩ <;> rfl
theorem PR.lim {S0 s : St} {v : V} {xs : List (Int × Int)} (h : PR S0 s v xs) : xs.length ≤ 100000 := by
  rcases h.row with ⟨rfl, rfl⟩ | ⟨r, ys, rfl, _, _, _, h⟩
  · simp
  · simp at h; omega
theorem PR.over_ {S0 s δ : St} {v : V} {xs : List (Int × Int)} (h : PR S0 s v xs) (hd : s.next ≤ δ.next) : PR S0 (s.over δ) v xs := by
  refine ⟨?_, St.Le.over_ h.le hd⟩
  rcases h.row with h1 | ⟨r, ys, rfl, h2, h3, h4, h5⟩
  · exact .inl h1
  · exact .inr ⟨r, ys, rfl, by rw [next_over]; omega, h3, by rw [mem_over h2]; exact h4, h5⟩
theorem PR.new_ {S0 s : St} {e : Ent} {v : V} {xs : List (Int × Int)} (h : PR S0 s v xs) : PR S0 (s.new e) v xs := by
  refine ⟨?_, h.le.new_⟩
  rcases h.row with h1 | ⟨r, ys, rfl, h2, h3, h4, h5⟩
  · exact .inl h1
  · exact .inr ⟨r, ys, rfl, by rw [nx_new]; omega, h3, by rw [mem_new_ne (by omega)]; exact h4, h5⟩

theorem IndexFuncR_spec (S : HS T) {S0 : St} (v : V) (xs : List (Int × Int)) (f : V) (P : Int × Int → Bool) (s : St) (hR : PR S0 s v xs) (hf : FnS T S0 f P) : D T (.call 58 [v, f] s (fun v s' => (∃ k : Int, v = .int .i64 k ∧ ((k = -1 ∧ ∀ p ∈ xs, P p = false) ∨ ∃ i : Nat, ∃ h : i < xs.length, k = i ∧ P xs[i] = true ∧ ∀ p ∈ xs.take i, P p = false)) ∧ St.Gr s s')) := by
  obtain ⟨fid, fi, ca, rfl, hcall⟩ := hf
  have hlen := hR.len
  have hlim := hR.lim
  refine C.fn S.h58 rfl ?_
  unfold v58
  dsimp only
  ((have E := And.intro hlen hR.notStr; (repeat' (first | (refine NXt ?_; try intro K hK) | (refine hK _ _ ?_; clear hK; clear K; try refine PX ?_) | ((first | refine GC_case_t (fun hr => ?_) (fun hr => ?_) | refine GC_case_f (fun hr => ?_) (fun hr => ?_)) <;> (have h := hr; (try simp only [RH, reduceCtorEq] at h); refine SHb ?_; clear hr) <;> (try (exfalso; omega))) | (show D _ (J.ops _ _ _ _); refine SEb ?_) | (refine T_app ?_; try refine SEb ?_) | (refine T_fork ?_ ?_) | (simp only [T_nil]) | (refine TS (fun h => ?_) (fun h => ?_) (hc := HEb) <;> (try simp only [RH, reduceCtorEq] at h) <;> (try (exfalso; omega))) | (show retR _ _ _ _ _; refine SRb ?_) | exact rfl))) <;> (try clear E))
  refine W.seq (W.rangeG (N := xs.length) (fun k F' s' => ∀ p ∈ xs.take k, P p = false) IB IB (by omega) rfl ST (by simp) ?_ ?_)
  · rintro k F δ hk hfr hi hδ hI
    rcases hR.row with ⟨rfl, rfl⟩ | ⟨r, ys, rfl, hr, hr0, hm, hlm⟩
    · simp at hk
    have hget : ((xs ++ ys : List (Int × Int)).map sp)[k]? = some (sp xs[k]) := by simp [List.getElem?_append_left, hk]
    ((have E := And.intro hfr (And.intro hi (And.intro hm (And.intro hget sp_def))); (repeat' (first | (refine NXt ?_; try intro K hK) | (refine hK _ _ ?_; clear hK; clear K; try refine PX ?_) | ((first | refine GC_case_t (fun hr => ?_) (fun hr => ?_) | refine GC_case_f (fun hr => ?_) (fun hr => ?_)) <;> (have h := hr; (try simp only [RH, reduceCtorEq] at h); refine SHb ?_; clear hr) <;> (try (exfalso; omega))) | (refine X_callc rfl ?_; refine SNb ?_; refine D.mono_call (hcall xs[k] _ ((hR.le.trans (St.Gr.le ⟨δ, hδ, rfl⟩)).gr)) ?_; rintro v s' ⟨rfl, δ2, hδ2, rfl⟩; (try simp only [NB] at hδ); refine ⟨by exact CEb, ?_⟩; try refine SEb ?_) | (show D _ (J.ops _ _ _ _); refine SEb ?_) | (refine T_app ?_; try refine SEb ?_) | (refine T_fork ?_ ?_) | (simp only [T_nil]) | (refine TS (fun h => ?_) (fun h => ?_) (hc := HEb) <;> (try simp only [RH, reduceCtorEq] at h) <;> (try (exfalso; omega))) | (show retR _ _ _ _ _; refine SRb ?_) | exact rfl))) <;> (try clear E))
    · refine ⟨⟨k, rfl, .inr ⟨k, hk, rfl, by assumption, hI⟩⟩, by (exact LEb)⟩
    · refine ⟨by (exact LEb), fun p hp => ?_⟩
      rw [List.take_succ_eq_append_getElem hk] at hp
      rcases List.mem_append.1 hp with h1 | h1
      · exact hI p h1
      · rw [List.mem_singleton.1 h1]; assumption
  · rintro F δ hfr hδ hI
    rw [List.take_length] at hI
    ((have E := hfr; (repeat' (first | (refine NXt ?_; try intro K hK) | (refine hK _ _ ?_; clear hK; clear K; try refine PX ?_) | ((first | refine GC_case_t (fun hr => ?_) (fun hr => ?_) | refine GC_case_f (fun hr => ?_) (fun hr => ?_)) <;> (have h := hr; (try simp only [RH, reduceCtorEq] at h); refine SHb ?_; clear hr) <;> (try (exfalso; omega))) | (show D _ (J.ops _ _ _ _); refine SEb ?_) | (refine T_app ?_; try refine SEb ?_) | (refine T_fork ?_ ?_) | (simp only [T_nil]) | (refine TS (fun h => ?_) (fun h => ?_) (hc := HEb) <;> (try simp only [RH, reduceCtorEq] at h) <;> (try (exfalso; omega))) | (show retR _ _ _ _ _; refine SRb ?_) | exact rfl))) <;> (try clear E))
    exact ⟨⟨-1, rfl, .inl ⟨rfl, hI⟩⟩, by (exact LEb)⟩

theorem clear_row {s : St} {k i off len : Nat} {z : V} : clearV k z (.row i k off len) s = match s.mem i with | some (.row xs) => (if off + len ≤ xs.length then some (V.undef, s.set i (.row (xs.take off ++ List.replicate len z ++ xs.drop (off + len)))) else none) | _ => none := by
  simp only [clearV]
  cases h : s.mem i with
  | none => rfl
  | some e =>
    cases e with
    | row xs => by_cases hl : off + len ≤ xs.length <;> simp [hl]
    | _ => rfl
theorem clear_nil {s : St} {k : Nat} {z : V} : clearV k z .nilsl s = some (V.undef, s) := rfl

set_option maxHeartbeats 2000000 in
theorem DeleteFunc_spec (S : HS T) {S0 : St} (v : V) (xs : List (Int × Int)) (f : V) (P : Int × Int → Bool) (s : St) (hR : PR S0 s v xs) (hf : FnS T S0 f P) : D T (.call 40 [v, f] s (fun v s' => PR S0 s' v (xs.filter fun p => !P p) ∧ s.next ≤ s'.next)) := by
  obtain ⟨fid, fi, ca, rfl, hcall⟩ := id hf
  have hlim := hR.lim
  refine C.fn S.h40 rfl ?_
  unfold v40
  dsimp only
  (repeat' (first | (refine NXt ?_; try intro K hK) | (refine hK _ _ ?_; clear hK; clear K; try refine PX ?_) | ((first | refine GC_case_t (fun hr => ?_) (fun hr => ?_) | refine GC_case_f (fun hr => ?_) (fun hr => ?_)) <;> (have h := hr; (try simp only [RH, reduceCtorEq] at h); simp (disch := first|exact DB|fail) only [hr, RB, ↓reduceIte, Nat.reduceEqDiff, reduceCtorEq, Nat.reduceLeDiff, Nat.reduceAdd, Int.reduceToNat, Nat.reduceLT]; clear hr) <;> (try (exfalso; omega))) | (refine X_callc rfl ?_; simp (disch := first|exact DB|fail) only [List.nil_append, List.append_nil, RB, ↓reduceIte, Nat.reduceEqDiff, reduceCtorEq, Nat.reduceLeDiff, Nat.reduceAdd, Int.reduceToNat, Nat.reduceLT]; refine D.mono_call (IndexFuncR_spec S _ _ _ _ _ hR hf) ?_; rintro v s' ⟨⟨k, rfl, hk⟩, δ, hδ, rfl⟩; (try simp only [NB] at hδ); refine ⟨by first | exact CK | (simp only [RC, Chk.ok, V.ent]; simp (disch := first|exact DB|fail) only [RT, RB, ↓reduceIte, Nat.reduceEqDiff, reduceCtorEq, Nat.reduceLeDiff, Nat.reduceAdd, Int.reduceToNat, Nat.reduceLT]), ?_⟩; try refine SBb ?_) | (show D _ (J.ops _ _ _ _); refine SBb ?_) | (refine T_app ?_; try refine SBb ?_) | (refine T_fork ?_ ?_) | (simp only [T_nil]) | (refine TS (fun h => ?_) (fun h => ?_) (hc := HCb) <;> (try simp only [RH, reduceCtorEq] at h) <;> (try (exfalso; omega))) | (show retR _ _ _ _ _; simp (disch := first|exact DB|fail) only [RR, RB, ↓reduceIte, Nat.reduceEqDiff, reduceCtorEq, Nat.reduceLeDiff, Nat.reduceAdd, Int.reduceToNat, Nat.reduceLT]) | exact rfl))
  · rcases hk with ⟨_, hno⟩ | ⟨i, hi, hki, _⟩
    · have e : xs.filter (fun p => !P p) = xs := by
        rw [List.filter_eq_self]; intro p hp; rw [hno p hp]; rfl
      rw [e]
      exact ⟨hR.over_ hδ, by first | omega | (((first | exact SCb | refine SBb ?_)) <;> omega)⟩
    · omega
  · rcases hk with ⟨h1, _⟩ | ⟨i, hi, rfl, hPi, hno⟩
    · contradiction
    rcases hR.row with ⟨rfl, rfl⟩ | ⟨r, ys, rfl, hr, hr0, hm, hlm⟩
    · simp at hi
    (try simp only [NB] at hδ)
    refine W.seq (W.bloop (fun n F' s' => ∃ (j i' : Nat) (L : List (Int × Int)), n = xs.length - j ∧ F' 6 = .int .i64 j ∧ F' 5 = .int .i64 i' ∧ i' < j ∧ j ≤ xs.length ∧ L.length = (xs ++ ys).length ∧ L.take i' = (xs.take j).filter (fun p => !P p) ∧ L.drop j = (xs ++ ys).drop j ∧ s'.mem r = some (.row (L.map sp)) ∧ St.Le S0 s' ∧ r < s'.next ∧ s.next ≤ s'.next) (xs.length - (i + 1)) ⟨i + 1, i, xs ++ ys, rfl, by ((first | exact SCb | refine SBb ?_)) <;> (congr 1 <;> omega), IB, by omega, by omega, rfl, ?_, rfl, by ((have E := hm; first | exact SXb | refine SEb ?_) <;> (try clear E)), St.Le.over_ hR.le hδ, by first | omega | (((first | exact SCb | refine SBb ?_)) <;> omega), by first | omega | (((first | exact SCb | refine SBb ?_)) <;> omega)⟩ ?_)
    · rw [List.take_append_of_le_length (by omega), List.take_succ_eq_append_getElem hi, List.filter_append, List.filter_eq_self.2 (fun p hp => by rw [hno p hp]; rfl)]
      simp [hPi]
    rintro n F' s2 hfr ⟨j, i', L, rfl, h6, h5, hij, hj, hLl, hLt, hLd, hm2, hle2, hr2, hn2⟩
    by_cases hjl : j < xs.length
    · have hgj : L[j]? = some xs[j] := by
        have := congrArg (fun l => l[0]?) hLd
        simpa [List.getElem?_drop, List.getElem?_append_left, hjl] using this
      have hget : (L.map sp)[j]? = some (sp xs[j]) := by rw [List.getElem?_map, hgj]; rfl
      have hLl2 : (L.map sp).length = (xs ++ ys).length := by rw [List.length_map, hLl]
      obtain ⟨q, hq⟩ : ∃ q, (L.map sp)[i']? = some (sp q) := by
        rw [List.getElem?_map, List.getElem?_eq_getElem (by rw [hLl]; simp; omega)]; exact ⟨_, rfl⟩
      ((have E := And.intro hfr (And.intro h6 (And.intro h5 (And.intro hm2 (And.intro hget (And.intro hq sp_def))))); (repeat' (first | (refine NXt ?_; try intro K hK) | (refine hK _ _ ?_; clear hK; clear K; try refine PX ?_) | ((first | refine GC_case_t (fun hr => ?_) (fun hr => ?_) | refine GC_case_f (fun hr => ?_) (fun hr => ?_)) <;> (have h := hr; (try simp only [RH, reduceCtorEq] at h); refine SHb ?_; clear hr) <;> (try (exfalso; omega))) | (refine X_callc rfl ?_; refine SNb ?_; refine D.mono_call (hcall xs[j] _ ((hle2.trans (by (exact LEb))).gr)) ?_; rintro v s' ⟨rfl, δ3, hδ, rfl⟩; (try simp only [NB] at hδ); refine ⟨by exact CEb, ?_⟩; try refine SEb ?_) | (show D _ (J.ops _ _ _ _); refine SEb ?_) | (refine T_app ?_; try refine SEb ?_) | (refine T_fork ?_ ?_) | (simp only [T_nil]) | (refine TS (fun h => ?_) (fun h => ?_) (hc := HEb) <;> (try simp only [RH, reduceCtorEq] at h) <;> (try (exfalso; omega))) | (show retR _ _ _ _ _; refine SRb ?_) | exact rfl))) <;> (try clear E))
      · have hle2n := hle2.1
        refine ⟨xs.length - (j + 1), by omega, j + 1, i' + 1, L.set i' xs[j], rfl, by ((first | exact SCb | refine SBb ?_)) <;> (congr 1 <;> omega), by ((first | exact SCb | refine SBb ?_)) <;> (congr 1 <;> omega), by omega, by omega, by simp [hLl], ?_, ?_, by rw [List.map_set]; exact (by have E := And.intro hm2 sp_def; exact IEb), by (exact LEb), by first | omega | (((first | exact SCb | refine SBb ?_)) <;> omega), by first | omega | (((first | exact SCb | refine SBb ?_)) <;> omega)⟩
        · have hPj : P xs[j] = false := by assumption
          rw [List.take_succ_eq_append_getElem hjl, List.filter_append, ← hLt, List.take_succ_eq_append_getElem (by rw [List.length_set, hLl]; simp; omega), List.take_set_of_le (by omega)]
          simp [hPj]
        · rw [List.drop_set_of_lt (by omega), ← List.drop_drop, ← List.drop_drop, hLd]
      · have hle2n := hle2.1
        refine ⟨xs.length - (j + 1), by omega, j + 1, i', L, rfl, by ((first | exact SCb | refine SBb ?_)) <;> (congr 1 <;> omega), (by have E := h5; exact IEb), by omega, by omega, hLl, ?_, ?_, (by have E := hm2; exact IEb), by (exact LEb), by first | omega | (((first | exact SCb | refine SBb ?_)) <;> omega), by first | omega | (((first | exact SCb | refine SBb ?_)) <;> omega)⟩
        · have hPj : P xs[j] = true := by assumption
          rw [List.take_succ_eq_append_getElem hjl, List.filter_append, ← hLt]
          simp [hPj]
        · rw [← List.drop_drop, ← List.drop_drop, hLd]
    · obtain rfl : j = xs.length := by omega
      rw [List.take_length] at hLt
      have hfl : (xs.filter fun p => !P p).length = i' := by
        rw [← hLt, List.length_take]; simp at hLl; omega
      have hmx : i' + (xs.length - i') ≤ L.length := by rw [hLl]; simp; omega
      (repeat' (first | (refine NXt ?_; try intro K hK) | (refine hK _ _ ?_; clear hK; clear K; try refine PX ?_) | ((first | refine GC_case_t (fun hr => ?_) (fun hr => ?_) | refine GC_case_f (fun hr => ?_) (fun hr => ?_)) <;> (have h := hr; (try simp only [RH, reduceCtorEq] at h); simp (disch := first|exact DB|fail) only [hr, RB, ↓reduceIte, Nat.reduceEqDiff, reduceCtorEq, Nat.reduceLeDiff, Nat.reduceAdd, Int.reduceToNat, Nat.reduceLT, hfr, h6, h5, hm2, clear_row, hmx]; clear hr) <;> (try (exfalso; omega))) | (show D _ (J.ops _ _ _ _); simp (disch := first|exact DB|fail) only [RB, ↓reduceIte, Nat.reduceEqDiff, reduceCtorEq, Nat.reduceLeDiff, Nat.reduceAdd, Int.reduceToNat, Nat.reduceLT, hfr, h6, h5, hm2, clear_row, hmx]) | (refine T_app ?_; try simp (disch := first|exact DB|fail) only [RB, ↓reduceIte, Nat.reduceEqDiff, reduceCtorEq, Nat.reduceLeDiff, Nat.reduceAdd, Int.reduceToNat, Nat.reduceLT, hfr, h6, h5, hm2, clear_row, hmx]) | (refine T_fork ?_ ?_) | (simp only [T_nil]) | (refine TS (fun h => ?_) (fun h => ?_) (hc := by (simp (disch := first|exact DB|fail) only [RB, ↓reduceIte, Nat.reduceEqDiff, reduceCtorEq, Nat.reduceLeDiff, Nat.reduceAdd, Int.reduceToNat, Nat.reduceLT, hfr, h6, h5, hm2, clear_row, hmx]) <;> rfl) <;> (try simp only [RH, reduceCtorEq] at h) <;> (try (exfalso; omega))) | (show retR _ _ _ _ _; simp (disch := first|exact DB|fail) only [RR, RB, ↓reduceIte, Nat.reduceEqDiff, reduceCtorEq, Nat.reduceLeDiff, Nat.reduceAdd, Int.reduceToNat, Nat.reduceLT, hfr, h6, h5, hm2, clear_row, hmx]) | exact rfl))
      refine ⟨⟨.inr ⟨r, List.replicate (xs.length - i') (0, 0) ++ L.drop (i' + (xs.length - i')), by rw [hfl], by first | omega | (((first | exact SCb | refine SBb ?_)) <;> omega), hr0, ?_, ?_⟩, by (exact LEb)⟩, by first | omega | (((first | exact SCb | refine SBb ?_)) <;> omega)⟩
      · rw [← hLt, List.map_append, List.map_append, List.map_take, List.map_drop, List.map_replicate, ← List.append_assoc]
        exact (by have E := And.intro hm2 sp_def; exact IEb)
      · rw [← hLt]
        simp only [List.length_append, List.length_replicate, List.length_drop, List.length_take] at hlm hLl ⊢
        omega
end Go.VS.Fn

namespace Go.VS.Fn
open Go.VS
variable {T : Nat → Option FnDef}

/-- A list without what equals its neighbour before it. -/
def dd (l : List (Int × Int)) : List (Int × Int) := l.foldl (fun acc x => if acc.getLast? = some x then acc else acc ++ [x]) []
theorem dd_snoc (l : List (Int × Int)) (x : Int × Int) : dd (l ++ [x]) = if (dd l).getLast? = some x then dd l else dd l ++ [x] := by
  simp only [dd, List.foldl_append, List.foldl_cons, List.foldl_nil]
  rfl
theorem snoc_ind {P : List (Int × Int) → Prop} (h0 : P []) (h1 : ∀ l x, P l → P (l ++ [x])) (l : List (Int × Int)) : P l := by
  have h : ∀ m : List (Int × Int), P m.reverse := fun m => by
    induction m with
    | nil => exact h0
    | cons x r ih => rw [List.reverse_cons]; exact h1 _ _ ih
  have := h l.reverse
  rwa [List.reverse_reverse] at this
theorem dd_last (l : List (Int × Int)) : (dd l).getLast? = l.getLast? := by
  induction l using snoc_ind with
  | h0 => rfl
  | h1 l x ih =>
    rw [dd_snoc]
    split
    · rename_i h; rw [h]; simp
    · simp
theorem dd_mem (l : List (Int × Int)) (p : Int × Int) : p ∈ dd l ↔ p ∈ l := by
  induction l using snoc_ind with
  | h0 => exact Iff.rfl
  | h1 l x ih =>
    rw [dd_snoc]
    split
    · rename_i h
      rw [ih]
      refine ⟨fun h => by simp [h], fun h' => ?_⟩
      rcases List.mem_append.1 h' with h1 | h1
      · exact h1
      · obtain rfl := List.mem_singleton.1 h1; exact ih.1 (List.mem_of_getLast? h)
    · simp [ih]
theorem dd_len (l : List (Int × Int)) : (dd l).length ≤ l.length := by
  induction l using snoc_ind with
  | h0 => exact Nat.le_refl _
  | h1 l x ih =>
    rw [dd_snoc]
    split <;> simp <;> omega
theorem take_last {l : List (Int × Int)} {j : Nat} (h1 : 1 ≤ j) (hj : j ≤ l.length) : (l.take j).getLast? = some (l[j - 1]'(by omega)) := by
  obtain ⟨i, rfl⟩ : ∃ i, j = i + 1 := ⟨j - 1, by omega⟩
  rw [List.take_succ_eq_append_getElem (by omega), List.getLast?_append]
  rfl
theorem dd_succ {l : List (Int × Int)} {j : Nat} (h1 : 1 ≤ j) (hj : j < l.length) : dd (l.take (j + 1)) = if l[j - 1]'(by omega) = l[j] then dd (l.take j) else dd (l.take j) ++ [l[j]] := by
  rw [List.take_succ_eq_append_getElem hj, dd_snoc, dd_last, take_last h1 (by omega)]
  simp

set_option maxHeartbeats 2000000 in
theorem Compact_spec (S : HS T) {S0 : St} (v : V) (xs : List (Int × Int)) (s : St) (hR : PR S0 s v xs) : D T (.call 45 [v] s (fun v s' => PR S0 s' v (dd xs) ∧ s.next ≤ s'.next)) := by
  have hlim := hR.lim
  have hlen := hR.len
  refine C.fn S.h45 rfl ?_
  unfold v45
  dsimp only
  ((have E := And.intro hlen hR.notStr; (repeat' (first | (refine NXt ?_; try intro K hK) | (refine hK _ _ ?_; clear hK; clear K; try refine PX ?_) | ((first | refine GC_case_t (fun hr => ?_) (fun hr => ?_) | refine GC_case_f (fun hr => ?_) (fun hr => ?_)) <;> (have h := hr; (try simp only [RH, reduceCtorEq] at h); refine SHb ?_; clear hr) <;> (try (exfalso; omega))) | (show D _ (J.ops _ _ _ _); refine SEb ?_) | (refine T_app ?_; try refine SEb ?_) | (refine T_fork ?_ ?_) | (simp only [T_nil]) | (refine TS (fun h => ?_) (fun h => ?_) (hc := HEb) <;> (try simp only [RH, reduceCtorEq] at h) <;> (try (exfalso; omega))) | (show retR _ _ _ _ _; refine SRb ?_) | exact rfl))) <;> (try clear E))
  · refine ⟨?_, by first | trivial | omega⟩
    have e : dd xs = xs := by
      match xs, (show xs.length < 2 by omega) with
      | [], _ => rfl
      | [x], _ => rfl
    rw [e]; exact hR
  rcases hR.row with ⟨rfl, rfl⟩ | ⟨r, ys, rfl, hr, hr0, hm, hlm⟩
  · simp at *
  refine W.seq (W.bloop0 (fun n F' => ∃ k : Nat, n = xs.length - k ∧ 1 ≤ k ∧ k ≤ xs.length ∧ F' 3 = .int .i64 k ∧ dd (xs.take k) = xs.take k) (xs.length - 1) ⟨1, rfl, by omega, by omega, IB, ?_⟩ ?_)
  · match xs with
    | [] => rfl
    | x :: r => rfl
  rintro n F hfr ⟨k, rfl, hk1, hk, h3, hdd⟩
  by_cases hkl : k < xs.length
  · have hget : ∀ j, (h : j < xs.length) → ((xs ++ ys : List (Int × Int)).map sp)[j]? = some (sp xs[j]) := fun j h => by simp [List.getElem?_append_left, h]
    have g1 := hget k hkl
    have g2 := hget (k - 1) (by omega)
    have ei : ∀ kk : IntKind, idxV 2 (.row r 2 0 xs.length) (.int kk ((k : Int) - 1)) = some (.eptr r 2 (k - 1) 0) := fun kk => by
      have := ix_rowi (k := 2) (r' := r) (off := 0) (len := xs.length) (x := (k : Int) - 1) (kk := kk) (by omega) (by omega)
      rw [this]; congr 2; omega
    ((have E := And.intro hfr (And.intro h3 (And.intro hm (And.intro g1 (And.intro g2 (And.intro ei sp_def))))); (repeat' (first | (refine NXt ?_; try intro K hK) | (refine hK _ _ ?_; clear hK; clear K; try refine PX ?_) | ((first | refine GC_case_t (fun hr => ?_) (fun hr => ?_) | refine GC_case_f (fun hr => ?_) (fun hr => ?_)) <;> (have h := hr; (try simp only [RH, reduceCtorEq] at h); refine SHb ?_; clear hr) <;> (try (exfalso; omega))) | (show D _ (J.ops _ _ _ _); refine SEb ?_) | (refine T_app ?_; try refine SEb ?_) | (refine T_fork ?_ ?_) | (simp only [T_nil]) | (refine TS (fun h => ?_) (fun h => ?_) (hc := HEb) <;> (try simp only [RH, reduceCtorEq] at h) <;> (try (exfalso; omega))) | (show retR _ _ _ _ _; refine SRb ?_) | exact rfl))) <;> (try clear E))
    · have heq : xs[k - 1] = xs[k] := by apply Prod.ext <;> simp_all
      refine W.seq (W.bloop (fun n F' s' => ∃ (k2 kw : Nat) (L : List (Int × Int)), n = xs.length - (k + k2) ∧ F' 5 = .int .i64 k2 ∧ F' 3 = .int .i64 kw ∧ 1 ≤ k2 ∧ k + k2 ≤ xs.length ∧ kw + 1 ≤ k + k2 ∧ L.length = (xs ++ ys).length ∧ L.take kw = dd (xs.take (k + k2)) ∧ L.drop (k + k2 - 1) = (xs ++ ys).drop (k + k2 - 1) ∧ s'.mem r = some (.row (L.map sp)) ∧ St.Le S0 s' ∧ r < s'.next ∧ s.next ≤ s'.next) (xs.length - (k + 1)) ⟨1, k, xs ++ ys, rfl, IB, (by have E := h3; exact IEb), by omega, by omega, by omega, rfl, ?_, rfl, hm, hR.le, hr, by omega⟩ ?_)
      · rw [dd_succ hk1 hkl, if_pos heq, hdd, List.take_append_of_le_length (by omega)]
      rintro n F2 s2 hfr2 ⟨k2, kw, L, rfl, h5, h3', hk21, hk22, hkw, hLl, hLt, hLd, hm2, hle2, hr2, hn2⟩
      by_cases hk2l : k + k2 < xs.length
      · have hgL : ∀ j, k + k2 - 1 ≤ j → (h : j < xs.length) → (L.map sp)[j]? = some (sp xs[j]) := fun j hj h => by
          have := congrArg (fun l => l[j - (k + k2 - 1)]?) hLd
          simp only [List.getElem?_drop] at this
          rw [show k + k2 - 1 + (j - (k + k2 - 1)) = j by omega, List.getElem?_append_left h, List.getElem?_eq_getElem h] at this
          rw [List.getElem?_map, this]; rfl
        have g1' := hgL (k + k2) (by omega) hk2l
        have g2' := hgL (k + k2 - 1) (by omega) (by omega)
        obtain ⟨q, hq⟩ : ∃ q, (L.map sp)[kw]? = some (sp q) := by
          rw [List.getElem?_map, List.getElem?_eq_getElem (by rw [hLl]; simp; omega)]; exact ⟨_, rfl⟩
        have ei2 : ∀ kk : IntKind, idxV 2 (.row r 2 k (xs.length - k)) (.int kk ((k2 : Int) - 1)) = some (.eptr r 2 (k + k2 - 1) 0) := fun kk => by
          have := ix_rowi (k := 2) (r' := r) (off := k) (len := xs.length - k) (x := (k2 : Int) - 1) (kk := kk) (by omega) (by omega)
          rw [this]; congr 2; omega
        ((have E := And.intro hfr2 (And.intro hfr (And.intro h3' (And.intro h5 (And.intro hm2 (And.intro g1' (And.intro g2' (And.intro hq (And.intro ei2 sp_def)))))))); (repeat' (first | (refine NXt ?_; try intro K hK) | (refine hK _ _ ?_; clear hK; clear K; try refine PX ?_) | ((first | refine GC_case_t (fun hr => ?_) (fun hr => ?_) | refine GC_case_f (fun hr => ?_) (fun hr => ?_)) <;> (have h := hr; (try simp only [RH, reduceCtorEq] at h); refine SHb ?_; clear hr) <;> (try (exfalso; omega))) | (show D _ (J.ops _ _ _ _); refine SEb ?_) | (refine T_app ?_; try refine SEb ?_) | (refine T_fork ?_ ?_) | (simp only [T_nil]) | (refine TS (fun h => ?_) (fun h => ?_) (hc := HEb) <;> (try simp only [RH, reduceCtorEq] at h) <;> (try (exfalso; omega))) | (show retR _ _ _ _ _; refine SRb ?_) | exact rfl))) <;> (try clear E))
        · have hne : xs[k + k2 - 1] ≠ xs[k + k2] := fun e => h ⟨(congrArg Prod.fst e).symm, (congrArg Prod.snd e).symm⟩
          refine ⟨xs.length - (k + (k2 + 1)), by omega, k2 + 1, kw + 1, L.set kw xs[k + k2], rfl, by ((first | exact SCb | refine SBb ?_)) <;> (congr 1 <;> omega), by ((first | exact SCb | refine SBb ?_)) <;> (congr 1 <;> omega), by omega, by omega, by omega, by simp [hLl], ?_, ?_, by rw [List.map_set]; exact (by have E := And.intro hm2 sp_def; exact IEb), by (exact LEb), by first | omega | (((first | exact SCb | refine SBb ?_)) <;> omega), by first | omega | (((first | exact SCb | refine SBb ?_)) <;> omega)⟩
          · have := dd_succ (l := xs) (j := k + k2) (by omega) hk2l
            rw [if_neg hne] at this
            rw [← Nat.add_assoc, this, ← hLt, List.take_succ_eq_append_getElem (by rw [List.length_set, hLl]; simp; omega), List.take_set_of_le (by omega)]
            simp
          · rw [show k + (k2 + 1) - 1 = k + k2 - 1 + 1 by omega, List.drop_set_of_lt (by omega), ← List.drop_drop, ← List.drop_drop, hLd]
        · have heq2 : xs[k + k2 - 1] = xs[k + k2] := by apply Prod.ext <;> simp_all
          refine ⟨xs.length - (k + (k2 + 1)), by omega, k2 + 1, kw, L, rfl, by ((first | exact SCb | refine SBb ?_)) <;> (congr 1 <;> omega), (by have E := h3'; exact IEb), by omega, by omega, by omega, hLl, ?_, ?_, hm2, hle2, hr2, hn2⟩
          · have := dd_succ (l := xs) (j := k + k2) (by omega) hk2l
            rw [if_pos heq2] at this
            rw [← Nat.add_assoc, this, ← hLt]
          · rw [show k + (k2 + 1) - 1 = k + k2 - 1 + 1 by omega, ← List.drop_drop, ← List.drop_drop, hLd]
      · have hkk : k + k2 = xs.length := by omega
        rw [hkk, List.take_length] at hLt
        have hdl : (dd xs).length = kw := by
          rw [← hLt, List.length_take]; simp at hLl; omega
        have hmx : kw + (xs.length - kw) ≤ L.length := by rw [hLl]; simp; omega
        (repeat' (first | (refine NXt ?_; try intro K hK) | (refine hK _ _ ?_; clear hK; clear K; try refine PX ?_) | ((first | refine GC_case_t (fun hr => ?_) (fun hr => ?_) | refine GC_case_f (fun hr => ?_) (fun hr => ?_)) <;> (have h := hr; (try simp only [RH, reduceCtorEq] at h); simp (disch := first|exact DB|fail) only [hr, RB, ↓reduceIte, Nat.reduceEqDiff, reduceCtorEq, Nat.reduceLeDiff, Nat.reduceAdd, Int.reduceToNat, Nat.reduceLT, hfr2, hfr, h3', h5, hm2, clear_row, hmx]; clear hr) <;> (try (exfalso; omega))) | (show D _ (J.ops _ _ _ _); simp (disch := first|exact DB|fail) only [RB, ↓reduceIte, Nat.reduceEqDiff, reduceCtorEq, Nat.reduceLeDiff, Nat.reduceAdd, Int.reduceToNat, Nat.reduceLT, hfr2, hfr, h3', h5, hm2, clear_row, hmx]) | (refine T_app ?_; try simp (disch := first|exact DB|fail) only [RB, ↓reduceIte, Nat.reduceEqDiff, reduceCtorEq, Nat.reduceLeDiff, Nat.reduceAdd, Int.reduceToNat, Nat.reduceLT, hfr2, hfr, h3', h5, hm2, clear_row, hmx]) | (refine T_fork ?_ ?_) | (simp only [T_nil]) | (refine TS (fun h => ?_) (fun h => ?_) (hc := by (simp (disch := first|exact DB|fail) only [RB, ↓reduceIte, Nat.reduceEqDiff, reduceCtorEq, Nat.reduceLeDiff, Nat.reduceAdd, Int.reduceToNat, Nat.reduceLT, hfr2, hfr, h3', h5, hm2, clear_row, hmx]) <;> rfl) <;> (try simp only [RH, reduceCtorEq] at h) <;> (try (exfalso; omega))) | (show retR _ _ _ _ _; simp (disch := first|exact DB|fail) only [RR, RB, ↓reduceIte, Nat.reduceEqDiff, reduceCtorEq, Nat.reduceLeDiff, Nat.reduceAdd, Int.reduceToNat, Nat.reduceLT, hfr2, hfr, h3', h5, hm2, clear_row, hmx]) | exact rfl))
        refine ⟨⟨.inr ⟨r, List.replicate (xs.length - kw) (0, 0) ++ L.drop (kw + (xs.length - kw)), by rw [hdl], by first | omega | (((first | exact SCb | refine SBb ?_)) <;> omega), hr0, ?_, ?_⟩, by (exact LEb)⟩, by first | omega | (((first | exact SCb | refine SBb ?_)) <;> omega)⟩
        · rw [← hLt, List.map_append, List.map_append, List.map_take, List.map_drop, List.map_replicate, ← List.append_assoc]
          exact (by have E := And.intro hm2 sp_def; exact IEb)
        · rw [← hLt]
          simp only [List.length_append, List.length_replicate, List.length_drop, List.length_take] at hlm hLl ⊢
          omega
    · have hne : xs[k - 1] ≠ xs[k] := fun e => h ⟨(congrArg Prod.fst e).symm, (congrArg Prod.snd e).symm⟩
      exact ⟨trivial, xs.length - (k + 1), by omega, k + 1, rfl, by omega, by omega, by ((first | exact SCb | refine SBb ?_)) <;> (congr 1 <;> omega), by rw [dd_succ hk1 hkl, if_neg hne, hdd, List.take_succ_eq_append_getElem hkl]⟩
  · obtain rfl : k = xs.length := by omega
    ((have E := And.intro hfr h3; (repeat' (first | (refine NXt ?_; try intro K hK) | (refine hK _ _ ?_; clear hK; clear K; try refine PX ?_) | ((first | refine GC_case_t (fun hr => ?_) (fun hr => ?_) | refine GC_case_f (fun hr => ?_) (fun hr => ?_)) <;> (have h := hr; (try simp only [RH, reduceCtorEq] at h); refine SHb ?_; clear hr) <;> (try (exfalso; omega))) | (show D _ (J.ops _ _ _ _); refine SEb ?_) | (refine T_app ?_; try refine SEb ?_) | (refine T_fork ?_ ?_) | (simp only [T_nil]) | (refine TS (fun h => ?_) (fun h => ?_) (hc := HEb) <;> (try simp only [RH, reduceCtorEq] at h) <;> (try (exfalso; omega))) | (show retR _ _ _ _ _; refine SRb ?_) | exact rfl))) <;> (try clear E))
    rw [List.take_length] at hdd
    rw [hdd]
    exact ⟨hR, by first | trivial | omega⟩
end Go.VS.Fn
