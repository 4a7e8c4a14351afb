/-
  Part 13 of 44 of the proof of SubcorpusLawsSaid, by an abstract machine that stands in for the Go program: lemmas without conditions of their own.
-/
import Derived.Test.YtclfgmlnechmkaaP12
import Derived.Test.YtclfgmlnechmkaaP04
import Derived.Test.YtclfgmlnechmkaaP10
import Derived.Test.YtclfgmlnechmkaaP11
set_option linter.unusedSimpArgs false
set_option linter.unusedVariables false
namespace Go.VS.Fn
open Go.VS
variable {T : Nat → Option FnDef}

theorem ModB_spec (h30 : T 30 = some (.body v30)) (x n : Int) (s : St) (hn : 1 ≤ n) (hn2 : n < 1000000) :
    D T (.call 30 [.int .i64 x, .int .i64 n] s (fun v s' => v = .int .i64 (x % n) ∧ s' = s)) := by
  have hn0 : n ≠ 0 := by omega
  have h1 := Int.emod_nonneg x (show n ≠ 0 by omega)
  have h2 := Int.emod_lt_of_pos x (show 0 < n by omega)
  have h3 := tmod_cases x n hn
  (refine C.fn (by assumption) rfl ?_)
  unfold v30
  dsimp only
  (refine W.so fun K hK => ?_; simp only [RL, ↓reduceIte, Nat.reduceEqDiff, reduceCtorEq, Nat.reduceLeDiff, Nat.reduceAdd]; refine hK _ _ ?_; clear hK; clear K)
  refine W.assoc ?_
  (refine W.so fun K hK => ?_; simp only [RL, ↓reduceIte, Nat.reduceEqDiff, reduceCtorEq, Nat.reduceLeDiff, Nat.reduceAdd]; refine hK _ _ ?_; clear hK; clear K)
  refine W.test (by (simp only [RL, ↓reduceIte, Nat.reduceEqDiff, reduceCtorEq, Nat.reduceLeDiff, Nat.reduceAdd]) <;> rfl) (fun h => ?_) (fun h => ?_)
  · simp at h; omega
  refine D.skip ?_
  simp only [seqK]
  (refine W.so fun K hK => ?_; simp only [RL, ↓reduceIte, Nat.reduceEqDiff, reduceCtorEq, Nat.reduceLeDiff, Nat.reduceAdd, bv_rem _ _ _ hn0]; refine hK _ _ ?_; clear hK; clear K)
  refine W.assoc ?_
  (refine W.so fun K hK => ?_; simp only [RL, ↓reduceIte, Nat.reduceEqDiff, reduceCtorEq, Nat.reduceLeDiff, Nat.reduceAdd]; refine hK _ _ ?_; clear hK; clear K)
  refine W.test (by (simp only [RL, ↓reduceIte, Nat.reduceEqDiff, reduceCtorEq, Nat.reduceLeDiff, Nat.reduceAdd]) <;> rfl) (fun h => ?_) (fun h => ?_)
  · (refine W.ops' fun K hK => ?_; simp only [RL, ↓reduceIte, Nat.reduceEqDiff, reduceCtorEq, Nat.reduceLeDiff, Nat.reduceAdd]; refine hK _ _ ?_; clear hK; clear K)
    simp only [seqK]
    (refine W.so fun K hK => ?_; simp only [RL, ↓reduceIte, Nat.reduceEqDiff, reduceCtorEq, Nat.reduceLeDiff, Nat.reduceAdd]; refine hK _ _ ?_; clear hK; clear K)
    (refine D.ret ?_; simp only [seqK, retR, resAll, ResV.get, resV, RL, ↓reduceIte, Nat.reduceEqDiff, reduceCtorEq, Nat.reduceLeDiff, Nat.reduceAdd])
    simp at h
    rw [wrap64 (by omega) (by omega)]
    exact ⟨congrArg _ (by omega), trivial⟩
  · refine D.skip ?_
    simp only [seqK]
    (refine W.so fun K hK => ?_; simp only [RL, ↓reduceIte, Nat.reduceEqDiff, reduceCtorEq, Nat.reduceLeDiff, Nat.reduceAdd]; refine hK _ _ ?_; clear hK; clear K)
    (refine D.ret ?_; simp only [seqK, retR, resAll, ResV.get, resV, RL, ↓reduceIte, Nat.reduceEqDiff, reduceCtorEq, Nat.reduceLeDiff, Nat.reduceAdd])
    simp at h
    exact ⟨congrArg _ (by omega), trivial⟩

theorem NextB_spec (h14 : T 14 = some (.body v14)) (h30 : T 30 = some (.body v30)) {s : St} {o a : Nat} {lv : V} (t : TapeOk s o lv a) (n : Int) (hn : 1 ≤ n) (hn2 : n < 1000000) : D T (.call 14 [.ptr o 0, .int .i64 n] s (fun v s' => ∃ k, v = .int .i64 k ∧ 0 ≤ k ∧ k < n ∧ ∃ a' : Nat, a' ≤ 1000 ∧ s' = s.set o (.obj [lv, .int .i64 a']))) := by
  obtain ⟨xs, hL, hl⟩ := t.lst
  have hmem := t.mem
  have hlen : lenV lv = some xs.length := by have := hL.len; rw [ints, List.length_map] at this; exact this
  by_cases hlt : a < xs.length
  · refine C.fn h14 rfl ?_
    unfold v14
    dsimp only
    have hix := (show IsL lv (xs.map (V.int .i64)) from hL)
    have e1 := Int.emod_nonneg xs[a] (show n ≠ 0 by omega)
    have e2 := Int.emod_lt_of_pos xs[a] (show 0 < n by omega)
    (repeat' (first | (refine NXt ?_; try intro K hK) | (refine hK _ _ ?_; clear hK; clear K; try simp only [RP, ↓reduceIte, Nat.reduceEqDiff, reduceCtorEq]) | ((first | refine GC_case_t (fun hr => ?_) (fun hr => ?_) | refine GC_case_f (fun hr => ?_) (fun hr => ?_)) <;> (have h := hr; (try simp only [RH, reduceCtorEq] at h); simp (disch := first|exact DB|fail) only [hr, RB, ↓reduceIte, Nat.reduceEqDiff, reduceCtorEq, Nat.reduceLeDiff, Nat.reduceAdd, Int.reduceToNat, Nat.reduceLT, hmem, hlen, hL.notStr, hix.ixm]; clear hr) <;> (try (exfalso; omega))) | (refine X_callc rfl ?_; simp (disch := first|exact DB|fail) only [List.nil_append, List.append_nil, RB, ↓reduceIte, Nat.reduceEqDiff, reduceCtorEq, Nat.reduceLeDiff, Nat.reduceAdd, Int.reduceToNat, Nat.reduceLT, hmem, hlen, hL.notStr, hix.ixm]; refine D.mono_call (ModB_spec h30 _ _ _ hn hn2) ?_; rintro v s' ⟨rfl, rfl⟩; (try simp only [NB] at hδ); refine ⟨by first | exact CK | (simp only [RC, Chk.ok, V.ent]; simp (disch := first|exact DB|fail) only [RT, RB, ↓reduceIte, Nat.reduceEqDiff, reduceCtorEq, Nat.reduceLeDiff, Nat.reduceAdd, Int.reduceToNat, Nat.reduceLT, hmem, hlen, hL.notStr, hix.ixm]), ?_⟩; try simp (disch := first|exact DB|fail) only [RB, ↓reduceIte, Nat.reduceEqDiff, reduceCtorEq, Nat.reduceLeDiff, Nat.reduceAdd, Int.reduceToNat, Nat.reduceLT, hmem, hlen, hL.notStr, hix.ixm]) | (show D _ (J.ops _ _ _ _); simp (disch := first|exact DB|fail) only [RB, ↓reduceIte, Nat.reduceEqDiff, reduceCtorEq, Nat.reduceLeDiff, Nat.reduceAdd, Int.reduceToNat, Nat.reduceLT, hmem, hlen, hL.notStr, hix.ixm]) | (refine T_app ?_; try simp (disch := first|exact DB|fail) only [RB, ↓reduceIte, Nat.reduceEqDiff, reduceCtorEq, Nat.reduceLeDiff, Nat.reduceAdd, Int.reduceToNat, Nat.reduceLT, hmem, hlen, hL.notStr, hix.ixm]) | (refine T_fork ?_ ?_) | (simp only [T_nil]) | (refine TS (fun h => ?_) (fun h => ?_) (hc := by (simp (disch := first|exact DB|fail) only [RB, ↓reduceIte, Nat.reduceEqDiff, reduceCtorEq, Nat.reduceLeDiff, Nat.reduceAdd, Int.reduceToNat, Nat.reduceLT, hmem, hlen, hL.notStr, hix.ixm]) <;> rfl) <;> (try simp only [RH, reduceCtorEq] at h) <;> (try (exfalso; omega))) | (show retR _ _ _ _ _; simp (disch := first|exact DB|fail) only [RR, RB, ↓reduceIte, Nat.reduceEqDiff, reduceCtorEq, Nat.reduceLeDiff, Nat.reduceAdd, Int.reduceToNat, Nat.reduceLT, hmem, hlen, hL.notStr, hix.ixm]) | exact rfl))
    exact ⟨_, rfl, e1, e2, a + 1, by omega, by simp⟩
  · refine C.fn h14 rfl ?_
    unfold v14
    dsimp only
    (repeat' (first | (refine NXt ?_; try intro K hK) | (refine hK _ _ ?_; clear hK; clear K; try simp only [RP, ↓reduceIte, Nat.reduceEqDiff, reduceCtorEq]) | ((first | refine GC_case_t (fun hr => ?_) (fun hr => ?_) | refine GC_case_f (fun hr => ?_) (fun hr => ?_)) <;> (have h := hr; (try simp only [RH, reduceCtorEq] at h); simp (disch := first|exact DB|fail) only [hr, RB, ↓reduceIte, Nat.reduceEqDiff, reduceCtorEq, Nat.reduceLeDiff, Nat.reduceAdd, Int.reduceToNat, Nat.reduceLT, hmem, hlen, hL.notStr]; clear hr) <;> (try (exfalso; omega))) | (show D _ (J.ops _ _ _ _); simp (disch := first|exact DB|fail) only [RB, ↓reduceIte, Nat.reduceEqDiff, reduceCtorEq, Nat.reduceLeDiff, Nat.reduceAdd, Int.reduceToNat, Nat.reduceLT, hmem, hlen, hL.notStr]) | (refine T_app ?_; try simp (disch := first|exact DB|fail) only [RB, ↓reduceIte, Nat.reduceEqDiff, reduceCtorEq, Nat.reduceLeDiff, Nat.reduceAdd, Int.reduceToNat, Nat.reduceLT, hmem, hlen, hL.notStr]) | (refine T_fork ?_ ?_) | (simp only [T_nil]) | (refine TS (fun h => ?_) (fun h => ?_) (hc := by (simp (disch := first|exact DB|fail) only [RB, ↓reduceIte, Nat.reduceEqDiff, reduceCtorEq, Nat.reduceLeDiff, Nat.reduceAdd, Int.reduceToNat, Nat.reduceLT, hmem, hlen, hL.notStr]) <;> rfl) <;> (try simp only [RH, reduceCtorEq] at h) <;> (try (exfalso; omega))) | (show retR _ _ _ _ _; simp (disch := first|exact DB|fail) only [RR, RB, ↓reduceIte, Nat.reduceEqDiff, reduceCtorEq, Nat.reduceLeDiff, Nat.reduceAdd, Int.reduceToNat, Nat.reduceLT, hmem, hlen, hL.notStr]) | exact rfl))
    exact ⟨0, rfl, by omega, by omega, a, t.ha, (set_same hmem).symm⟩

theorem TOk.isText {b e : Int} {ts : List V} (h : TOk b ts e) : ∀ x ∈ ts, isText x := by
  induction ts generalizing b with
  | nil => intro x hx; cases hx
  | cons t r ih =>
    obtain ⟨a, e', m, rfl, hm, _, hr⟩ := h
    intro x hx
    rcases List.mem_cons.1 hx with rfl | hx
    · exact ⟨_, _, _, _, rfl, hm⟩
    · exact ih hr x hx
theorem TOk.le {b e : Int} {ts : List V} (h : TOk b ts e) : b ≤ e := by
  induction ts generalizing b with
  | nil => have h : b = e := h; omega
  | cons t r ih =>
    obtain ⟨a, e', m, rfl, hm, h1, hr⟩ := h
    have := ih hr
    omega
theorem TOk.get {b e : Int} {ts : List V} (h : TOk b ts e) {i : Nat} (hi : i < ts.length) : ∃ a x y m, ts[i] = .agg [.str a, .int .i64 x, .int .i64 y, m] ∧ b ≤ x ∧ x < y ∧ y ≤ e := by
  induction ts generalizing b i with
  | nil => simp at hi
  | cons t r ih =>
    obtain ⟨a, e', m, rfl, hm, h1, hr⟩ := h
    cases i with
    | zero => exact ⟨a, b, e', m, rfl, by omega, h1, hr.le⟩
    | succ i =>
      obtain ⟨a2, x, y, m2, hx, h2, h3, h4⟩ := ih hr (i := i) (by simpa using hi)
      exact ⟨a2, x, y, m2, by simpa using hx, by omega, h3, h4⟩

theorem TOk.count {b e : Int} {ts : List V} (h : TOk b ts e) : (ts.length : Int) ≤ e - b := by
  induction ts generalizing b with
  | nil => have h : b = e := h; simp; omega
  | cons t r ih =>
    obtain ⟨a, e', m, rfl, hm, h1, hr⟩ := h
    have := ih hr
    simp; omega

/-- A span of a text of a corpus. -/
def InText (ts : List V) (b e : Int) : Prop := ∃ i, ∃ h : i < ts.length, ∃ a x y m, ts[i] = .agg [.str a, .int .i64 x, .int .i64 y, m] ∧ x ≤ b ∧ b < e ∧ e ≤ y

set_option maxHeartbeats 4000000 in
theorem Matches_spec (M : HM T) {s : St} {o a : Nat} {lv : V} (t : TapeOk s o lv a) (a0 a1 vt a3 a4 a5 a6 : V) (ts : List V) (N : Int) (hL : IsL vt ts) (hT : TOk 0 ts N) (hN : N ≤ 5000) (hlen : 1 ≤ ts.length) (hlen2 : ts.length ≤ 5000) (most : Int) (hm0 : 0 ≤ most) (hm1 : most ≤ 50) :
    D T (.call 22 [.ptr o 0, .agg [a0, a1, vt, a3, a4, a5, a6], .int .i64 0, .int .i64 most] s (fun v s' => (∃ ms : List (Int × Int), IsL v (ms.map fun p => .agg [.int .i64 p.1, .int .i64 p.2, .nilsl]) ∧ (ms.length : Int) ≤ most ∧ ∀ p ∈ ms, InText ts p.1 p.2) ∧ St.Tp s o lv s')) := by
  have h14 := M.h14
  have h30 := M.h30
  have hlst := t.lst
  have hmem := t.mem
  have hlt := t.lt
  have hat := t.ha
  refine C.fn M.h22 rfl ?_
  unfold v22
  dsimp only
  (repeat' (first | (refine NXa ?_; try intro K hK) | (refine hK _ _ ?_; clear hK; clear K; try simp only [RP, ↓reduceIte, Nat.reduceEqDiff, reduceCtorEq]) | ((first | refine GC_case_t (fun hr => ?_) (fun hr => ?_) | refine GC_case_f (fun hr => ?_) (fun hr => ?_)) <;> (have h := hr; (try simp only [RH, reduceCtorEq] at h); simp (disch := first|exact DB|fail) only [hr, RB, ↓reduceIte, Nat.reduceEqDiff, reduceCtorEq, Nat.reduceLeDiff, Nat.reduceAdd, Int.reduceToNat, Nat.reduceLT, hmem]; clear hr) <;> (try (exfalso; omega))) | (refine X_callc rfl ?_; simp (disch := first|exact DB|fail) only [List.nil_append, List.append_nil, RB, ↓reduceIte, Nat.reduceEqDiff, reduceCtorEq, Nat.reduceLeDiff, Nat.reduceAdd, Int.reduceToNat, Nat.reduceLT, hmem]; refine D.mono_call (NextB_spec h14 h30 (TapeOk.mk (lv := lv) (by (simp (disch := first|exact DB|fail) only [RB, ↓reduceIte, Nat.reduceEqDiff, reduceCtorEq, Nat.reduceLeDiff, Nat.reduceAdd, Int.reduceToNat, Nat.reduceLT, hmem, Int.natCast_add, Int.natCast_one, Int.natCast_succ]) <;> rfl) (by exact DB) (by omega) hlst) _ (by omega) (by omega)) ?_; rintro v s' ⟨k, rfl, hk0, hk1, a', ha', rfl⟩; (try simp only [NB] at hδ); refine ⟨by first | exact CK | (simp only [RC, Chk.ok, V.ent]; simp (disch := first|exact DB|fail) only [RT, RB, ↓reduceIte, Nat.reduceEqDiff, reduceCtorEq, Nat.reduceLeDiff, Nat.reduceAdd, Int.reduceToNat, Nat.reduceLT, hmem]), ?_⟩; try simp (disch := first|exact DB|fail) only [RB, ↓reduceIte, Nat.reduceEqDiff, reduceCtorEq, Nat.reduceLeDiff, Nat.reduceAdd, Int.reduceToNat, Nat.reduceLT, hmem]) | (show D _ (J.ops _ _ _ _); simp (disch := first|exact DB|fail) only [RB, ↓reduceIte, Nat.reduceEqDiff, reduceCtorEq, Nat.reduceLeDiff, Nat.reduceAdd, Int.reduceToNat, Nat.reduceLT, hmem]) | (show retR _ _ _ _ _; simp (disch := first|exact DB|fail) only [RR, RB, ↓reduceIte, Nat.reduceEqDiff, reduceCtorEq, Nat.reduceLeDiff, Nat.reduceAdd, Int.reduceToNat, Nat.reduceLT, hmem]) | exact rfl))
  refine W.midF (fun F' s2 => St.LeW [o] s s2 ∧ ∃ (a' : Nat) (vo : V) (ms : List (Int × Int)), a' ≤ 1000 ∧ s2.mem o = some (.obj [lv, .int .i64 a']) ∧ F' 9 = vo ∧ Tip0 s s2 vo 3 (ms.map fun p => .agg [.int .i64 p.1, .int .i64 p.2, .nilsl]) ∧ (ms.length : Int) ≤ most ∧ ∀ p ∈ ms, InText ts p.1 p.2) (W.bloop (fun n F' s2 => St.LeW [o] s s2 ∧ ∃ (a' : Nat) (vo : V) (ms : List (Int × Int)), a' ≤ 1000 ∧ s2.mem o = some (.obj [lv, .int .i64 a']) ∧ s2.mem s.next = some (.obj [a0, a1, vt, a3, a4, a5, a6]) ∧ s.next < s2.next ∧ F' 9 = vo ∧ Tip0 s s2 vo 3 (ms.map fun p => .agg [.int .i64 p.1, .int .i64 p.2, .nilsl]) ∧ F' 10 = .int .i64 n ∧ (ms.length : Int) + n ≤ most ∧ ∀ p ∈ ms, InText ts p.1 p.2) k.toNat ⟨by (exact LWb), a', .nilsl, [], ha', by (first | exact SCb | refine SBb ?_), by (first | exact SCb | refine SBb ?_), by ((first | exact SCb | refine SBb ?_)) <;> omega, IB, Tip0.nil, by (first | exact SCb | refine SBb ?_); congr 1; omega, by simp; omega, by simp⟩ ?_) ?_
  · rintro n F s2 hfr ⟨hle2, a2, vo, ms, ha2, hmo2, hmc2, hnx2, h9, htip, h10, hml, hmP⟩
    have hnx2' := hle2.1
    by_cases hn0 : n = 0
    · subst hn0
      (repeat' (first | (refine NXt ?_; try intro K hK) | (refine hK _ _ ?_; clear hK; clear K; try simp only [RP, ↓reduceIte, Nat.reduceEqDiff, reduceCtorEq]) | ((first | refine GC_case_t (fun hr => ?_) (fun hr => ?_) | refine GC_case_f (fun hr => ?_) (fun hr => ?_)) <;> (have h := hr; (try simp only [RH, reduceCtorEq] at h); simp (disch := first|exact DB|fail) only [hr, RB, ↓reduceIte, Nat.reduceEqDiff, reduceCtorEq, Nat.reduceLeDiff, Nat.reduceAdd, Int.reduceToNat, Nat.reduceLT, hfr, h10]; clear hr) <;> (try (exfalso; omega))) | (show D _ (J.ops _ _ _ _); simp (disch := first|exact DB|fail) only [RB, ↓reduceIte, Nat.reduceEqDiff, reduceCtorEq, Nat.reduceLeDiff, Nat.reduceAdd, Int.reduceToNat, Nat.reduceLT, hfr, h10]) | (refine T_app ?_; try simp (disch := first|exact DB|fail) only [RB, ↓reduceIte, Nat.reduceEqDiff, reduceCtorEq, Nat.reduceLeDiff, Nat.reduceAdd, Int.reduceToNat, Nat.reduceLT, hfr, h10]) | (refine T_fork ?_ ?_) | (simp only [T_nil]) | (refine TS (fun h => ?_) (fun h => ?_) (hc := by (simp (disch := first|exact DB|fail) only [RB, ↓reduceIte, Nat.reduceEqDiff, reduceCtorEq, Nat.reduceLeDiff, Nat.reduceAdd, Int.reduceToNat, Nat.reduceLT, hfr, h10]) <;> rfl) <;> (try simp only [RH, reduceCtorEq] at h) <;> (try (exfalso; omega))) | (show retR _ _ _ _ _; simp (disch := first|exact DB|fail) only [RR, RB, ↓reduceIte, Nat.reduceEqDiff, reduceCtorEq, Nat.reduceLeDiff, Nat.reduceAdd, Int.reduceToNat, Nat.reduceLT, hfr, h10]) | exact rfl))
      exact ⟨hle2, a2, vo, ms, ha2, hmo2, by simp (disch := first|exact DB|fail) only [RB, ↓reduceIte, Nat.reduceEqDiff, reduceCtorEq, Nat.reduceLeDiff, Nat.reduceAdd, Int.reduceToNat, Nat.reduceLT, h9], htip, by omega, hmP⟩
    refine W.assoc ?_
    refine W.so fun K hK => ?_
    simp (disch := first|exact DB|fail) only [RB, ↓reduceIte, Nat.reduceEqDiff, reduceCtorEq, Nat.reduceLeDiff, Nat.reduceAdd, Int.reduceToNat, Nat.reduceLT, h10]
    refine hK _ _ ?_
    clear hK; clear K
    refine W.test (t := true) (by (simp (disch := first|exact DB|fail) only [RB, ↓reduceIte, Nat.reduceEqDiff, reduceCtorEq, Nat.reduceLeDiff, Nat.reduceAdd, Int.reduceToNat, Nat.reduceLT, h10]) <;> first | rfl | (simp; omega)) (fun _ => ?_) (fun h => by cases h)
    refine D.skip ?_
    simp only [seqK]
    refine W.seq (.block ?_)
    have hw : wOk 3 (ms.map fun p : Int × Int => V.agg [.int .i64 p.1, .int .i64 p.2, .nilsl]) = true := wOk_of fun x hx => by obtain ⟨p, _, rfl⟩ := List.mem_map.1 hx; rfl
    refine W.midF (fun F' s3 => St.LeW [o] s s3 ∧ ∃ (a' : Nat) (i : Nat) (hi : i < ts.length) (na : List Nat) (x y : Int) (m : V), ts[i] = .agg [.str na, .int .i64 x, .int .i64 y, m] ∧ 0 ≤ x ∧ x < y ∧ y ≤ N ∧ a' ≤ 1000 ∧ s3.mem o = some (.obj [lv, .int .i64 a']) ∧ s3.mem s.next = some (.obj [a0, a1, vt, a3, a4, a5, a6]) ∧ s.next < s3.next ∧ Tip0 s s3 vo 3 (ms.map fun p => .agg [.int .i64 p.1, .int .i64 p.2, .nilsl]) ∧ ∃ i11, F' 11 = .ptr i11 0 ∧ s.next < i11 ∧ i11 < s3.next ∧ s3.mem i11 = some (.obj [.str na, .int .i64 x, .int .i64 y, m])) (W.tree' fun K hK => ?_) ?_
    · (repeat' (first | (refine NXt ?_; try intro K hK) | (refine hK _ _ ?_; clear hK; clear K; try simp only [RP, ↓reduceIte, Nat.reduceEqDiff, reduceCtorEq]) | ((first | refine GC_case_t (fun hr => ?_) (fun hr => ?_) | refine GC_case_f (fun hr => ?_) (fun hr => ?_)) <;> (have h := hr; (try simp only [RH, reduceCtorEq] at h); simp (disch := first|exact DB|fail) only [hr, RB, ↓reduceIte, Nat.reduceEqDiff, reduceCtorEq, Nat.reduceLeDiff, Nat.reduceAdd, Int.reduceToNat, Nat.reduceLT, hfr, hmo2, hmc2, hL.len, hL.notStr]; clear hr) <;> (try (exfalso; omega))) | (refine X_callc rfl ?_; simp (disch := first|exact DB|fail) only [List.nil_append, List.append_nil, RB, ↓reduceIte, Nat.reduceEqDiff, reduceCtorEq, Nat.reduceLeDiff, Nat.reduceAdd, Int.reduceToNat, Nat.reduceLT, hfr, hmo2, hmc2, hL.len, hL.notStr]; refine D.mono_call (NextB_spec h14 h30 (TapeOk.mk (lv := lv) (by (simp (disch := first|exact DB|fail) only [RB, ↓reduceIte, Nat.reduceEqDiff, reduceCtorEq, Nat.reduceLeDiff, Nat.reduceAdd, Int.reduceToNat, Nat.reduceLT, hfr, hmo2, hmc2, hL.len, hL.notStr, Int.natCast_add, Int.natCast_one, Int.natCast_succ]) <;> rfl) (by exact DB) (by omega) hlst) _ (by omega) (by omega)) ?_; rintro v s' ⟨k, rfl, hk0, hk1, a', ha', rfl⟩; (try simp only [NB] at hδ); refine ⟨by first | exact CK | (simp only [RC, Chk.ok, V.ent]; simp (disch := first|exact DB|fail) only [RT, RB, ↓reduceIte, Nat.reduceEqDiff, reduceCtorEq, Nat.reduceLeDiff, Nat.reduceAdd, Int.reduceToNat, Nat.reduceLT, hfr, hmo2, hmc2, hL.len, hL.notStr]), ?_⟩; try simp (disch := first|exact DB|fail) only [RB, ↓reduceIte, Nat.reduceEqDiff, reduceCtorEq, Nat.reduceLeDiff, Nat.reduceAdd, Int.reduceToNat, Nat.reduceLT, hfr, hmo2, hmc2, hL.len, hL.notStr]) | (show D _ (J.ops _ _ _ _); simp (disch := first|exact DB|fail) only [RB, ↓reduceIte, Nat.reduceEqDiff, reduceCtorEq, Nat.reduceLeDiff, Nat.reduceAdd, Int.reduceToNat, Nat.reduceLT, hfr, hmo2, hmc2, hL.len, hL.notStr]) | (refine T_app ?_; try simp (disch := first|exact DB|fail) only [RB, ↓reduceIte, Nat.reduceEqDiff, reduceCtorEq, Nat.reduceLeDiff, Nat.reduceAdd, Int.reduceToNat, Nat.reduceLT, hfr, hmo2, hmc2, hL.len, hL.notStr]) | (refine T_fork ?_ ?_) | (simp only [T_nil]) | (refine TS (fun h => ?_) (fun h => ?_) (hc := by (simp (disch := first|exact DB|fail) only [RB, ↓reduceIte, Nat.reduceEqDiff, reduceCtorEq, Nat.reduceLeDiff, Nat.reduceAdd, Int.reduceToNat, Nat.reduceLT, hfr, hmo2, hmc2, hL.len, hL.notStr]) <;> rfl) <;> (try simp only [RH, reduceCtorEq] at h) <;> (try (exfalso; omega))) | (show retR _ _ _ _ _; simp (disch := first|exact DB|fail) only [RR, RB, ↓reduceIte, Nat.reduceEqDiff, reduceCtorEq, Nat.reduceLeDiff, Nat.reduceAdd, Int.reduceToNat, Nat.reduceLT, hfr, hmo2, hmc2, hL.len, hL.notStr]) | exact rfl))
      all_goals
        obtain ⟨na, x, y, m, hx, hx1, hx2, hx3⟩ := hT.get (i := k.toNat) (by omega)
        simp (disch := first|exact DB|fail) only [RB, ↓reduceIte, Nat.reduceEqDiff, reduceCtorEq, Nat.reduceLeDiff, Nat.reduceAdd, Int.reduceToNat, Nat.reduceLT, hL.ixi, hx]
        (repeat' (first | (refine NXt ?_; try intro K hK) | (refine hK _ _ ?_; clear hK; clear K; try simp only [RP, ↓reduceIte, Nat.reduceEqDiff, reduceCtorEq]) | ((first | refine GC_case_t (fun hr => ?_) (fun hr => ?_) | refine GC_case_f (fun hr => ?_) (fun hr => ?_)) <;> (have h := hr; (try simp only [RH, reduceCtorEq] at h); simp (disch := first|exact DB|fail) only [hr, RB, ↓reduceIte, Nat.reduceEqDiff, reduceCtorEq, Nat.reduceLeDiff, Nat.reduceAdd, Int.reduceToNat, Nat.reduceLT, hfr, hmo2, hmc2]; clear hr) <;> (try (exfalso; omega))) | (show D _ (J.ops _ _ _ _); simp (disch := first|exact DB|fail) only [RB, ↓reduceIte, Nat.reduceEqDiff, reduceCtorEq, Nat.reduceLeDiff, Nat.reduceAdd, Int.reduceToNat, Nat.reduceLT, hfr, hmo2, hmc2]) | (refine T_app ?_; try simp (disch := first|exact DB|fail) only [RB, ↓reduceIte, Nat.reduceEqDiff, reduceCtorEq, Nat.reduceLeDiff, Nat.reduceAdd, Int.reduceToNat, Nat.reduceLT, hfr, hmo2, hmc2]) | (refine T_fork ?_ ?_) | (simp only [T_nil]) | (refine TS (fun h => ?_) (fun h => ?_) (hc := by (simp (disch := first|exact DB|fail) only [RB, ↓reduceIte, Nat.reduceEqDiff, reduceCtorEq, Nat.reduceLeDiff, Nat.reduceAdd, Int.reduceToNat, Nat.reduceLT, hfr, hmo2, hmc2]) <;> rfl) <;> (try simp only [RH, reduceCtorEq] at h) <;> (try (exfalso; omega))) | (show retR _ _ _ _ _; simp (disch := first|exact DB|fail) only [RR, RB, ↓reduceIte, Nat.reduceEqDiff, reduceCtorEq, Nat.reduceLeDiff, Nat.reduceAdd, Int.reduceToNat, Nat.reduceLT, hfr, hmo2, hmc2]) | exact rfl))
        exact ⟨by (exact LWb), a', k.toNat, by omega, na, x, y, m, hx, hx1, hx2, hx3, ha', by simp (disch := first|exact DB|fail) only [RB, ↓reduceIte, Nat.reduceEqDiff, reduceCtorEq, Nat.reduceLeDiff, Nat.reduceAdd, Int.reduceToNat, Nat.reduceLT, hmo2], by simp (disch := first|exact DB|fail) only [RB, ↓reduceIte, Nat.reduceEqDiff, reduceCtorEq, Nat.reduceLeDiff, Nat.reduceAdd, Int.reduceToNat, Nat.reduceLT, hmc2], by ((first | exact SCb | refine SBb ?_)) <;> omega, by (repeat' (first | assumption | exact Tip0.nil | refine Tip0.new_ ?_ | refine Tip0.over_ ?_ ?_ | refine Tip0.set_ ?_ (by (simp (disch := first|exact DB|fail) only [RB, ↓reduceIte, Nat.reduceEqDiff, reduceCtorEq, Nat.reduceLeDiff, Nat.reduceAdd, Int.reduceToNat, Nat.reduceLT, hmo2, Int.natCast_add, Int.natCast_one, Int.natCast_succ]) <;> rfl) | refine Tip0.tp_ ?_ ?_ (by (simp (disch := first|exact DB|fail) only [RB, ↓reduceIte, Nat.reduceEqDiff, reduceCtorEq, Nat.reduceLeDiff, Nat.reduceAdd, Int.reduceToNat, Nat.reduceLT, hmo2, Int.natCast_add, Int.natCast_one, Int.natCast_succ]) <;> rfl) | omega | (simp only [NB]; omega))), _, IB, by first | omega | (((first | exact SCb | refine SBb ?_)) <;> omega), by first | omega | (((first | exact SCb | refine SBb ?_)) <;> omega), IB⟩
    rintro F3 s3 hfr3 ⟨hle3, a3, i, hi, na, x, y, m, hti, hx0, hxy, hyN, ha3, hmo3, hmc3, hnx3, htip3, i11, h11, hi11, hi11', hm11⟩
    have hnx3' := hle3.1
    (repeat' (first | (refine NXt ?_; try intro K hK) | (refine hK _ _ ?_; clear hK; clear K; try simp only [RP, ↓reduceIte, Nat.reduceEqDiff, reduceCtorEq]) | ((first | refine GC_case_t (fun hr => ?_) (fun hr => ?_) | refine GC_case_f (fun hr => ?_) (fun hr => ?_)) <;> (have h := hr; (try simp only [RH, reduceCtorEq] at h); simp (disch := first|exact DB|fail) only [hr, RB, ↓reduceIte, Nat.reduceEqDiff, reduceCtorEq, Nat.reduceLeDiff, Nat.reduceAdd, Int.reduceToNat, Nat.reduceLT, hfr3, hfr, h11, hmo3, hm11]; clear hr) <;> (try (exfalso; omega))) | (refine X_callc rfl ?_; simp (disch := first|exact DB|fail) only [List.nil_append, List.append_nil, RB, ↓reduceIte, Nat.reduceEqDiff, reduceCtorEq, Nat.reduceLeDiff, Nat.reduceAdd, Int.reduceToNat, Nat.reduceLT, hfr3, hfr, h11, hmo3, hm11]; refine D.mono_call (NextB_spec h14 h30 (TapeOk.mk (lv := lv) (by (simp (disch := first|exact DB|fail) only [RB, ↓reduceIte, Nat.reduceEqDiff, reduceCtorEq, Nat.reduceLeDiff, Nat.reduceAdd, Int.reduceToNat, Nat.reduceLT, hfr3, hfr, h11, hmo3, hm11, Int.natCast_add, Int.natCast_one, Int.natCast_succ]) <;> rfl) (by exact DB) (by omega) hlst) _ (by omega) (by omega)) ?_; rintro v s' ⟨k, rfl, hk0, hk1, a', ha', rfl⟩; (try simp only [NB] at hδ); refine ⟨by first | exact CK | (simp only [RC, Chk.ok, V.ent]; simp (disch := first|exact DB|fail) only [RT, RB, ↓reduceIte, Nat.reduceEqDiff, reduceCtorEq, Nat.reduceLeDiff, Nat.reduceAdd, Int.reduceToNat, Nat.reduceLT, hfr3, hfr, h11, hmo3, hm11]), ?_⟩; try simp (disch := first|exact DB|fail) only [RB, ↓reduceIte, Nat.reduceEqDiff, reduceCtorEq, Nat.reduceLeDiff, Nat.reduceAdd, Int.reduceToNat, Nat.reduceLT, hfr3, hfr, h11, hmo3, hm11]) | (show D _ (J.ops _ _ _ _); simp (disch := first|exact DB|fail) only [RB, ↓reduceIte, Nat.reduceEqDiff, reduceCtorEq, Nat.reduceLeDiff, Nat.reduceAdd, Int.reduceToNat, Nat.reduceLT, hfr3, hfr, h11, hmo3, hm11]) | (refine T_app ?_; try simp (disch := first|exact DB|fail) only [RB, ↓reduceIte, Nat.reduceEqDiff, reduceCtorEq, Nat.reduceLeDiff, Nat.reduceAdd, Int.reduceToNat, Nat.reduceLT, hfr3, hfr, h11, hmo3, hm11]) | (refine T_fork ?_ ?_) | (simp only [T_nil]) | (refine TS (fun h => ?_) (fun h => ?_) (hc := by (simp (disch := first|exact DB|fail) only [RB, ↓reduceIte, Nat.reduceEqDiff, reduceCtorEq, Nat.reduceLeDiff, Nat.reduceAdd, Int.reduceToNat, Nat.reduceLT, hfr3, hfr, h11, hmo3, hm11]) <;> rfl) <;> (try simp only [RH, reduceCtorEq] at h) <;> (try (exfalso; omega))) | (show retR _ _ _ _ _; simp (disch := first|exact DB|fail) only [RR, RB, ↓reduceIte, Nat.reduceEqDiff, reduceCtorEq, Nat.reduceLeDiff, Nat.reduceAdd, Int.reduceToNat, Nat.reduceLT, hfr3, hfr, h11, hmo3, hm11]) | exact rfl))
    refine W.seq (W.bloop0 (fun _ F' => F' 14 = .int .i64 0) 0 IB ?_)
    rintro n' F' hfr' h14'
    (repeat' (first | (refine NXt ?_; try intro K hK) | (refine hK _ _ ?_; clear hK; clear K; try simp only [RP, ↓reduceIte, Nat.reduceEqDiff, reduceCtorEq]) | ((first | refine GC_case_t (fun hr => ?_) (fun hr => ?_) | refine GC_case_f (fun hr => ?_) (fun hr => ?_)) <;> (have h := hr; (try simp only [RH, reduceCtorEq] at h); simp (disch := first|exact DB|fail) only [hr, RB, ↓reduceIte, Nat.reduceEqDiff, reduceCtorEq, Nat.reduceLeDiff, Nat.reduceAdd, Int.reduceToNat, Nat.reduceLT, hfr', h14', hfr3, hfr, h9, hm11]; clear hr) <;> (try (exfalso; omega))) | (show D _ (J.ops _ _ _ _); simp (disch := first|exact DB|fail) only [RB, ↓reduceIte, Nat.reduceEqDiff, reduceCtorEq, Nat.reduceLeDiff, Nat.reduceAdd, Int.reduceToNat, Nat.reduceLT, hfr', h14', hfr3, hfr, h9, hm11]) | (refine T_app ?_; try simp (disch := first|exact DB|fail) only [RB, ↓reduceIte, Nat.reduceEqDiff, reduceCtorEq, Nat.reduceLeDiff, Nat.reduceAdd, Int.reduceToNat, Nat.reduceLT, hfr', h14', hfr3, hfr, h9, hm11]) | (refine T_fork ?_ ?_) | (simp only [T_nil]) | (refine TS (fun h => ?_) (fun h => ?_) (hc := by (simp (disch := first|exact DB|fail) only [RB, ↓reduceIte, Nat.reduceEqDiff, reduceCtorEq, Nat.reduceLeDiff, Nat.reduceAdd, Int.reduceToNat, Nat.reduceLT, hfr', h14', hfr3, hfr, h9, hm11]) <;> rfl) <;> (try simp only [RH, reduceCtorEq] at h) <;> (try (exfalso; omega))) | (show retR _ _ _ _ _; simp (disch := first|exact DB|fail) only [RR, RB, ↓reduceIte, Nat.reduceEqDiff, reduceCtorEq, Nat.reduceLeDiff, Nat.reduceAdd, Int.reduceToNat, Nat.reduceLT, hfr', h14', hfr3, hfr, h9, hm11]) | exact rfl))
    refine X_appW (W := [o]) (S0 := s) (v := vo) rfl rfl (by (repeat' (first | assumption | exact Tip0.nil | refine Tip0.new_ ?_ | refine Tip0.over_ ?_ ?_ | refine Tip0.set_ ?_ (by (simp (disch := first|exact DB|fail) only [RB, ↓reduceIte, Nat.reduceEqDiff, reduceCtorEq, Nat.reduceLeDiff, Nat.reduceAdd, Int.reduceToNat, Nat.reduceLT, hmo3, hm11, Int.natCast_add, Int.natCast_one, Int.natCast_succ]) <;> rfl) | refine Tip0.tp_ ?_ ?_ (by (simp (disch := first|exact DB|fail) only [RB, ↓reduceIte, Nat.reduceEqDiff, reduceCtorEq, Nat.reduceLeDiff, Nat.reduceAdd, Int.reduceToNat, Nat.reduceLT, hmo3, hm11, Int.natCast_add, Int.natCast_one, Int.natCast_succ]) <;> rfl) | omega | (simp only [NB]; omega)))) (by (exact LWb)) rfl rfl rfl hw (by simp; omega) (by omega) (fun _ _ => trivial) ?_
    intro v' δ7 htip' hle' hδ7
    (try simp only [NB] at hδ7)
    (repeat' (first | (refine NXt ?_; try intro K hK) | (refine hK _ _ ?_; clear hK; clear K; try simp only [RP, ↓reduceIte, Nat.reduceEqDiff, reduceCtorEq]) | ((first | refine GC_case_t (fun hr => ?_) (fun hr => ?_) | refine GC_case_f (fun hr => ?_) (fun hr => ?_)) <;> (have h := hr; (try simp only [RH, reduceCtorEq] at h); simp (disch := first|exact DB|fail) only [hr, RB, ↓reduceIte, Nat.reduceEqDiff, reduceCtorEq, Nat.reduceLeDiff, Nat.reduceAdd, Int.reduceToNat, Nat.reduceLT, hfr', hfr3, hfr, h10]; clear hr) <;> (try (exfalso; omega))) | (show D _ (J.ops _ _ _ _); simp (disch := first|exact DB|fail) only [RB, ↓reduceIte, Nat.reduceEqDiff, reduceCtorEq, Nat.reduceLeDiff, Nat.reduceAdd, Int.reduceToNat, Nat.reduceLT, hfr', hfr3, hfr, h10]) | (refine T_app ?_; try simp (disch := first|exact DB|fail) only [RB, ↓reduceIte, Nat.reduceEqDiff, reduceCtorEq, Nat.reduceLeDiff, Nat.reduceAdd, Int.reduceToNat, Nat.reduceLT, hfr', hfr3, hfr, h10]) | (refine T_fork ?_ ?_) | (simp only [T_nil]) | (refine TS (fun h => ?_) (fun h => ?_) (hc := by (simp (disch := first|exact DB|fail) only [RB, ↓reduceIte, Nat.reduceEqDiff, reduceCtorEq, Nat.reduceLeDiff, Nat.reduceAdd, Int.reduceToNat, Nat.reduceLT, hfr', hfr3, hfr, h10]) <;> rfl) <;> (try simp only [RH, reduceCtorEq] at h) <;> (try (exfalso; omega))) | (show retR _ _ _ _ _; simp (disch := first|exact DB|fail) only [RR, RB, ↓reduceIte, Nat.reduceEqDiff, reduceCtorEq, Nat.reduceLeDiff, Nat.reduceAdd, Int.reduceToNat, Nat.reduceLT, hfr', hfr3, hfr, h10]) | exact rfl))
    rename_i k1 hk1a hk1b _ _
    refine ⟨n - 1, by omega, hle', a', v', ms ++ [(x + k1, x + k1 + 1 + k)], ha', (by (simp (disch := first|exact DB|fail) only [RB, ↓reduceIte, Nat.reduceEqDiff, reduceCtorEq, Nat.reduceLeDiff, Nat.reduceAdd, Int.reduceToNat, Nat.reduceLT, hmo3, Int.natCast_add, Int.natCast_one, Int.natCast_succ]) <;> rfl), (by (simp (disch := first|exact DB|fail) only [RB, ↓reduceIte, Nat.reduceEqDiff, reduceCtorEq, Nat.reduceLeDiff, Nat.reduceAdd, Int.reduceToNat, Nat.reduceLT, hmc3, Int.natCast_add, Int.natCast_one, Int.natCast_succ]) <;> rfl), by ((first | exact SCb | refine SBb ?_)) <;> omega, IB, by rw [List.map_append]; exact htip', by (first | exact SCb | refine SBb ?_); congr 1; omega, by simp; omega, fun p hp => ?_⟩
    rcases List.mem_append.1 hp with h | h
    · exact hmP p h
    · rw [List.mem_singleton.1 h]
      exact ⟨i, hi, na, x, y, m, hti, by simp; omega, by simp; omega, by simp; omega⟩
  rintro F2 s2 hfr2 ⟨hle2, a2, vo, ms, ha2, hmo2, h9, htip, hml, hmP⟩
  (repeat' (first | (refine NXt ?_; try intro K hK) | (refine hK _ _ ?_; clear hK; clear K; try simp only [RP, ↓reduceIte, Nat.reduceEqDiff, reduceCtorEq]) | ((first | refine GC_case_t (fun hr => ?_) (fun hr => ?_) | refine GC_case_f (fun hr => ?_) (fun hr => ?_)) <;> (have h := hr; (try simp only [RH, reduceCtorEq] at h); simp (disch := first|exact DB|fail) only [hr, RB, ↓reduceIte, Nat.reduceEqDiff, reduceCtorEq, Nat.reduceLeDiff, Nat.reduceAdd, Int.reduceToNat, Nat.reduceLT, hfr2, h9]; clear hr) <;> (try (exfalso; omega))) | (show D _ (J.ops _ _ _ _); simp (disch := first|exact DB|fail) only [RB, ↓reduceIte, Nat.reduceEqDiff, reduceCtorEq, Nat.reduceLeDiff, Nat.reduceAdd, Int.reduceToNat, Nat.reduceLT, hfr2, h9]) | (refine T_app ?_; try simp (disch := first|exact DB|fail) only [RB, ↓reduceIte, Nat.reduceEqDiff, reduceCtorEq, Nat.reduceLeDiff, Nat.reduceAdd, Int.reduceToNat, Nat.reduceLT, hfr2, h9]) | (refine T_fork ?_ ?_) | (simp only [T_nil]) | (refine TS (fun h => ?_) (fun h => ?_) (hc := by (simp (disch := first|exact DB|fail) only [RB, ↓reduceIte, Nat.reduceEqDiff, reduceCtorEq, Nat.reduceLeDiff, Nat.reduceAdd, Int.reduceToNat, Nat.reduceLT, hfr2, h9]) <;> rfl) <;> (try simp only [RH, reduceCtorEq] at h) <;> (try (exfalso; omega))) | (show retR _ _ _ _ _; simp (disch := first|exact DB|fail) only [RR, RB, ↓reduceIte, Nat.reduceEqDiff, reduceCtorEq, Nat.reduceLeDiff, Nat.reduceAdd, Int.reduceToNat, Nat.reduceLT, hfr2, h9]) | exact rfl))
  exact ⟨⟨ms, htip.isL, hml, hmP⟩, LeW.tp hle2 ha2 hmo2⟩

set_option maxHeartbeats 4000000 in
theorem Spans_spec (M : HM T) {s : St} {o a : Nat} {lv : V} (t : TapeOk s o lv a) (a0 a1 vt a3 a4 a5 a6 : V) (ts : List V) (N : Int) (hL : IsL vt ts) (hT : TOk 0 ts N) (hN : N ≤ 5000) (hlen : 1 ≤ ts.length) (hlen2 : ts.length ≤ 5000) (most : Int) (hm0 : 0 ≤ most) (hm1 : most ≤ 50) :
    D T (.call 5 [.ptr o 0, .agg [a0, a1, vt, a3, a4, a5, a6], .int .i64 most] s (fun v s' => (∃ ms : List (Int × Int), IsL v (ms.map sp) ∧ (ms.length : Int) ≤ most ∧ ∀ p ∈ ms, InText ts p.1 p.2) ∧ St.Tp s o lv s')) := by
  have h14 := M.h14
  have h30 := M.h30
  have hlst := t.lst
  have hmem := t.mem
  have hlt := t.lt
  have hat := t.ha
  refine C.fn M.h5 rfl ?_
  unfold v5
  dsimp only
  (repeat' (first | (refine NXt ?_; try intro K hK) | (refine hK _ _ ?_; clear hK; clear K; try simp only [RP, ↓reduceIte, Nat.reduceEqDiff, reduceCtorEq]) | ((first | refine GC_case_t (fun hr => ?_) (fun hr => ?_) | refine GC_case_f (fun hr => ?_) (fun hr => ?_)) <;> (have h := hr; (try simp only [RH, reduceCtorEq] at h); simp (disch := first|exact DB|fail) only [hr, RB, ↓reduceIte, Nat.reduceEqDiff, reduceCtorEq, Nat.reduceLeDiff, Nat.reduceAdd, Int.reduceToNat, Nat.reduceLT, hmem]; clear hr) <;> (try (exfalso; omega))) | (refine X_callc rfl ?_; simp (disch := first|exact DB|fail) only [List.nil_append, List.append_nil, RB, ↓reduceIte, Nat.reduceEqDiff, reduceCtorEq, Nat.reduceLeDiff, Nat.reduceAdd, Int.reduceToNat, Nat.reduceLT, hmem]; refine D.mono_call (Matches_spec M (TapeOk.mk (lv := lv) (by (simp (disch := first|exact DB|fail) only [RB, ↓reduceIte, Nat.reduceEqDiff, reduceCtorEq, Nat.reduceLeDiff, Nat.reduceAdd, Int.reduceToNat, Nat.reduceLT, hmem, Int.natCast_add, Int.natCast_one, Int.natCast_succ]) <;> rfl) (by first | omega | (((first | exact SCb | refine SBb ?_)) <;> omega)) (by omega) hlst) _ _ _ _ _ _ _ _ _ hL hT hN hlen hlen2 _ hm0 hm1) ?_; rintro v s' ⟨⟨ms, ims, hml, hmP⟩, a', δ, ha', hδ, rfl⟩; (try simp only [NB] at hδ); refine ⟨by first | exact CK | (simp only [RC, Chk.ok, V.ent]; simp (disch := first|exact DB|fail) only [RT, RB, ↓reduceIte, Nat.reduceEqDiff, reduceCtorEq, Nat.reduceLeDiff, Nat.reduceAdd, Int.reduceToNat, Nat.reduceLT, hmem]), ?_⟩; try simp (disch := first|exact DB|fail) only [RB, ↓reduceIte, Nat.reduceEqDiff, reduceCtorEq, Nat.reduceLeDiff, Nat.reduceAdd, Int.reduceToNat, Nat.reduceLT, hmem]) | (show D _ (J.ops _ _ _ _); simp (disch := first|exact DB|fail) only [RB, ↓reduceIte, Nat.reduceEqDiff, reduceCtorEq, Nat.reduceLeDiff, Nat.reduceAdd, Int.reduceToNat, Nat.reduceLT, hmem]) | (refine T_app ?_; try simp (disch := first|exact DB|fail) only [RB, ↓reduceIte, Nat.reduceEqDiff, reduceCtorEq, Nat.reduceLeDiff, Nat.reduceAdd, Int.reduceToNat, Nat.reduceLT, hmem]) | (refine T_fork ?_ ?_) | (simp only [T_nil]) | (refine TS (fun h => ?_) (fun h => ?_) (hc := by (simp (disch := first|exact DB|fail) only [RB, ↓reduceIte, Nat.reduceEqDiff, reduceCtorEq, Nat.reduceLeDiff, Nat.reduceAdd, Int.reduceToNat, Nat.reduceLT, hmem]) <;> rfl) <;> (try simp only [RH, reduceCtorEq] at h) <;> (try (exfalso; omega))) | (show retR _ _ _ _ _; simp (disch := first|exact DB|fail) only [RR, RB, ↓reduceIte, Nat.reduceEqDiff, reduceCtorEq, Nat.reduceLeDiff, Nat.reduceAdd, Int.reduceToNat, Nat.reduceLT, hmem]) | exact rfl))
  have hlenm : lenV v = some ms.length := by rw [ims.len, List.length_map]
  simp (disch := first|exact DB|fail) only [RB, ↓reduceIte, Nat.reduceEqDiff, reduceCtorEq, Nat.reduceLeDiff, Nat.reduceAdd, Int.reduceToNat, Nat.reduceLT, hlenm, ims.notStr]
  (repeat' (first | (refine NXt ?_; try intro K hK) | (refine hK _ _ ?_; clear hK; clear K; try simp only [RP, ↓reduceIte, Nat.reduceEqDiff, reduceCtorEq]) | ((first | refine GC_case_t (fun hr => ?_) (fun hr => ?_) | refine GC_case_f (fun hr => ?_) (fun hr => ?_)) <;> (have h := hr; (try simp only [RH, reduceCtorEq] at h); simp (disch := first|exact DB|fail) only [hr, RB, ↓reduceIte, Nat.reduceEqDiff, reduceCtorEq, Nat.reduceLeDiff, Nat.reduceAdd, Int.reduceToNat, Nat.reduceLT]; clear hr) <;> (try (exfalso; omega))) | (show D _ (J.ops _ _ _ _); refine SBb ?_) | (refine T_app ?_; try refine SBb ?_) | (refine T_fork ?_ ?_) | (simp only [T_nil]) | (refine TS (fun h => ?_) (fun h => ?_) (hc := HCb) <;> (try simp only [RH, reduceCtorEq] at h) <;> (try (exfalso; omega))) | (show retR _ _ _ _ _; simp (disch := first|exact DB|fail) only [RR, RB, ↓reduceIte, Nat.reduceEqDiff, reduceCtorEq, Nat.reduceLeDiff, Nat.reduceAdd, Int.reduceToNat, Nat.reduceLT]) | exact rfl))
  have hw : ∀ l : List (Int × Int), wOk 2 (l.map sp) = true := fun l => wOk_of fun x hx => by obtain ⟨p, _, rfl⟩ := List.mem_map.1 hx; rfl
  refine W.seq (W.range (N := ms.length) (fun k F s' => St.LeW [o] s s' ∧ ∃ (a' : Nat) (vo : V), a' ≤ 1000 ∧ s'.mem o = some (.obj [lv, .int .i64 a']) ∧ F 7 = vo ∧ Tip0 s s' vo 2 ((ms.take k).map sp)) IB IB (by omega) rfl ST ⟨by (exact LWb), a', .nilsl, ha', by (first | exact SCb | refine SBb ?_), IB, Tip0.nil⟩ ?_ ?_)
  · rintro k F s' hk hfr hi ⟨hle2, a2, vo, ha2, hmo2, h7, htip⟩
    have hnx2 := hle2.1
    (repeat' (first | (refine NXt ?_; try intro K hK) | (refine hK _ _ ?_; clear hK; clear K; try simp only [RP, ↓reduceIte, Nat.reduceEqDiff, reduceCtorEq]) | ((first | refine GC_case_t (fun hr => ?_) (fun hr => ?_) | refine GC_case_f (fun hr => ?_) (fun hr => ?_)) <;> (have h := hr; (try simp only [RH, reduceCtorEq] at h); simp (disch := first|exact DB|fail) only [hr, RB, ↓reduceIte, Nat.reduceEqDiff, reduceCtorEq, Nat.reduceLeDiff, Nat.reduceAdd, Int.reduceToNat, Nat.reduceLT, hfr, hi, ims.ixm, h7]; clear hr) <;> (try (exfalso; omega))) | (show D _ (J.ops _ _ _ _); simp (disch := first|exact DB|fail) only [RB, ↓reduceIte, Nat.reduceEqDiff, reduceCtorEq, Nat.reduceLeDiff, Nat.reduceAdd, Int.reduceToNat, Nat.reduceLT, hfr, hi, ims.ixm, h7]) | (refine T_app ?_; try simp (disch := first|exact DB|fail) only [RB, ↓reduceIte, Nat.reduceEqDiff, reduceCtorEq, Nat.reduceLeDiff, Nat.reduceAdd, Int.reduceToNat, Nat.reduceLT, hfr, hi, ims.ixm, h7]) | (refine T_fork ?_ ?_) | (simp only [T_nil]) | (refine TS (fun h => ?_) (fun h => ?_) (hc := by (simp (disch := first|exact DB|fail) only [RB, ↓reduceIte, Nat.reduceEqDiff, reduceCtorEq, Nat.reduceLeDiff, Nat.reduceAdd, Int.reduceToNat, Nat.reduceLT, hfr, hi, ims.ixm, h7]) <;> rfl) <;> (try simp only [RH, reduceCtorEq] at h) <;> (try (exfalso; omega))) | (show retR _ _ _ _ _; simp (disch := first|exact DB|fail) only [RR, RB, ↓reduceIte, Nat.reduceEqDiff, reduceCtorEq, Nat.reduceLeDiff, Nat.reduceAdd, Int.reduceToNat, Nat.reduceLT, hfr, hi, ims.ixm, h7]) | exact rfl))
    refine X_appW (W := [o]) (S0 := s) (v := vo) rfl rfl (by (repeat' (first | assumption | exact Tip0.nil | refine Tip0.new_ ?_ | refine Tip0.over_ ?_ ?_ | refine Tip0.set_ ?_ (by (simp (disch := first|exact DB|fail) only [RB, ↓reduceIte, Nat.reduceEqDiff, reduceCtorEq, Nat.reduceLeDiff, Nat.reduceAdd, Int.reduceToNat, Nat.reduceLT, hmo2, Int.natCast_add, Int.natCast_one, Int.natCast_succ]) <;> rfl) | refine Tip0.tp_ ?_ ?_ (by (simp (disch := first|exact DB|fail) only [RB, ↓reduceIte, Nat.reduceEqDiff, reduceCtorEq, Nat.reduceLeDiff, Nat.reduceAdd, Int.reduceToNat, Nat.reduceLT, hmo2, Int.natCast_add, Int.natCast_one, Int.natCast_succ]) <;> rfl) | omega | (simp only [NB]; omega)))) (by (exact LWb)) rfl rfl rfl (hw _) (by simp; omega) (by omega) (fun _ _ => trivial) ?_
    intro v' δ7 htip' hle' hδ7
    (try simp only [NB] at hδ7)
    (repeat' (first | (refine NXt ?_; try intro K hK) | (refine hK _ _ ?_; clear hK; clear K; try simp only [RP, ↓reduceIte, Nat.reduceEqDiff, reduceCtorEq]) | ((first | refine GC_case_t (fun hr => ?_) (fun hr => ?_) | refine GC_case_f (fun hr => ?_) (fun hr => ?_)) <;> (have h := hr; (try simp only [RH, reduceCtorEq] at h); simp (disch := first|exact DB|fail) only [hr, RB, ↓reduceIte, Nat.reduceEqDiff, reduceCtorEq, Nat.reduceLeDiff, Nat.reduceAdd, Int.reduceToNat, Nat.reduceLT]; clear hr) <;> (try (exfalso; omega))) | (show D _ (J.ops _ _ _ _); refine SBb ?_) | (refine T_app ?_; try refine SBb ?_) | (refine T_fork ?_ ?_) | (simp only [T_nil]) | (refine TS (fun h => ?_) (fun h => ?_) (hc := HCb) <;> (try simp only [RH, reduceCtorEq] at h) <;> (try (exfalso; omega))) | (show retR _ _ _ _ _; simp (disch := first|exact DB|fail) only [RR, RB, ↓reduceIte, Nat.reduceEqDiff, reduceCtorEq, Nat.reduceLeDiff, Nat.reduceAdd, Int.reduceToNat, Nat.reduceLT]) | exact rfl))
    exact ⟨hle', a2, v', ha2, (by (simp (disch := first|exact DB|fail) only [RB, ↓reduceIte, Nat.reduceEqDiff, reduceCtorEq, Nat.reduceLeDiff, Nat.reduceAdd, Int.reduceToNat, Nat.reduceLT, hmo2, Int.natCast_add, Int.natCast_one, Int.natCast_succ]) <;> rfl), IB, by rw [List.take_succ_eq_append_getElem hk, List.map_append]; exact htip'⟩
  · rintro F s' hfr ⟨hle2, a2, vo, ha2, hmo2, h7, htip⟩
    (repeat' (first | (refine NXt ?_; try intro K hK) | (refine hK _ _ ?_; clear hK; clear K; try simp only [RP, ↓reduceIte, Nat.reduceEqDiff, reduceCtorEq]) | ((first | refine GC_case_t (fun hr => ?_) (fun hr => ?_) | refine GC_case_f (fun hr => ?_) (fun hr => ?_)) <;> (have h := hr; (try simp only [RH, reduceCtorEq] at h); simp (disch := first|exact DB|fail) only [hr, RB, ↓reduceIte, Nat.reduceEqDiff, reduceCtorEq, Nat.reduceLeDiff, Nat.reduceAdd, Int.reduceToNat, Nat.reduceLT, hfr, h7]; clear hr) <;> (try (exfalso; omega))) | (show D _ (J.ops _ _ _ _); simp (disch := first|exact DB|fail) only [RB, ↓reduceIte, Nat.reduceEqDiff, reduceCtorEq, Nat.reduceLeDiff, Nat.reduceAdd, Int.reduceToNat, Nat.reduceLT, hfr, h7]) | (refine T_app ?_; try simp (disch := first|exact DB|fail) only [RB, ↓reduceIte, Nat.reduceEqDiff, reduceCtorEq, Nat.reduceLeDiff, Nat.reduceAdd, Int.reduceToNat, Nat.reduceLT, hfr, h7]) | (refine T_fork ?_ ?_) | (simp only [T_nil]) | (refine TS (fun h => ?_) (fun h => ?_) (hc := by (simp (disch := first|exact DB|fail) only [RB, ↓reduceIte, Nat.reduceEqDiff, reduceCtorEq, Nat.reduceLeDiff, Nat.reduceAdd, Int.reduceToNat, Nat.reduceLT, hfr, h7]) <;> rfl) <;> (try simp only [RH, reduceCtorEq] at h) <;> (try (exfalso; omega))) | (show retR _ _ _ _ _; simp (disch := first|exact DB|fail) only [RR, RB, ↓reduceIte, Nat.reduceEqDiff, reduceCtorEq, Nat.reduceLeDiff, Nat.reduceAdd, Int.reduceToNat, Nat.reduceLT, hfr, h7]) | exact rfl))
    rw [List.take_length] at htip
    exact ⟨⟨ms, htip.isL, hml, hmP⟩, LeW.tp hle2 ha2 hmo2⟩
end Go.VS.Fn

namespace Go.VS.Fn
open Go.VS
variable {T : Nat → Option FnDef}

theorem Grow_spec (h : T 103 = some (.body v103)) (n : Nat) (s : St) (hn : n ≤ 1000000) :
    D T (.call 103 [.nilsl, .int .i64 n] s (fun v s' => (n = 0 ∧ v = .nilsl ∧ s' = s) ∨ (0 < n ∧ v = .row s.next 2 0 0 ∧ s' = s.new (.row [])))) := by
  (refine C.fn (by assumption) rfl ?_)
  unfold v103
  dsimp only
  (refine W.so fun K hK => ?_; simp only [RL, ↓reduceIte, Nat.reduceEqDiff, reduceCtorEq, Nat.reduceLeDiff, Nat.reduceAdd]; refine hK _ _ ?_; clear hK; clear K)
  refine W.assoc ?_
  (refine W.so fun K hK => ?_; simp only [RL, ↓reduceIte, Nat.reduceEqDiff, reduceCtorEq, Nat.reduceLeDiff, Nat.reduceAdd]; refine hK _ _ ?_; clear hK; clear K)
  refine W.test (by (simp only [RL, ↓reduceIte, Nat.reduceEqDiff, reduceCtorEq, Nat.reduceLeDiff, Nat.reduceAdd]) <;> rfl) (fun h => ?_) (fun h => ?_)
  · simp at h; omega
  refine D.skip ?_
  simp only [seqK]
  refine W.assoc ?_
  have e1 : IntKind.i64.wrap ((n : Int) - IntKind.i64.wrap (0 - 0)) = (n : Int) := by
    rw [show IntKind.i64.wrap (0 - 0) = 0 from rfl, wrap64 (by omega) (by omega)]; simp
  (refine W.so fun K hK => ?_; simp only [RL, ↓reduceIte, Nat.reduceEqDiff, reduceCtorEq, Nat.reduceLeDiff, Nat.reduceAdd, Int.cast_ofNat_Int, Int.natCast_zero, e1]; refine hK _ _ ?_; clear hK; clear K)
  refine W.assoc ?_
  (refine W.so fun K hK => ?_; simp only [RL, ↓reduceIte, Nat.reduceEqDiff, reduceCtorEq, Nat.reduceLeDiff, Nat.reduceAdd]; refine hK _ _ ?_; clear hK; clear K)
  refine W.test (by (simp only [RL, ↓reduceIte, Nat.reduceEqDiff, reduceCtorEq, Nat.reduceLeDiff, Nat.reduceAdd]) <;> rfl) (fun h => ?_) (fun h => ?_)
  · simp at h
    refine W.ops' fun K hK => ?_
    have hm1 : (0 : Int) < (n : Int) := by omega
    have hm2 : (n : Int) ≤ (most : Int) := by simp only [most]; omega
    have hm3 : decide (16 ≤ 4096) = true := rfl
    simp only [RL, ↓reduceIte, Nat.reduceEqDiff, reduceCtorEq, Nat.reduceLeDiff, Nat.reduceAdd, sliceV, asIdx, Int.le_refl, Int.toNat_zero, h, hm1, hm2, hm3, Bool.and_self, Bool.and_true, Int.natCast_zero, Int.toNat_natCast, Nat.zero_le, Nat.sub_self, Nat.sub_zero, Nat.beq_refl]
    refine hK _ _ ?_
    simp only [seqK]
    (refine W.so fun K hK => ?_; simp only [RL, ↓reduceIte, Nat.reduceEqDiff, reduceCtorEq, Nat.reduceLeDiff, Nat.reduceAdd]; refine hK _ _ ?_; clear hK; clear K)
    (refine D.ret ?_; simp only [seqK, retR, resAll, ResV.get, resV, RL, ↓reduceIte, Nat.reduceEqDiff, reduceCtorEq, Nat.reduceLeDiff, Nat.reduceAdd])
    exact .inr ⟨h, trivial, trivial⟩
  · refine D.skip ?_
    simp only [seqK]
    (refine W.so fun K hK => ?_; simp only [RL, ↓reduceIte, Nat.reduceEqDiff, reduceCtorEq, Nat.reduceLeDiff, Nat.reduceAdd]; refine hK _ _ ?_; clear hK; clear K)
    (refine D.ret ?_; simp only [seqK, retR, resAll, ResV.get, resV, RL, ↓reduceIte, Nat.reduceEqDiff, reduceCtorEq, Nat.reduceLeDiff, Nat.reduceAdd])
    simp at h
    exact .inl ⟨h, trivial, trivial⟩
end Go.VS.Fn

namespace Go.VS.Fn
open Go.VS
variable {T : Nat → Option FnDef}

/-- A row that is written to, whole; or nil. -/
def RowAt (s : St) (v : V) (k : Nat) (xs : List V) : Prop := (v = .nilsl ∧ xs = []) ∨ ∃ r, v = .row r k 0 xs.length ∧ r < s.next ∧ s.mem r = some (.row xs)

theorem le_kill_new {s0 s : St} (h : St.Le s0 s) (r : Nat) (hr : s0.next ≤ r) (hn : s0.next ≤ s.next) (e : Ent) : St.Le s0 ((s.kill r).new e) :=
  ⟨by rw [next_new', next_kill']; omega, fun id hi _ => by rw [mem_new', if_neg (by rw [next_kill']; omega), mem_kill', if_neg (by omega)]; exact h.2 id hi (by simp)⟩

/-- What was there before s0 stands; the row is newer. -/
def NewRow (s0 s : St) (v : V) : Prop := St.Le s0 s ∧ ∀ r k o n, v = .row r k o n → s0.next ≤ r

theorem append_row {s0 s : St} {v w : V} {k by_ : Nat} {xs ys : List V} (h : RowAt s v k xs) (hn : NewRow s0 s v) (hw : elems w s = some ys) (hr : rowOk w k = true) (h1 : wOk k ys = true) (hl : xs.length + ys.length ≤ most) (hb : by_ ≤ 4096) :
    ∃ v' s', appendV true k by_ v w s = some (v', s') ∧ RowAt s' v' k (xs ++ ys) ∧ NewRow s0 s' v' := by
  have hnext := hn.1.1
  rcases h with ⟨rfl, rfl⟩ | ⟨r, rfl, hrn, hm⟩
  · by_cases hy : ys = []
    · subst hy
      exact ⟨.nilsl, s, by simp [appendV, hw, wOk, hr, show rowOk V.nilsl k = true from rfl], .inl ⟨rfl, rfl⟩, hn⟩
    · have : ys.isEmpty = false := by simp [hy]
      simp only [List.length_nil, Nat.zero_add] at hl
      refine ⟨.row s.next k 0 ys.length, s.new (.row ys), ?_, .inr ⟨s.next, by simp, by simp [next_new'], by simp [mem_new']⟩, hn.1.trans (St.LeW.new _ _ _), ?_⟩
      · simp [appendV, hw, h1, show rowOk V.nilsl k = true from rfl, hr, this, hl, hb]
      · intro r k' o n e
        injection e with e
        subst e
        exact hnext
  · have h0 := hn.2 r k 0 xs.length rfl
    by_cases hy : ys = []
    · subst hy
      exact ⟨.row r k 0 xs.length, s, by simp [appendV, hw, wOk, hr, show rowOk (V.row r k 0 xs.length) k = true from by simp [rowOk]], .inr ⟨r, by simp, hrn, by simpa using hm⟩, hn⟩
    · have : ys.isEmpty = false := by simp [hy]
      refine ⟨.row s.next k 0 (xs.length + ys.length), (s.kill r).new (.row (xs ++ ys)), ?_, .inr ⟨s.next, by simp, by simp [next_new', next_kill'], by simp [mem_new', next_kill']⟩, le_kill_new hn.1 r h0 hnext _, ?_⟩
      · have he : elems (.row r k 0 xs.length) s = some xs := by simp [elems, hm]
        simp [appendV, hw, h1, show rowOk (V.row r k 0 xs.length) k = true from by simp [rowOk], hr, this, hl, hb, he]
      · intro r' k' o n e
        injection e with e
        subst e
        exact hnext

theorem concat_len (h43 : T 43 = some (.body v43)) (h103 : T 103 = some (.body v103)) (ls : List (V × List V)) (v : V) (s : St) (hv : IsL v (ls.map (·.1))) (hls : ∀ p ∈ ls, IsL p.1 p.2) (hn : (ls.flatMap (·.2)).length ≤ 1000000) (hl : ls.length ≤ 1000) (hwo : ∀ p ∈ ls, wOk 2 p.2 = true) :
    D T (.call 43 [v] s (fun u s' => RowAt s' u 2 (ls.flatMap (·.2)) ∧ St.Le s s' ∧ ∀ r k o n, u = .row r k o n → s.next ≤ r)) := by
  have lv := hv.len
  rw [List.length_map] at lv
  have hsum : ∀ i, ((ls.take i).flatMap (·.2)).length ≤ 1000000 := fun i => by
    refine Nat.le_trans ?_ hn
    have := List.take_append_drop i ls
    conv => rhs; rw [← this]
    simp only [List.flatMap_append, List.length_append]
    omega
  (refine C.fn (by assumption) rfl ?_)
  unfold v43
  dsimp only
  (refine W.so fun K hK => ?_; simp only [RL, ↓reduceIte, Nat.reduceEqDiff, reduceCtorEq, Nat.reduceLeDiff, Nat.reduceAdd]; refine hK _ _ ?_; clear hK; clear K)
  (refine W.so fun K hK => ?_; simp only [RL, ↓reduceIte, Nat.reduceEqDiff, reduceCtorEq, Nat.reduceLeDiff, Nat.reduceAdd]; refine hK _ _ ?_; clear hK; clear K)
  refine W.assoc ?_
  (refine W.so fun K hK => ?_; simp only [RL, ↓reduceIte, Nat.reduceEqDiff, reduceCtorEq, Nat.reduceLeDiff, Nat.reduceAdd, lv, hv.notStr]; refine hK _ _ ?_; clear hK; clear K)
  refine W.seq (.block (W.loop (fun n F s' => ∃ i : Nat, n = ls.length - i ∧ i ≤ ls.length ∧ F 11 = .int .i64 i ∧ F 10 = .int .i64 ls.length ∧ F 9 = v ∧ F 0 = v ∧ F 3 = .int .i64 (((ls.take i).flatMap (·.2)).length : Nat) ∧ s' = s) ls.length ?_ ?_))
  · refine ⟨0, by simp, by simp, ?_, ?_, ?_, ?_, ?_, rfl⟩ <;> simp only [RL, ↓reduceIte, Nat.reduceEqDiff, reduceCtorEq, Nat.reduceLeDiff, Nat.reduceAdd] <;> rfl
  rintro n F s' ⟨i, rfl, hi, h11, h10, h9, h0, h3, hs⟩
  have hs := hs.symm
  subst hs
  (refine W.so fun K hK => ?_; simp only [RL, ↓reduceIte, Nat.reduceEqDiff, reduceCtorEq, Nat.reduceLeDiff, Nat.reduceAdd, h11, h10]; refine hK _ _ ?_; clear hK; clear K)
  refine W.test (by (simp only [RL, ↓reduceIte, Nat.reduceEqDiff, reduceCtorEq, Nat.reduceLeDiff, Nat.reduceAdd]) <;> rfl) (fun h => ?_) (fun h => ?_)
  · simp only [decide_eq_true_eq] at h
    have hi' : i < ls.length := by omega
    have ea : (ls.map (·.1))[i]? = some ls[i].1 := by simp [hi']
    have hx := hls _ (List.getElem_mem hi')
    obtain ⟨c1, g1, j1, ia⟩ := hv.idx (kk := .i64) ea (k := 1) (by rw [hx.cells1]; rfl)
    rw [hx.cells1] at ia
    have lx := hx.len
    have ex : ((ls.take (i + 1)).flatMap (·.2)).length = ((ls.take i).flatMap (·.2)).length + ls[i].2.length := by
      rw [List.take_succ_eq_append_getElem hi', List.flatMap_append, List.length_append]; simp
    have b0 := hsum (i + 1)
    have e1 : IntKind.i64.wrap ((((ls.take i).flatMap (·.2)).length : Int) + (ls[i].2.length : Int)) = (((ls.take (i + 1)).flatMap (·.2)).length : Nat) := by
      rw [wrap64 (by omega) (by omega), ex]; simp
    refine D.skip ?_
    simp only [seqK]
    refine W.seq (.block ?_)
    (refine W.so fun K hK => ?_; simp only [RL, ↓reduceIte, Nat.reduceEqDiff, reduceCtorEq, Nat.reduceLeDiff, Nat.reduceAdd, h9, h11, ia]; refine hK _ _ ?_; clear hK; clear K)
    (refine W.so fun K hK => ?_; simp only [RL, ↓reduceIte, Nat.reduceEqDiff, reduceCtorEq, Nat.reduceLeDiff, Nat.reduceAdd, h3, lx, hx.notStr, e1]; refine hK _ _ ?_; clear hK; clear K)
    (refine W.so fun K hK => ?_; simp only [RL, ↓reduceIte, Nat.reduceEqDiff, reduceCtorEq, Nat.reduceLeDiff, Nat.reduceAdd]; refine hK _ _ ?_; clear hK; clear K)
    refine W.cond (by (simp only [RL, ↓reduceIte, Nat.reduceEqDiff, reduceCtorEq, Nat.reduceLeDiff, Nat.reduceAdd]) <;> rfl) (fun h => ?_) (fun h => ?_)
    · simp at h; omega
    refine D.skip ?_
    simp only [seqK, blockK]
    (refine W.ops' fun K hK => ?_; simp only [RL, ↓reduceIte, Nat.reduceEqDiff, reduceCtorEq, Nat.reduceLeDiff, Nat.reduceAdd, h11, wrap64 (show -9223372036854775808 ≤ (i : Int) + 1 by omega) (by omega)]; refine hK _ _ ?_; clear hK; clear K)
    simp only [seqK]
    refine ⟨ls.length - (i + 1), by omega, i + 1, rfl, by omega, ?_, ?_, ?_, ?_, ?_, trivial⟩
    · simp only [RL, ↓reduceIte, Nat.reduceEqDiff, reduceCtorEq, Nat.reduceLeDiff, Nat.reduceAdd]; simp
    · simp only [RL, ↓reduceIte, Nat.reduceEqDiff, reduceCtorEq, Nat.reduceLeDiff, Nat.reduceAdd, h10]
    · simp only [RL, ↓reduceIte, Nat.reduceEqDiff, reduceCtorEq, Nat.reduceLeDiff, Nat.reduceAdd, h9]
    · simp only [RL, ↓reduceIte, Nat.reduceEqDiff, reduceCtorEq, Nat.reduceLeDiff, Nat.reduceAdd, h0]
    · simp only [RL, ↓reduceIte, Nat.reduceEqDiff, reduceCtorEq, Nat.reduceLeDiff, Nat.reduceAdd]
  · refine D.exit ?_
    simp only [seqK, blockK, Nat.beq_refl, cond_true]
    have hi0 : i = ls.length := by simp at h; omega
    subst hi0
    rw [List.take_length] at h3
    (refine W.so fun K hK => ?_; simp only [RL, ↓reduceIte, Nat.reduceEqDiff, reduceCtorEq, Nat.reduceLeDiff, Nat.reduceAdd, h3])
    (refine X_callc rfl ?_; simp only [RL, ↓reduceIte, Nat.reduceEqDiff, reduceCtorEq, Nat.reduceLeDiff, Nat.reduceAdd, List.nil_append, List.append_nil])
    refine (Grow_spec h103 _ _ hn).mono_call ?_
    intro u s1 hu
    refine ⟨by simp, ?_⟩
    have hu' : RowAt s1 u 2 [] ∧ NewRow s s1 u := by
      rcases hu with ⟨_, rfl, rfl⟩ | ⟨_, rfl, rfl⟩
      · exact ⟨.inl ⟨rfl, rfl⟩, St.LeW.refl _ _, fun _ _ _ _ e => by cases e⟩
      · refine ⟨.inr ⟨s.next, rfl, by simp [next_new'], by simp [mem_new']⟩, St.LeW.new _ _ _, fun r k o n e => ?_⟩
        injection e with e
        omega
    obtain ⟨hrow, hnew⟩ := hu'
    ((try simp only [RL, ↓reduceIte, Nat.reduceEqDiff, reduceCtorEq, Nat.reduceLeDiff, Nat.reduceAdd]); refine hK _ _ ?_; clear hK; clear K)
    refine W.assoc ?_
    (refine W.so fun K hK => ?_; simp only [RL, ↓reduceIte, Nat.reduceEqDiff, reduceCtorEq, Nat.reduceLeDiff, Nat.reduceAdd, h0, lv, hv.notStr]; refine hK _ _ ?_; clear hK; clear K)
    refine W.seq (.block (W.loop (fun n F s' => ∃ i : Nat, n = ls.length - i ∧ i ≤ ls.length ∧ F 27 = .int .i64 i ∧ F 26 = .int .i64 ls.length ∧ F 25 = v ∧ RowAt s' (F 6) 2 ((ls.take i).flatMap (·.2)) ∧ NewRow s s' (F 6)) ls.length ?_ ?_))
    · refine ⟨0, by simp, by simp, ?_, ?_, ?_, ?_, ?_⟩
      · simp only [RL, ↓reduceIte, Nat.reduceEqDiff, reduceCtorEq, Nat.reduceLeDiff, Nat.reduceAdd]; rfl
      · simp only [RL, ↓reduceIte, Nat.reduceEqDiff, reduceCtorEq, Nat.reduceLeDiff, Nat.reduceAdd]
      · simp only [RL, ↓reduceIte, Nat.reduceEqDiff, reduceCtorEq, Nat.reduceLeDiff, Nat.reduceAdd]
      · simp only [RL, ↓reduceIte, Nat.reduceEqDiff, reduceCtorEq, Nat.reduceLeDiff, Nat.reduceAdd]; exact hrow
      · simp only [RL, ↓reduceIte, Nat.reduceEqDiff, reduceCtorEq, Nat.reduceLeDiff, Nat.reduceAdd]; exact hnew
    rintro n F' s2 ⟨i, rfl, hi, h27, h26, h25, hrow2, hnew2⟩
    (refine W.so fun K hK => ?_; simp only [RL, ↓reduceIte, Nat.reduceEqDiff, reduceCtorEq, Nat.reduceLeDiff, Nat.reduceAdd, h27, h26]; refine hK _ _ ?_; clear hK; clear K)
    refine W.test (by (simp only [RL, ↓reduceIte, Nat.reduceEqDiff, reduceCtorEq, Nat.reduceLeDiff, Nat.reduceAdd]) <;> rfl) (fun h => ?_) (fun h => ?_)
    · simp only [decide_eq_true_eq] at h
      have hi' : i < ls.length := by omega
      have ea : (ls.map (·.1))[i]? = some ls[i].1 := by simp [hi']
      have hx := hls _ (List.getElem_mem hi')
      obtain ⟨c1, g1, j1, ia⟩ := hv.idx (kk := .i64) ea (k := 1) (by rw [hx.cells1]; rfl)
      rw [hx.cells1] at ia
      have ex : (ls.take (i + 1)).flatMap (·.2) = (ls.take i).flatMap (·.2) ++ ls[i].2 := by
        rw [List.take_succ_eq_append_getElem hi', List.flatMap_append]; simp
      have b0 := hsum (i + 1)
      rw [ex, List.length_append] at b0
      obtain ⟨u', s3, happ, hrow3, hnew3⟩ := append_row (by_ := 16) hrow2 hnew2 (hx.elems (s := s2)) (by rcases hx with ⟨e, _⟩ | ⟨c, g, off, e⟩ <;> rw [e] <;> rfl) (hwo _ (List.getElem_mem hi')) (by simp only [most]; omega) (by omega)
      refine D.skip ?_
      simp only [seqK]
      refine W.seq (.block ?_)
      (refine W.so fun K hK => ?_; simp only [RL, ↓reduceIte, Nat.reduceEqDiff, reduceCtorEq, Nat.reduceLeDiff, Nat.reduceAdd, h25, h27, ia]; refine hK _ _ ?_; clear hK; clear K)
      (refine W.ops' fun K hK => ?_; simp only [RL, ↓reduceIte, Nat.reduceEqDiff, reduceCtorEq, Nat.reduceLeDiff, Nat.reduceAdd, happ]; refine hK _ _ ?_; clear hK; clear K)
      simp only [seqK, blockK]
      (refine W.ops' fun K hK => ?_; simp only [RL, ↓reduceIte, Nat.reduceEqDiff, reduceCtorEq, Nat.reduceLeDiff, Nat.reduceAdd, h27, wrap64 (show -9223372036854775808 ≤ (i : Int) + 1 by omega) (by omega)]; refine hK _ _ ?_; clear hK; clear K)
      simp only [seqK]
      refine ⟨ls.length - (i + 1), by omega, i + 1, rfl, by omega, ?_, ?_, ?_, ?_, ?_⟩
      · simp only [RL, ↓reduceIte, Nat.reduceEqDiff, reduceCtorEq, Nat.reduceLeDiff, Nat.reduceAdd]; simp
      · simp only [RL, ↓reduceIte, Nat.reduceEqDiff, reduceCtorEq, Nat.reduceLeDiff, Nat.reduceAdd, h26]
      · simp only [RL, ↓reduceIte, Nat.reduceEqDiff, reduceCtorEq, Nat.reduceLeDiff, Nat.reduceAdd, h25]
      · simp only [RL, ↓reduceIte, Nat.reduceEqDiff, reduceCtorEq, Nat.reduceLeDiff, Nat.reduceAdd]; rw [ex]; exact hrow3
      · simp only [RL, ↓reduceIte, Nat.reduceEqDiff, reduceCtorEq, Nat.reduceLeDiff, Nat.reduceAdd]; exact hnew3
    · refine D.exit ?_
      simp only [seqK, blockK, Nat.beq_refl, cond_true]
      (refine W.so fun K hK => ?_; simp only [RL, ↓reduceIte, Nat.reduceEqDiff, reduceCtorEq, Nat.reduceLeDiff, Nat.reduceAdd]; refine hK _ _ ?_; clear hK; clear K)
      (refine D.ret ?_; simp only [seqK, retR, resAll, ResV.get, resV, RL, ↓reduceIte, Nat.reduceEqDiff, reduceCtorEq, Nat.reduceLeDiff, Nat.reduceAdd])
      have hi0 : i = ls.length := by simp at h; omega
      subst hi0
      rw [List.take_length] at hrow2
      exact ⟨hrow2, hnew2.1, hnew2.2⟩
end Go.VS.Fn

namespace Go.VS.Fn
open Go.VS
variable {T : Nat → Option FnDef}

/-- The functions on lists of spans. -/
structure HS (T : Nat → Option FnDef) : Prop where
  h61 : T 61 = some (.body v61)
  h49 : T 49 = some (.body v49)
  h50 : T 50 = some (.body v50)
  h29 : T 29 = some (.body v29)
  h58 : T 58 = some (.body v58)
  h41 : T 41 = some (.body v41)
  h42 : T 42 = some (.body v42)
  h46 : T 46 = some (.body v46)
  h47 : T 47 = some (.body v47)
  h48 : T 48 = some (.body v48)
  h23 : T 23 = some (.body v23)
  h25 : T 25 = some (.body v25)
  h27 : T 27 = some (.body v27)
  h39 : T 39 = some (.body v39)
  h40 : T 40 = some (.body v40)
  h45 : T 45 = some (.body v45)
  h24 : T 24 = some (.body v24)
  h26 : T 26 = some (.body v26)
  h43 : T 43 = some (.body v43)
  h103 : T 103 = some (.body v103)
  h8 : T 8 = some (.body v8)
  h6 : T 6 = some (.body v6)
  h7 : T 7 = some (.body v7)
  h10 : T 10 = some (.body v10)
  h11 : T 11 = some (.body v11)
  h28 : T 28 = some (.body v28)
  h9 : T 9 = some (.body v9)
  h12 : T 12 = some (.body v12)

theorem isNaN_spec (h : T 61 = some (.body v61)) (n : Int) (s : St) : D T (.call 61 [.int .i64 n] s (fun v s' => v = .bool false ∧ s = s')) := by
  (refine C.fn (by assumption) rfl ?_)
  unfold v61
  dsimp only
  (repeat' (first | (refine NXt ?_; try intro K hK) | (refine hK _ _ ?_; clear hK; clear K; try simp only [RP, ↓reduceIte, Nat.reduceEqDiff, reduceCtorEq]) | ((first | refine GC_case_t (fun hr => ?_) (fun hr => ?_) | refine GC_case_f (fun hr => ?_) (fun hr => ?_)) <;> (have h := hr; (try simp only [RH, reduceCtorEq] at h); simp (disch := first|exact DB|fail) only [hr, RB, ↓reduceIte, Nat.reduceEqDiff, reduceCtorEq, Nat.reduceLeDiff, Nat.reduceAdd, Int.reduceToNat, Nat.reduceLT]; clear hr) <;> (try (exfalso; omega))) | (show D _ (J.ops _ _ _ _); refine SBb ?_) | (refine T_app ?_; try refine SBb ?_) | (refine T_fork ?_ ?_) | (simp only [T_nil]) | (refine TS (fun h => ?_) (fun h => ?_) (hc := HCb) <;> (try simp only [RH, reduceCtorEq] at h) <;> (try (exfalso; omega))) | (show retR _ _ _ _ _; simp (disch := first|exact DB|fail) only [RR, RB, ↓reduceIte, Nat.reduceEqDiff, reduceCtorEq, Nat.reduceLeDiff, Nat.reduceAdd, Int.reduceToNat, Nat.reduceLT]) | exact rfl))
  exact ⟨by simp, trivial⟩
/-- As cmp.Compare tells it. -/
def cmpI (a b : Int) : Int := if a < b then -1 else if b < a then 1 else 0
theorem cmpI_spec (S : HS T) (a b : Int) (s : St) : D T (.call 49 [.int .i64 a, .int .i64 b] s (fun v s' => v = .int .i64 (cmpI a b) ∧ s = s')) := by
  refine C.fn S.h49 rfl ?_
  unfold v49
  dsimp only
  (repeat' (first | (refine NXt ?_; try intro K hK) | (refine hK _ _ ?_; clear hK; clear K; try simp only [RP, ↓reduceIte, Nat.reduceEqDiff, reduceCtorEq]) | ((first | refine GC_case_t (fun hr => ?_) (fun hr => ?_) | refine GC_case_f (fun hr => ?_) (fun hr => ?_)) <;> (have h := hr; (try simp only [RH, reduceCtorEq] at h); simp (disch := first|exact DB|fail) only [hr, RB, ↓reduceIte, Nat.reduceEqDiff, reduceCtorEq, Nat.reduceLeDiff, Nat.reduceAdd, Int.reduceToNat, Nat.reduceLT]; clear hr) <;> (try (exfalso; omega))) | (refine X_callc rfl ?_; simp (disch := first|exact DB|fail) only [List.nil_append, List.append_nil, RB, ↓reduceIte, Nat.reduceEqDiff, reduceCtorEq, Nat.reduceLeDiff, Nat.reduceAdd, Int.reduceToNat, Nat.reduceLT]; refine D.mono_call (isNaN_spec S.h61 _ _) ?_; rintro v s' ⟨rfl, rfl⟩; (try simp only [NB] at hδ); refine ⟨by first | exact CK | (simp only [RC, Chk.ok, V.ent]; simp (disch := first|exact DB|fail) only [RT, RB, ↓reduceIte, Nat.reduceEqDiff, reduceCtorEq, Nat.reduceLeDiff, Nat.reduceAdd, Int.reduceToNat, Nat.reduceLT]), ?_⟩; try refine SBb ?_) | (show D _ (J.ops _ _ _ _); refine SBb ?_) | (refine T_app ?_; try refine SBb ?_) | (refine T_fork ?_ ?_) | (simp only [T_nil]) | (refine TS (fun h => ?_) (fun h => ?_) (hc := HCb) <;> (try simp only [RH, reduceCtorEq] at h) <;> (try (exfalso; omega))) | (show retR _ _ _ _ _; simp (disch := first|exact DB|fail) only [RR, RB, ↓reduceIte, Nat.reduceEqDiff, reduceCtorEq, Nat.reduceLeDiff, Nat.reduceAdd, Int.reduceToNat, Nat.reduceLT]) | exact rfl))
  all_goals exact ⟨by simp only [cmpI]; (repeat' split) <;> first | rfl | (exfalso; omega), trivial⟩
def cmpS (p q : Int × Int) : Int := if cmpI p.1 q.1 = 0 then cmpI p.2 q.2 else cmpI p.1 q.1
theorem Or_spec (S : HS T) (c g : Nat) (a b : Int) (s : St) : D T (.call 50 [.sl c g 0 [.int .i64 a, .int .i64 b]] s (fun v s' => v = .int .i64 (if a = 0 then b else a) ∧ s = s')) := by
  refine C.fn S.h50 rfl ?_
  unfold v50
  dsimp only
  (repeat' (first | (refine NXt ?_; try intro K hK) | (refine hK _ _ ?_; clear hK; clear K; try simp only [RP, ↓reduceIte, Nat.reduceEqDiff, reduceCtorEq]) | ((first | refine GC_case_t (fun hr => ?_) (fun hr => ?_) | refine GC_case_f (fun hr => ?_) (fun hr => ?_)) <;> (have h := hr; (try simp only [RH, reduceCtorEq] at h); simp (disch := first|exact DB|fail) only [hr, RB, ↓reduceIte, Nat.reduceEqDiff, reduceCtorEq, Nat.reduceLeDiff, Nat.reduceAdd, Int.reduceToNat, Nat.reduceLT]; clear hr) <;> (try (exfalso; omega))) | (show D _ (J.ops _ _ _ _); refine SBb ?_) | (refine T_app ?_; try refine SBb ?_) | (refine T_fork ?_ ?_) | (simp only [T_nil]) | (refine TS (fun h => ?_) (fun h => ?_) (hc := HCb) <;> (try simp only [RH, reduceCtorEq] at h) <;> (try (exfalso; omega))) | (show retR _ _ _ _ _; simp (disch := first|exact DB|fail) only [RR, RB, ↓reduceIte, Nat.reduceEqDiff, reduceCtorEq, Nat.reduceLeDiff, Nat.reduceAdd, Int.reduceToNat, Nat.reduceLT]) | exact rfl))
  refine W.seq (W.range0 (N := 2) (fun k F' => (1 ≤ k → a = 0) ∧ (2 ≤ k → b = 0)) IB IB (by omega) rfl (by intro k F x y z h; revert h; (try simp only [put_at, Nat.reduceEqDiff, reduceCtorEq, ↓reduceIte]); exact id) ⟨by omega, by omega⟩ ?_ ?_)
  · rintro k F hk hfr hi ⟨hI1, hI2⟩
    obtain rfl | rfl : k = 0 ∨ k = 1 := by omega
    · have e0 : ∀ kk : IntKind, idxV 1 (.sl c g 0 [.int .i64 a, .int .i64 b]) (.int kk 0) = some (.cptr c g 0 0 [.int .i64 a]) := fun kk => rfl
      (repeat' (first | (refine NXt ?_; try intro K hK) | (refine hK _ _ ?_; clear hK; clear K; try simp only [RP, ↓reduceIte, Nat.reduceEqDiff, reduceCtorEq]) | ((first | refine GC_case_t (fun hr => ?_) (fun hr => ?_) | refine GC_case_f (fun hr => ?_) (fun hr => ?_)) <;> (have h := hr; (try simp only [RH, reduceCtorEq] at h); simp (disch := first|exact DB|fail) only [hr, RB, ↓reduceIte, Nat.reduceEqDiff, reduceCtorEq, Nat.reduceLeDiff, Nat.reduceAdd, Int.reduceToNat, Nat.reduceLT, hfr, hi, e0]; clear hr) <;> (try (exfalso; omega))) | (show D _ (J.ops _ _ _ _); simp (disch := first|exact DB|fail) only [RB, ↓reduceIte, Nat.reduceEqDiff, reduceCtorEq, Nat.reduceLeDiff, Nat.reduceAdd, Int.reduceToNat, Nat.reduceLT, hfr, hi, e0]) | (refine T_app ?_; try simp (disch := first|exact DB|fail) only [RB, ↓reduceIte, Nat.reduceEqDiff, reduceCtorEq, Nat.reduceLeDiff, Nat.reduceAdd, Int.reduceToNat, Nat.reduceLT, hfr, hi, e0]) | (refine T_fork ?_ ?_) | (simp only [T_nil]) | (refine TS (fun h => ?_) (fun h => ?_) (hc := by (simp (disch := first|exact DB|fail) only [RB, ↓reduceIte, Nat.reduceEqDiff, reduceCtorEq, Nat.reduceLeDiff, Nat.reduceAdd, Int.reduceToNat, Nat.reduceLT, hfr, hi, e0]) <;> rfl) <;> (try simp only [RH, reduceCtorEq] at h) <;> (try (exfalso; omega))) | (show retR _ _ _ _ _; simp (disch := first|exact DB|fail) only [RR, RB, ↓reduceIte, Nat.reduceEqDiff, reduceCtorEq, Nat.reduceLeDiff, Nat.reduceAdd, Int.reduceToNat, Nat.reduceLT, hfr, hi, e0]) | exact rfl))
      · exact ⟨by rw [if_neg (by assumption)], trivial⟩
      · exact ⟨trivial, fun _ => by omega, by omega⟩
    · have e0 : ∀ kk : IntKind, idxV 1 (.sl c g 0 [.int .i64 a, .int .i64 b]) (.int kk 1) = some (.cptr c g 1 0 [.int .i64 b]) := fun kk => rfl
      (repeat' (first | (refine NXt ?_; try intro K hK) | (refine hK _ _ ?_; clear hK; clear K; try simp only [RP, ↓reduceIte, Nat.reduceEqDiff, reduceCtorEq]) | ((first | refine GC_case_t (fun hr => ?_) (fun hr => ?_) | refine GC_case_f (fun hr => ?_) (fun hr => ?_)) <;> (have h := hr; (try simp only [RH, reduceCtorEq] at h); simp (disch := first|exact DB|fail) only [hr, RB, ↓reduceIte, Nat.reduceEqDiff, reduceCtorEq, Nat.reduceLeDiff, Nat.reduceAdd, Int.reduceToNat, Nat.reduceLT, hfr, hi, e0]; clear hr) <;> (try (exfalso; omega))) | (show D _ (J.ops _ _ _ _); simp (disch := first|exact DB|fail) only [RB, ↓reduceIte, Nat.reduceEqDiff, reduceCtorEq, Nat.reduceLeDiff, Nat.reduceAdd, Int.reduceToNat, Nat.reduceLT, hfr, hi, e0]) | (refine T_app ?_; try simp (disch := first|exact DB|fail) only [RB, ↓reduceIte, Nat.reduceEqDiff, reduceCtorEq, Nat.reduceLeDiff, Nat.reduceAdd, Int.reduceToNat, Nat.reduceLT, hfr, hi, e0]) | (refine T_fork ?_ ?_) | (simp only [T_nil]) | (refine TS (fun h => ?_) (fun h => ?_) (hc := by (simp (disch := first|exact DB|fail) only [RB, ↓reduceIte, Nat.reduceEqDiff, reduceCtorEq, Nat.reduceLeDiff, Nat.reduceAdd, Int.reduceToNat, Nat.reduceLT, hfr, hi, e0]) <;> rfl) <;> (try simp only [RH, reduceCtorEq] at h) <;> (try (exfalso; omega))) | (show retR _ _ _ _ _; simp (disch := first|exact DB|fail) only [RR, RB, ↓reduceIte, Nat.reduceEqDiff, reduceCtorEq, Nat.reduceLeDiff, Nat.reduceAdd, Int.reduceToNat, Nat.reduceLT, hfr, hi, e0]) | exact rfl))
      · exact ⟨by rw [if_pos (hI1 (by omega))], trivial⟩
      · exact ⟨trivial, fun _ => hI1 (by omega), fun _ => by omega⟩
  · rintro F hfr ⟨hI1, hI2⟩
    (repeat' (first | (refine NXt ?_; try intro K hK) | (refine hK _ _ ?_; clear hK; clear K; try simp only [RP, ↓reduceIte, Nat.reduceEqDiff, reduceCtorEq]) | ((first | refine GC_case_t (fun hr => ?_) (fun hr => ?_) | refine GC_case_f (fun hr => ?_) (fun hr => ?_)) <;> (have h := hr; (try simp only [RH, reduceCtorEq] at h); simp (disch := first|exact DB|fail) only [hr, RB, ↓reduceIte, Nat.reduceEqDiff, reduceCtorEq, Nat.reduceLeDiff, Nat.reduceAdd, Int.reduceToNat, Nat.reduceLT, hfr]; clear hr) <;> (try (exfalso; omega))) | (show D _ (J.ops _ _ _ _); simp (disch := first|exact DB|fail) only [RB, ↓reduceIte, Nat.reduceEqDiff, reduceCtorEq, Nat.reduceLeDiff, Nat.reduceAdd, Int.reduceToNat, Nat.reduceLT, hfr]) | (refine T_app ?_; try simp (disch := first|exact DB|fail) only [RB, ↓reduceIte, Nat.reduceEqDiff, reduceCtorEq, Nat.reduceLeDiff, Nat.reduceAdd, Int.reduceToNat, Nat.reduceLT, hfr]) | (refine T_fork ?_ ?_) | (simp only [T_nil]) | (refine TS (fun h => ?_) (fun h => ?_) (hc := by (simp (disch := first|exact DB|fail) only [RB, ↓reduceIte, Nat.reduceEqDiff, reduceCtorEq, Nat.reduceLeDiff, Nat.reduceAdd, Int.reduceToNat, Nat.reduceLT, hfr]) <;> rfl) <;> (try simp only [RH, reduceCtorEq] at h) <;> (try (exfalso; omega))) | (show retR _ _ _ _ _; simp (disch := first|exact DB|fail) only [RR, RB, ↓reduceIte, Nat.reduceEqDiff, reduceCtorEq, Nat.reduceLeDiff, Nat.reduceAdd, Int.reduceToNat, Nat.reduceLT, hfr]) | exact rfl))
    exact ⟨by rw [if_pos (hI1 (by omega)), hI2 (by omega)], trivial⟩
theorem compare_spec (S : HS T) (p q : Int × Int) (s : St) : D T (.call 29 [sp p, sp q] s (fun v s' => v = .int .i64 (cmpS p q) ∧ St.Gr s s')) := by
  refine C.fn S.h29 rfl ?_
  unfold v29
  dsimp only
  (repeat' (first | (refine NXt ?_; try intro K hK) | (refine hK _ _ ?_; clear hK; clear K; try simp only [RP, ↓reduceIte, Nat.reduceEqDiff, reduceCtorEq]) | ((first | refine GC_case_t (fun hr => ?_) (fun hr => ?_) | refine GC_case_f (fun hr => ?_) (fun hr => ?_)) <;> (have h := hr; (try simp only [RH, reduceCtorEq] at h); simp (disch := first|exact DB|fail) only [hr, RB, ↓reduceIte, Nat.reduceEqDiff, reduceCtorEq, Nat.reduceLeDiff, Nat.reduceAdd, Int.reduceToNat, Nat.reduceLT, sp]; clear hr) <;> (try (exfalso; omega))) | (refine X_callc rfl ?_; simp (disch := first|exact DB|fail) only [List.nil_append, List.append_nil, RB, ↓reduceIte, Nat.reduceEqDiff, reduceCtorEq, Nat.reduceLeDiff, Nat.reduceAdd, Int.reduceToNat, Nat.reduceLT, sp]; refine D.mono_call (cmpI_spec S _ _ _) ?_; rintro v s' ⟨rfl, rfl⟩; (try simp only [NB] at hδ); refine ⟨by first | exact CK | (simp only [RC, Chk.ok, V.ent]; simp (disch := first|exact DB|fail) only [RT, RB, ↓reduceIte, Nat.reduceEqDiff, reduceCtorEq, Nat.reduceLeDiff, Nat.reduceAdd, Int.reduceToNat, Nat.reduceLT, sp]), ?_⟩; try simp (disch := first|exact DB|fail) only [RB, ↓reduceIte, Nat.reduceEqDiff, reduceCtorEq, Nat.reduceLeDiff, Nat.reduceAdd, Int.reduceToNat, Nat.reduceLT, sp]) | (refine X_callc rfl ?_; simp (disch := first|exact DB|fail) only [List.nil_append, List.append_nil, RB, ↓reduceIte, Nat.reduceEqDiff, reduceCtorEq, Nat.reduceLeDiff, Nat.reduceAdd, Int.reduceToNat, Nat.reduceLT, sp]; refine D.mono_call (Or_spec S _ _ _ _ _) ?_; rintro v s' ⟨rfl, rfl⟩; (try simp only [NB] at hδ); refine ⟨by first | exact CK | (simp only [RC, Chk.ok, V.ent]; simp (disch := first|exact DB|fail) only [RT, RB, ↓reduceIte, Nat.reduceEqDiff, reduceCtorEq, Nat.reduceLeDiff, Nat.reduceAdd, Int.reduceToNat, Nat.reduceLT, sp]), ?_⟩; try simp (disch := first|exact DB|fail) only [RB, ↓reduceIte, Nat.reduceEqDiff, reduceCtorEq, Nat.reduceLeDiff, Nat.reduceAdd, Int.reduceToNat, Nat.reduceLT, sp]) | (show D _ (J.ops _ _ _ _); simp (disch := first|exact DB|fail) only [RB, ↓reduceIte, Nat.reduceEqDiff, reduceCtorEq, Nat.reduceLeDiff, Nat.reduceAdd, Int.reduceToNat, Nat.reduceLT, sp]) | (refine T_app ?_; try simp (disch := first|exact DB|fail) only [RB, ↓reduceIte, Nat.reduceEqDiff, reduceCtorEq, Nat.reduceLeDiff, Nat.reduceAdd, Int.reduceToNat, Nat.reduceLT, sp]) | (refine T_fork ?_ ?_) | (simp only [T_nil]) | (refine TS (fun h => ?_) (fun h => ?_) (hc := by (simp (disch := first|exact DB|fail) only [RB, ↓reduceIte, Nat.reduceEqDiff, reduceCtorEq, Nat.reduceLeDiff, Nat.reduceAdd, Int.reduceToNat, Nat.reduceLT, sp]) <;> rfl) <;> (try simp only [RH, reduceCtorEq] at h) <;> (try (exfalso; omega))) | (show retR _ _ _ _ _; simp (disch := first|exact DB|fail) only [RR, RB, ↓reduceIte, Nat.reduceEqDiff, reduceCtorEq, Nat.reduceLeDiff, Nat.reduceAdd, Int.reduceToNat, Nat.reduceLT, sp]) | exact rfl))
  exact ⟨rfl, by (exact LEb)⟩

/-- A function value of spans, in stores that grow from s. -/
def FnS (T : Nat → Option FnDef) (s : St) (f : V) (P : Int × Int → Bool) : Prop :=
  ∃ id fi ca, f = .fn id fi ca ∧ ∀ p s', St.Gr s s' → D T (.call id (fi ++ [sp p] ++ ca) s' (fun v s'' => v = .bool (P p) ∧ St.Gr s' s''))

theorem Index_spec (S : HS T) (v : V) (xs : List (Int × Int)) (hL : IsL v (xs.map sp)) (hl : xs.length ≤ 100000) (p : Int × Int) (s : St) : D T (.call 42 [v, sp p] s (fun v s' => (∃ k : Int, v = .int .i64 k ∧ -1 ≤ k ∧ (0 ≤ k ↔ p ∈ xs)) ∧ St.Gr s s')) := by
  refine C.fn S.h42 rfl ?_
  unfold v42
  dsimp only
  (repeat' (first | (refine NXt ?_; try intro K hK) | (refine hK _ _ ?_; clear hK; clear K; try simp only [RP, ↓reduceIte, Nat.reduceEqDiff, reduceCtorEq]) | ((first | refine GC_case_t (fun hr => ?_) (fun hr => ?_) | refine GC_case_f (fun hr => ?_) (fun hr => ?_)) <;> (have h := hr; (try simp only [RH, reduceCtorEq] at h); simp (disch := first|exact DB|fail) only [hr, RB, ↓reduceIte, Nat.reduceEqDiff, reduceCtorEq, Nat.reduceLeDiff, Nat.reduceAdd, Int.reduceToNat, Nat.reduceLT, hL.lenm, hL.notStr, sp]; clear hr) <;> (try (exfalso; omega))) | (show D _ (J.ops _ _ _ _); simp (disch := first|exact DB|fail) only [RB, ↓reduceIte, Nat.reduceEqDiff, reduceCtorEq, Nat.reduceLeDiff, Nat.reduceAdd, Int.reduceToNat, Nat.reduceLT, hL.lenm, hL.notStr, sp]) | (refine T_app ?_; try simp (disch := first|exact DB|fail) only [RB, ↓reduceIte, Nat.reduceEqDiff, reduceCtorEq, Nat.reduceLeDiff, Nat.reduceAdd, Int.reduceToNat, Nat.reduceLT, hL.lenm, hL.notStr, sp]) | (refine T_fork ?_ ?_) | (simp only [T_nil]) | (refine TS (fun h => ?_) (fun h => ?_) (hc := by (simp (disch := first|exact DB|fail) only [RB, ↓reduceIte, Nat.reduceEqDiff, reduceCtorEq, Nat.reduceLeDiff, Nat.reduceAdd, Int.reduceToNat, Nat.reduceLT, hL.lenm, hL.notStr, sp]) <;> rfl) <;> (try simp only [RH, reduceCtorEq] at h) <;> (try (exfalso; omega))) | (show retR _ _ _ _ _; simp (disch := first|exact DB|fail) only [RR, RB, ↓reduceIte, Nat.reduceEqDiff, reduceCtorEq, Nat.reduceLeDiff, Nat.reduceAdd, Int.reduceToNat, Nat.reduceLT, hL.lenm, hL.notStr, sp]) | exact rfl))
  refine W.seq (W.range0 (N := xs.length) (fun k F' => p ∉ xs.take k) IB IB (by omega) rfl (by intro k F x y z h; revert h; (try simp only [put_at, Nat.reduceEqDiff, reduceCtorEq, ↓reduceIte]); exact id) (by simp) ?_ ?_)
  · rintro k F hk hfr hi hI
    (repeat' (first | (refine NXt ?_; try intro K hK) | (refine hK _ _ ?_; clear hK; clear K; try simp only [RP, ↓reduceIte, Nat.reduceEqDiff, reduceCtorEq]) | ((first | refine GC_case_t (fun hr => ?_) (fun hr => ?_) | refine GC_case_f (fun hr => ?_) (fun hr => ?_)) <;> (have h := hr; (try simp only [RH, reduceCtorEq] at h); simp (disch := first|exact DB|fail) only [hr, RB, ↓reduceIte, Nat.reduceEqDiff, reduceCtorEq, Nat.reduceLeDiff, Nat.reduceAdd, Int.reduceToNat, Nat.reduceLT, hfr, hi, hL.ixm, sp]; clear hr) <;> (try (exfalso; omega))) | (show D _ (J.ops _ _ _ _); simp (disch := first|exact DB|fail) only [RB, ↓reduceIte, Nat.reduceEqDiff, reduceCtorEq, Nat.reduceLeDiff, Nat.reduceAdd, Int.reduceToNat, Nat.reduceLT, hfr, hi, hL.ixm, sp]) | (refine T_app ?_; try simp (disch := first|exact DB|fail) only [RB, ↓reduceIte, Nat.reduceEqDiff, reduceCtorEq, Nat.reduceLeDiff, Nat.reduceAdd, Int.reduceToNat, Nat.reduceLT, hfr, hi, hL.ixm, sp]) | (refine T_fork ?_ ?_) | (simp only [T_nil]) | (refine TS (fun h => ?_) (fun h => ?_) (hc := by (simp (disch := first|exact DB|fail) only [RB, ↓reduceIte, Nat.reduceEqDiff, reduceCtorEq, Nat.reduceLeDiff, Nat.reduceAdd, Int.reduceToNat, Nat.reduceLT, hfr, hi, hL.ixm, sp]) <;> rfl) <;> (try simp only [RH, reduceCtorEq] at h) <;> (try (exfalso; omega))) | (show retR _ _ _ _ _; simp (disch := first|exact DB|fail) only [RR, RB, ↓reduceIte, Nat.reduceEqDiff, reduceCtorEq, Nat.reduceLeDiff, Nat.reduceAdd, Int.reduceToNat, Nat.reduceLT, hfr, hi, hL.ixm, sp]) | exact rfl))
    · refine ⟨⟨k, rfl, by omega, ?_⟩, by (exact LEb)⟩
      refine ⟨fun _ => ?_, fun _ => by omega⟩
      have e : p = xs[k] := by apply Prod.ext <;> simp_all
      rw [e]; exact List.getElem_mem hk
    · refine ⟨trivial, ?_⟩
      rw [List.take_succ_eq_append_getElem hk]
      simp only [List.mem_append, List.mem_singleton, not_or]
      refine ⟨hI, fun e => ?_⟩
      subst e
      simp_all
  · rintro F hfr hI
    rw [List.take_length] at hI
    (repeat' (first | (refine NXt ?_; try intro K hK) | (refine hK _ _ ?_; clear hK; clear K; try simp only [RP, ↓reduceIte, Nat.reduceEqDiff, reduceCtorEq]) | ((first | refine GC_case_t (fun hr => ?_) (fun hr => ?_) | refine GC_case_f (fun hr => ?_) (fun hr => ?_)) <;> (have h := hr; (try simp only [RH, reduceCtorEq] at h); simp (disch := first|exact DB|fail) only [hr, RB, ↓reduceIte, Nat.reduceEqDiff, reduceCtorEq, Nat.reduceLeDiff, Nat.reduceAdd, Int.reduceToNat, Nat.reduceLT, hfr]; clear hr) <;> (try (exfalso; omega))) | (show D _ (J.ops _ _ _ _); simp (disch := first|exact DB|fail) only [RB, ↓reduceIte, Nat.reduceEqDiff, reduceCtorEq, Nat.reduceLeDiff, Nat.reduceAdd, Int.reduceToNat, Nat.reduceLT, hfr]) | (refine T_app ?_; try simp (disch := first|exact DB|fail) only [RB, ↓reduceIte, Nat.reduceEqDiff, reduceCtorEq, Nat.reduceLeDiff, Nat.reduceAdd, Int.reduceToNat, Nat.reduceLT, hfr]) | (refine T_fork ?_ ?_) | (simp only [T_nil]) | (refine TS (fun h => ?_) (fun h => ?_) (hc := by (simp (disch := first|exact DB|fail) only [RB, ↓reduceIte, Nat.reduceEqDiff, reduceCtorEq, Nat.reduceLeDiff, Nat.reduceAdd, Int.reduceToNat, Nat.reduceLT, hfr]) <;> rfl) <;> (try simp only [RH, reduceCtorEq] at h) <;> (try (exfalso; omega))) | (show retR _ _ _ _ _; simp (disch := first|exact DB|fail) only [RR, RB, ↓reduceIte, Nat.reduceEqDiff, reduceCtorEq, Nat.reduceLeDiff, Nat.reduceAdd, Int.reduceToNat, Nat.reduceLT, hfr]) | exact rfl))
    exact ⟨⟨-1, rfl, by omega, ⟨fun h => absurd h (by omega), fun h => absurd h hI⟩⟩, by (exact LEb)⟩
theorem Contains_spec (S : HS T) (v : V) (xs : List (Int × Int)) (hL : IsL v (xs.map sp)) (hl : xs.length ≤ 100000) (p : Int × Int) (s : St) : D T (.call 41 [v, sp p] s (fun v s' => v = .bool (decide (p ∈ xs)) ∧ St.Gr s s')) := by
  refine C.fn S.h41 rfl ?_
  unfold v41
  dsimp only
  (repeat' (first | (refine NXt ?_; try intro K hK) | (refine hK _ _ ?_; clear hK; clear K; try simp only [RP, ↓reduceIte, Nat.reduceEqDiff, reduceCtorEq]) | ((first | refine GC_case_t (fun hr => ?_) (fun hr => ?_) | refine GC_case_f (fun hr => ?_) (fun hr => ?_)) <;> (have h := hr; (try simp only [RH, reduceCtorEq] at h); simp (disch := first|exact DB|fail) only [hr, RB, ↓reduceIte, Nat.reduceEqDiff, reduceCtorEq, Nat.reduceLeDiff, Nat.reduceAdd, Int.reduceToNat, Nat.reduceLT, sp]; clear hr) <;> (try (exfalso; omega))) | (refine X_callc rfl ?_; simp (disch := first|exact DB|fail) only [List.nil_append, List.append_nil, RB, ↓reduceIte, Nat.reduceEqDiff, reduceCtorEq, Nat.reduceLeDiff, Nat.reduceAdd, Int.reduceToNat, Nat.reduceLT, sp]; refine D.mono_call (Index_spec S _ _ hL hl p _) ?_; rintro v s' ⟨⟨k, rfl, hk1, hk2⟩, δ, hδ, rfl⟩; (try simp only [NB] at hδ); refine ⟨by first | exact CK | (simp only [RC, Chk.ok, V.ent]; simp (disch := first|exact DB|fail) only [RT, RB, ↓reduceIte, Nat.reduceEqDiff, reduceCtorEq, Nat.reduceLeDiff, Nat.reduceAdd, Int.reduceToNat, Nat.reduceLT, sp]), ?_⟩; try simp (disch := first|exact DB|fail) only [RB, ↓reduceIte, Nat.reduceEqDiff, reduceCtorEq, Nat.reduceLeDiff, Nat.reduceAdd, Int.reduceToNat, Nat.reduceLT, sp]) | (show D _ (J.ops _ _ _ _); simp (disch := first|exact DB|fail) only [RB, ↓reduceIte, Nat.reduceEqDiff, reduceCtorEq, Nat.reduceLeDiff, Nat.reduceAdd, Int.reduceToNat, Nat.reduceLT, sp]) | (refine T_app ?_; try simp (disch := first|exact DB|fail) only [RB, ↓reduceIte, Nat.reduceEqDiff, reduceCtorEq, Nat.reduceLeDiff, Nat.reduceAdd, Int.reduceToNat, Nat.reduceLT, sp]) | (refine T_fork ?_ ?_) | (simp only [T_nil]) | (refine TS (fun h => ?_) (fun h => ?_) (hc := by (simp (disch := first|exact DB|fail) only [RB, ↓reduceIte, Nat.reduceEqDiff, reduceCtorEq, Nat.reduceLeDiff, Nat.reduceAdd, Int.reduceToNat, Nat.reduceLT, sp]) <;> rfl) <;> (try simp only [RH, reduceCtorEq] at h) <;> (try (exfalso; omega))) | (show retR _ _ _ _ _; simp (disch := first|exact DB|fail) only [RR, RB, ↓reduceIte, Nat.reduceEqDiff, reduceCtorEq, Nat.reduceLeDiff, Nat.reduceAdd, Int.reduceToNat, Nat.reduceLT, sp]) | exact rfl))
  exact ⟨by simp [hk2], by (exact LEb)⟩

/-- slices.IndexFunc over a slice that nobody writes to, or a row of such elements. -/
theorem IndexFunc_spec (S : HS T) (v : V) (xs : List (Int × Int)) (f : V) (P : Int × Int → Bool) (s : St) (hL : IsL v (xs.map sp)) (hl : xs.length ≤ 100000) (hf : FnS T s f P) : D T (.call 58 [v, f] s (fun v s' => (∃ k : Int, v = .int .i64 k ∧ -1 ≤ k ∧ (0 ≤ k ↔ ∃ p ∈ xs, P p = true)) ∧ St.Gr s s')) := by
  obtain ⟨fid, fi, ca, rfl, hcall⟩ := hf
  refine C.fn S.h58 rfl ?_
  unfold v58
  dsimp only
  (repeat' (first | (refine NXt ?_; try intro K hK) | (refine hK _ _ ?_; clear hK; clear K; try simp only [RP, ↓reduceIte, Nat.reduceEqDiff, reduceCtorEq]) | ((first | refine GC_case_t (fun hr => ?_) (fun hr => ?_) | refine GC_case_f (fun hr => ?_) (fun hr => ?_)) <;> (have h := hr; (try simp only [RH, reduceCtorEq] at h); simp (disch := first|exact DB|fail) only [hr, RB, ↓reduceIte, Nat.reduceEqDiff, reduceCtorEq, Nat.reduceLeDiff, Nat.reduceAdd, Int.reduceToNat, Nat.reduceLT, hL.lenm, hL.notStr]; clear hr) <;> (try (exfalso; omega))) | (show D _ (J.ops _ _ _ _); simp (disch := first|exact DB|fail) only [RB, ↓reduceIte, Nat.reduceEqDiff, reduceCtorEq, Nat.reduceLeDiff, Nat.reduceAdd, Int.reduceToNat, Nat.reduceLT, hL.lenm, hL.notStr]) | (refine T_app ?_; try simp (disch := first|exact DB|fail) only [RB, ↓reduceIte, Nat.reduceEqDiff, reduceCtorEq, Nat.reduceLeDiff, Nat.reduceAdd, Int.reduceToNat, Nat.reduceLT, hL.lenm, hL.notStr]) | (refine T_fork ?_ ?_) | (simp only [T_nil]) | (refine TS (fun h => ?_) (fun h => ?_) (hc := by (simp (disch := first|exact DB|fail) only [RB, ↓reduceIte, Nat.reduceEqDiff, reduceCtorEq, Nat.reduceLeDiff, Nat.reduceAdd, Int.reduceToNat, Nat.reduceLT, hL.lenm, hL.notStr]) <;> rfl) <;> (try simp only [RH, reduceCtorEq] at h) <;> (try (exfalso; omega))) | (show retR _ _ _ _ _; simp (disch := first|exact DB|fail) only [RR, RB, ↓reduceIte, Nat.reduceEqDiff, reduceCtorEq, Nat.reduceLeDiff, Nat.reduceAdd, Int.reduceToNat, Nat.reduceLT, hL.lenm, hL.notStr]) | exact rfl))
  refine W.seq (W.rangeG (N := xs.length) (fun k F' s' => ∀ p ∈ xs.take k, P p = false) IB IB (by omega) rfl ST (by simp) ?_ ?_)
  · rintro k F δ hk hfr hi hδ hI
    (repeat' (first | (refine NXt ?_; try intro K hK) | (refine hK _ _ ?_; clear hK; clear K; try simp only [RP, ↓reduceIte, Nat.reduceEqDiff, reduceCtorEq]) | ((first | refine GC_case_t (fun hr => ?_) (fun hr => ?_) | refine GC_case_f (fun hr => ?_) (fun hr => ?_)) <;> (have h := hr; (try simp only [RH, reduceCtorEq] at h); simp (disch := first|exact DB|fail) only [hr, RB, ↓reduceIte, Nat.reduceEqDiff, reduceCtorEq, Nat.reduceLeDiff, Nat.reduceAdd, Int.reduceToNat, Nat.reduceLT, hfr, hi, hL.ixm, sp]; clear hr) <;> (try (exfalso; omega))) | (refine X_callc rfl ?_; simp (disch := first|exact DB|fail) only [List.nil_append, List.append_nil, RB, ↓reduceIte, Nat.reduceEqDiff, reduceCtorEq, Nat.reduceLeDiff, Nat.reduceAdd, Int.reduceToNat, Nat.reduceLT, hfr, hi, hL.ixm, sp]; refine D.mono_call (hcall xs[k] _ ⟨δ, hδ, rfl⟩) ?_; rintro v s' ⟨rfl, δ2, hδ2, rfl⟩; (try simp only [NB] at hδ); refine ⟨by first | exact CK | (simp only [RC, Chk.ok, V.ent]; simp (disch := first|exact DB|fail) only [RT, RB, ↓reduceIte, Nat.reduceEqDiff, reduceCtorEq, Nat.reduceLeDiff, Nat.reduceAdd, Int.reduceToNat, Nat.reduceLT, hfr, hi, hL.ixm, sp]), ?_⟩; try simp (disch := first|exact DB|fail) only [RB, ↓reduceIte, Nat.reduceEqDiff, reduceCtorEq, Nat.reduceLeDiff, Nat.reduceAdd, Int.reduceToNat, Nat.reduceLT, hfr, hi, hL.ixm, sp]) | (show D _ (J.ops _ _ _ _); simp (disch := first|exact DB|fail) only [RB, ↓reduceIte, Nat.reduceEqDiff, reduceCtorEq, Nat.reduceLeDiff, Nat.reduceAdd, Int.reduceToNat, Nat.reduceLT, hfr, hi, hL.ixm, sp]) | (refine T_app ?_; try simp (disch := first|exact DB|fail) only [RB, ↓reduceIte, Nat.reduceEqDiff, reduceCtorEq, Nat.reduceLeDiff, Nat.reduceAdd, Int.reduceToNat, Nat.reduceLT, hfr, hi, hL.ixm, sp]) | (refine T_fork ?_ ?_) | (simp only [T_nil]) | (refine TS (fun h => ?_) (fun h => ?_) (hc := by (simp (disch := first|exact DB|fail) only [RB, ↓reduceIte, Nat.reduceEqDiff, reduceCtorEq, Nat.reduceLeDiff, Nat.reduceAdd, Int.reduceToNat, Nat.reduceLT, hfr, hi, hL.ixm, sp]) <;> rfl) <;> (try simp only [RH, reduceCtorEq] at h) <;> (try (exfalso; omega))) | (show retR _ _ _ _ _; simp (disch := first|exact DB|fail) only [RR, RB, ↓reduceIte, Nat.reduceEqDiff, reduceCtorEq, Nat.reduceLeDiff, Nat.reduceAdd, Int.reduceToNat, Nat.reduceLT, hfr, hi, hL.ixm, sp]) | exact rfl))
    · refine ⟨⟨k, rfl, by omega, ⟨fun _ => ⟨xs[k], List.getElem_mem hk, by assumption⟩, fun _ => by omega⟩⟩, by (exact LEb)⟩
    · refine ⟨by (exact LEb), fun p hp => ?_⟩
      rw [List.take_succ_eq_append_getElem hk] at hp
      rcases List.mem_append.1 hp with h1 | h1
      · exact hI p h1
      · rw [List.mem_singleton.1 h1]; assumption
  · rintro F δ hfr hδ hI
    rw [List.take_length] at hI
    (repeat' (first | (refine NXt ?_; try intro K hK) | (refine hK _ _ ?_; clear hK; clear K; try simp only [RP, ↓reduceIte, Nat.reduceEqDiff, reduceCtorEq]) | ((first | refine GC_case_t (fun hr => ?_) (fun hr => ?_) | refine GC_case_f (fun hr => ?_) (fun hr => ?_)) <;> (have h := hr; (try simp only [RH, reduceCtorEq] at h); simp (disch := first|exact DB|fail) only [hr, RB, ↓reduceIte, Nat.reduceEqDiff, reduceCtorEq, Nat.reduceLeDiff, Nat.reduceAdd, Int.reduceToNat, Nat.reduceLT, hfr]; clear hr) <;> (try (exfalso; omega))) | (show D _ (J.ops _ _ _ _); simp (disch := first|exact DB|fail) only [RB, ↓reduceIte, Nat.reduceEqDiff, reduceCtorEq, Nat.reduceLeDiff, Nat.reduceAdd, Int.reduceToNat, Nat.reduceLT, hfr]) | (refine T_app ?_; try simp (disch := first|exact DB|fail) only [RB, ↓reduceIte, Nat.reduceEqDiff, reduceCtorEq, Nat.reduceLeDiff, Nat.reduceAdd, Int.reduceToNat, Nat.reduceLT, hfr]) | (refine T_fork ?_ ?_) | (simp only [T_nil]) | (refine TS (fun h => ?_) (fun h => ?_) (hc := by (simp (disch := first|exact DB|fail) only [RB, ↓reduceIte, Nat.reduceEqDiff, reduceCtorEq, Nat.reduceLeDiff, Nat.reduceAdd, Int.reduceToNat, Nat.reduceLT, hfr]) <;> rfl) <;> (try simp only [RH, reduceCtorEq] at h) <;> (try (exfalso; omega))) | (show retR _ _ _ _ _; simp (disch := first|exact DB|fail) only [RR, RB, ↓reduceIte, Nat.reduceEqDiff, reduceCtorEq, Nat.reduceLeDiff, Nat.reduceAdd, Int.reduceToNat, Nat.reduceLT, hfr]) | exact rfl))
    exact ⟨⟨-1, rfl, by omega, ⟨fun h => absurd h (by omega), fun ⟨p, hp, h⟩ => by rw [hI p hp] at h; cases h⟩⟩, by (exact LEb)⟩
theorem ContainsFunc_spec (S : HS T) (v : V) (xs : List (Int × Int)) (f : V) (P : Int × Int → Bool) (s : St) (hL : IsL v (xs.map sp)) (hl : xs.length ≤ 100000) (hf : FnS T s f P) : D T (.call 48 [v, f] s (fun v s' => v = .bool (xs.any P) ∧ St.Gr s s')) := by
  refine C.fn S.h48 rfl ?_
  unfold v48
  dsimp only
  (repeat' (first | (refine NXt ?_; try intro K hK) | (refine hK _ _ ?_; clear hK; clear K; try simp only [RP, ↓reduceIte, Nat.reduceEqDiff, reduceCtorEq]) | ((first | refine GC_case_t (fun hr => ?_) (fun hr => ?_) | refine GC_case_f (fun hr => ?_) (fun hr => ?_)) <;> (have h := hr; (try simp only [RH, reduceCtorEq] at h); simp (disch := first|exact DB|fail) only [hr, RB, ↓reduceIte, Nat.reduceEqDiff, reduceCtorEq, Nat.reduceLeDiff, Nat.reduceAdd, Int.reduceToNat, Nat.reduceLT]; clear hr) <;> (try (exfalso; omega))) | (refine X_callc rfl ?_; simp (disch := first|exact DB|fail) only [List.nil_append, List.append_nil, RB, ↓reduceIte, Nat.reduceEqDiff, reduceCtorEq, Nat.reduceLeDiff, Nat.reduceAdd, Int.reduceToNat, Nat.reduceLT]; refine D.mono_call (IndexFunc_spec S _ _ _ _ _ hL hl hf) ?_; rintro v s' ⟨⟨k, rfl, hk1, hk2⟩, δ, hδ, rfl⟩; (try simp only [NB] at hδ); refine ⟨by first | exact CK | (simp only [RC, Chk.ok, V.ent]; simp (disch := first|exact DB|fail) only [RT, RB, ↓reduceIte, Nat.reduceEqDiff, reduceCtorEq, Nat.reduceLeDiff, Nat.reduceAdd, Int.reduceToNat, Nat.reduceLT]), ?_⟩; try refine SBb ?_) | (show D _ (J.ops _ _ _ _); refine SBb ?_) | (refine T_app ?_; try refine SBb ?_) | (refine T_fork ?_ ?_) | (simp only [T_nil]) | (refine TS (fun h => ?_) (fun h => ?_) (hc := HCb) <;> (try simp only [RH, reduceCtorEq] at h) <;> (try (exfalso; omega))) | (show retR _ _ _ _ _; simp (disch := first|exact DB|fail) only [RR, RB, ↓reduceIte, Nat.reduceEqDiff, reduceCtorEq, Nat.reduceLeDiff, Nat.reduceAdd, Int.reduceToNat, Nat.reduceLT]) | exact rfl))
  refine ⟨?_, by (exact LEb)⟩
  congr 1
  rw [Bool.eq_iff_iff, decide_eq_true_eq, hk2, List.any_eq_true]

theorem lies1_spec (S : HS T) (p q : Int × Int) (o : Nat) (s : St) (ho : o < s.next) (hm : s.mem o = some (.obj [.int .i64 p.1, .int .i64 p.2])) : D T (.call 47 [sp q, .ptr o 0] s (fun v s' => v = .bool (decide (q.1 ≤ p.1 ∧ p.2 ≤ q.2)) ∧ St.Gr s s')) := by
  refine C.fn S.h47 rfl ?_
  unfold v47
  dsimp only
  (repeat' (first | (refine NXt ?_; try intro K hK) | (refine hK _ _ ?_; clear hK; clear K; try simp only [RP, ↓reduceIte, Nat.reduceEqDiff, reduceCtorEq]) | ((first | refine GC_case_t (fun hr => ?_) (fun hr => ?_) | refine GC_case_f (fun hr => ?_) (fun hr => ?_)) <;> (have h := hr; (try simp only [RH, reduceCtorEq] at h); simp (disch := first|exact DB|fail) only [hr, RB, ↓reduceIte, Nat.reduceEqDiff, reduceCtorEq, Nat.reduceLeDiff, Nat.reduceAdd, Int.reduceToNat, Nat.reduceLT, sp, hm]; clear hr) <;> (try (exfalso; omega))) | (show D _ (J.ops _ _ _ _); simp (disch := first|exact DB|fail) only [RB, ↓reduceIte, Nat.reduceEqDiff, reduceCtorEq, Nat.reduceLeDiff, Nat.reduceAdd, Int.reduceToNat, Nat.reduceLT, sp, hm]) | (refine T_app ?_; try simp (disch := first|exact DB|fail) only [RB, ↓reduceIte, Nat.reduceEqDiff, reduceCtorEq, Nat.reduceLeDiff, Nat.reduceAdd, Int.reduceToNat, Nat.reduceLT, sp, hm]) | (refine T_fork ?_ ?_) | (simp only [T_nil]) | (refine TS (fun h => ?_) (fun h => ?_) (hc := by (simp (disch := first|exact DB|fail) only [RB, ↓reduceIte, Nat.reduceEqDiff, reduceCtorEq, Nat.reduceLeDiff, Nat.reduceAdd, Int.reduceToNat, Nat.reduceLT, sp, hm]) <;> rfl) <;> (try simp only [RH, reduceCtorEq] at h) <;> (try (exfalso; omega))) | (show retR _ _ _ _ _; simp (disch := first|exact DB|fail) only [RR, RB, ↓reduceIte, Nat.reduceEqDiff, reduceCtorEq, Nat.reduceLeDiff, Nat.reduceAdd, Int.reduceToNat, Nat.reduceLT, sp, hm]) | exact rfl))
  all_goals exact ⟨by congr 1; by_cases h1 : q.1 ≤ p.1 <;> by_cases h2 : p.2 ≤ q.2 <;> simp [h1, h2] <;> omega, by (exact LEb)⟩
theorem FnS.mono {s s1 : St} {f : V} {P : Int × Int → Bool} (h : FnS T s f P) (hl : St.Le s s1) : FnS T s1 f P := by
  obtain ⟨fid, fi, ca, rfl, hc⟩ := h
  exact ⟨fid, fi, ca, rfl, fun p s' hg => hc p s' ((hl.trans hg.le).gr)⟩
theorem lies_spec (S : HS T) (v : V) (xs : List (Int × Int)) (hL : IsL v (xs.map sp)) (hl : xs.length ≤ 100000) (p : Int × Int) (s : St) : D T (.call 46 [sp p, v] s (fun v s' => v = .bool (xs.any fun q => decide (q.1 ≤ p.1 ∧ p.2 ≤ q.2)) ∧ St.Gr s s')) := by
  refine C.fn S.h46 rfl ?_
  unfold v46
  dsimp only
  have hf : FnS T (s.new (.obj [.int .i64 p.1, .int .i64 p.2])) (.fn 47 [] [.ptr s.next 0]) (fun q => decide (q.1 ≤ p.1 ∧ p.2 ≤ q.2)) := by
    refine ⟨47, [], [.ptr s.next 0], rfl, fun q s' hg => ?_⟩
    obtain ⟨δ, hδ, rfl⟩ := hg
    (try simp only [NB] at hδ)
    exact lies1_spec S p q s.next _ (by ((first | exact SCb | refine SBb ?_)); omega) (by (first | exact SCb | refine SBb ?_))
  (repeat' (first | (refine NXt ?_; try intro K hK) | (refine hK _ _ ?_; clear hK; clear K; try simp only [RP, ↓reduceIte, Nat.reduceEqDiff, reduceCtorEq]) | ((first | refine GC_case_t (fun hr => ?_) (fun hr => ?_) | refine GC_case_f (fun hr => ?_) (fun hr => ?_)) <;> (have h := hr; (try simp only [RH, reduceCtorEq] at h); simp (disch := first|exact DB|fail) only [hr, RB, ↓reduceIte, Nat.reduceEqDiff, reduceCtorEq, Nat.reduceLeDiff, Nat.reduceAdd, Int.reduceToNat, Nat.reduceLT, sp]; clear hr) <;> (try (exfalso; omega))) | (refine X_callc rfl ?_; simp (disch := first|exact DB|fail) only [List.nil_append, List.append_nil, RB, ↓reduceIte, Nat.reduceEqDiff, reduceCtorEq, Nat.reduceLeDiff, Nat.reduceAdd, Int.reduceToNat, Nat.reduceLT, sp]; refine D.mono_call (ContainsFunc_spec S _ _ _ _ _ hL hl hf) ?_; rintro v s' ⟨rfl, δ, hδ, rfl⟩; (try simp only [NB] at hδ); refine ⟨by first | exact CK | (simp only [RC, Chk.ok, V.ent]; simp (disch := first|exact DB|fail) only [RT, RB, ↓reduceIte, Nat.reduceEqDiff, reduceCtorEq, Nat.reduceLeDiff, Nat.reduceAdd, Int.reduceToNat, Nat.reduceLT, sp]), ?_⟩; try simp (disch := first|exact DB|fail) only [RB, ↓reduceIte, Nat.reduceEqDiff, reduceCtorEq, Nat.reduceLeDiff, Nat.reduceAdd, Int.reduceToNat, Nat.reduceLT, sp]) | (show D _ (J.ops _ _ _ _); simp (disch := first|exact DB|fail) only [RB, ↓reduceIte, Nat.reduceEqDiff, reduceCtorEq, Nat.reduceLeDiff, Nat.reduceAdd, Int.reduceToNat, Nat.reduceLT, sp]) | (refine T_app ?_; try simp (disch := first|exact DB|fail) only [RB, ↓reduceIte, Nat.reduceEqDiff, reduceCtorEq, Nat.reduceLeDiff, Nat.reduceAdd, Int.reduceToNat, Nat.reduceLT, sp]) | (refine T_fork ?_ ?_) | (simp only [T_nil]) | (refine TS (fun h => ?_) (fun h => ?_) (hc := by (simp (disch := first|exact DB|fail) only [RB, ↓reduceIte, Nat.reduceEqDiff, reduceCtorEq, Nat.reduceLeDiff, Nat.reduceAdd, Int.reduceToNat, Nat.reduceLT, sp]) <;> rfl) <;> (try simp only [RH, reduceCtorEq] at h) <;> (try (exfalso; omega))) | (show retR _ _ _ _ _; simp (disch := first|exact DB|fail) only [RR, RB, ↓reduceIte, Nat.reduceEqDiff, reduceCtorEq, Nat.reduceLeDiff, Nat.reduceAdd, Int.reduceToNat, Nat.reduceLT, sp]) | exact rfl))
  all_goals exact ⟨by simp, by (exact LEb)⟩

/-- The slice in the captured variable. -/
theorem Inside1_spec (S : HS T) (v : V) (xs : List (Int × Int)) (hL : IsL v (xs.map sp)) (hl : xs.length ≤ 100000) (p : Int × Int) (o : Nat) (s : St) (ho : o < s.next) (hm : s.mem o = some (.obj [v])) : D T (.call 27 [sp p, .ptr o 0] s (fun v s' => v = .bool (xs.any fun q => decide (q.1 ≤ p.1 ∧ p.2 ≤ q.2)) ∧ St.Gr s s')) := by
  refine C.fn S.h27 rfl ?_
  unfold v27
  dsimp only
  (repeat' (first | (refine NXt ?_; try intro K hK) | (refine hK _ _ ?_; clear hK; clear K; try simp only [RP, ↓reduceIte, Nat.reduceEqDiff, reduceCtorEq]) | ((first | refine GC_case_t (fun hr => ?_) (fun hr => ?_) | refine GC_case_f (fun hr => ?_) (fun hr => ?_)) <;> (have h := hr; (try simp only [RH, reduceCtorEq] at h); simp (disch := first|exact DB|fail) only [hr, RB, ↓reduceIte, Nat.reduceEqDiff, reduceCtorEq, Nat.reduceLeDiff, Nat.reduceAdd, Int.reduceToNat, Nat.reduceLT, sp, hm]; clear hr) <;> (try (exfalso; omega))) | (refine X_callc rfl ?_; simp (disch := first|exact DB|fail) only [List.nil_append, List.append_nil, RB, ↓reduceIte, Nat.reduceEqDiff, reduceCtorEq, Nat.reduceLeDiff, Nat.reduceAdd, Int.reduceToNat, Nat.reduceLT, sp, hm]; refine D.mono_call (lies_spec S _ _ hL hl p _) ?_; rintro v s' ⟨rfl, δ, hδ, rfl⟩; (try simp only [NB] at hδ); refine ⟨by first | exact CK | (simp only [RC, Chk.ok, V.ent]; simp (disch := first|exact DB|fail) only [RT, RB, ↓reduceIte, Nat.reduceEqDiff, reduceCtorEq, Nat.reduceLeDiff, Nat.reduceAdd, Int.reduceToNat, Nat.reduceLT, sp, hm]), ?_⟩; try simp (disch := first|exact DB|fail) only [RB, ↓reduceIte, Nat.reduceEqDiff, reduceCtorEq, Nat.reduceLeDiff, Nat.reduceAdd, Int.reduceToNat, Nat.reduceLT, sp, hm]) | (show D _ (J.ops _ _ _ _); simp (disch := first|exact DB|fail) only [RB, ↓reduceIte, Nat.reduceEqDiff, reduceCtorEq, Nat.reduceLeDiff, Nat.reduceAdd, Int.reduceToNat, Nat.reduceLT, sp, hm]) | (refine T_app ?_; try simp (disch := first|exact DB|fail) only [RB, ↓reduceIte, Nat.reduceEqDiff, reduceCtorEq, Nat.reduceLeDiff, Nat.reduceAdd, Int.reduceToNat, Nat.reduceLT, sp, hm]) | (refine T_fork ?_ ?_) | (simp only [T_nil]) | (refine TS (fun h => ?_) (fun h => ?_) (hc := by (simp (disch := first|exact DB|fail) only [RB, ↓reduceIte, Nat.reduceEqDiff, reduceCtorEq, Nat.reduceLeDiff, Nat.reduceAdd, Int.reduceToNat, Nat.reduceLT, sp, hm]) <;> rfl) <;> (try simp only [RH, reduceCtorEq] at h) <;> (try (exfalso; omega))) | (show retR _ _ _ _ _; simp (disch := first|exact DB|fail) only [RR, RB, ↓reduceIte, Nat.reduceEqDiff, reduceCtorEq, Nat.reduceLeDiff, Nat.reduceAdd, Int.reduceToNat, Nat.reduceLT, sp, hm]) | exact rfl))
  exact ⟨trivial, by (exact LEb)⟩
theorem Intersect1_spec (S : HS T) (v : V) (xs : List (Int × Int)) (hL : IsL v (xs.map sp)) (hl : xs.length ≤ 100000) (p : Int × Int) (o : Nat) (s : St) (ho : o < s.next) (hm : s.mem o = some (.obj [v])) : D T (.call 25 [sp p, .ptr o 0] s (fun v s' => v = .bool (decide (p ∈ xs)) ∧ St.Gr s s')) := by
  refine C.fn S.h25 rfl ?_
  unfold v25
  dsimp only
  (repeat' (first | (refine NXt ?_; try intro K hK) | (refine hK _ _ ?_; clear hK; clear K; try simp only [RP, ↓reduceIte, Nat.reduceEqDiff, reduceCtorEq]) | ((first | refine GC_case_t (fun hr => ?_) (fun hr => ?_) | refine GC_case_f (fun hr => ?_) (fun hr => ?_)) <;> (have h := hr; (try simp only [RH, reduceCtorEq] at h); simp (disch := first|exact DB|fail) only [hr, RB, ↓reduceIte, Nat.reduceEqDiff, reduceCtorEq, Nat.reduceLeDiff, Nat.reduceAdd, Int.reduceToNat, Nat.reduceLT, sp, hm]; clear hr) <;> (try (exfalso; omega))) | (refine X_callc rfl ?_; simp (disch := first|exact DB|fail) only [List.nil_append, List.append_nil, RB, ↓reduceIte, Nat.reduceEqDiff, reduceCtorEq, Nat.reduceLeDiff, Nat.reduceAdd, Int.reduceToNat, Nat.reduceLT, sp, hm]; refine D.mono_call (Contains_spec S _ _ hL hl p _) ?_; rintro v s' ⟨rfl, δ, hδ, rfl⟩; (try simp only [NB] at hδ); refine ⟨by first | exact CK | (simp only [RC, Chk.ok, V.ent]; simp (disch := first|exact DB|fail) only [RT, RB, ↓reduceIte, Nat.reduceEqDiff, reduceCtorEq, Nat.reduceLeDiff, Nat.reduceAdd, Int.reduceToNat, Nat.reduceLT, sp, hm]), ?_⟩; try simp (disch := first|exact DB|fail) only [RB, ↓reduceIte, Nat.reduceEqDiff, reduceCtorEq, Nat.reduceLeDiff, Nat.reduceAdd, Int.reduceToNat, Nat.reduceLT, sp, hm]) | (show D _ (J.ops _ _ _ _); simp (disch := first|exact DB|fail) only [RB, ↓reduceIte, Nat.reduceEqDiff, reduceCtorEq, Nat.reduceLeDiff, Nat.reduceAdd, Int.reduceToNat, Nat.reduceLT, sp, hm]) | (refine T_app ?_; try simp (disch := first|exact DB|fail) only [RB, ↓reduceIte, Nat.reduceEqDiff, reduceCtorEq, Nat.reduceLeDiff, Nat.reduceAdd, Int.reduceToNat, Nat.reduceLT, sp, hm]) | (refine T_fork ?_ ?_) | (simp only [T_nil]) | (refine TS (fun h => ?_) (fun h => ?_) (hc := by (simp (disch := first|exact DB|fail) only [RB, ↓reduceIte, Nat.reduceEqDiff, reduceCtorEq, Nat.reduceLeDiff, Nat.reduceAdd, Int.reduceToNat, Nat.reduceLT, sp, hm]) <;> rfl) <;> (try simp only [RH, reduceCtorEq] at h) <;> (try (exfalso; omega))) | (show retR _ _ _ _ _; simp (disch := first|exact DB|fail) only [RR, RB, ↓reduceIte, Nat.reduceEqDiff, reduceCtorEq, Nat.reduceLeDiff, Nat.reduceAdd, Int.reduceToNat, Nat.reduceLT, sp, hm]) | exact rfl))
  exact ⟨trivial, by (exact LEb)⟩
theorem Subtract1_spec (S : HS T) (v : V) (xs : List (Int × Int)) (hL : IsL v (xs.map sp)) (hl : xs.length ≤ 100000) (p : Int × Int) (o : Nat) (s : St) (ho : o < s.next) (hm : s.mem o = some (.obj [v])) : D T (.call 23 [sp p, .ptr o 0] s (fun v s' => v = .bool (!decide (p ∈ xs)) ∧ St.Gr s s')) := by
  refine C.fn S.h23 rfl ?_
  unfold v23
  dsimp only
  (repeat' (first | (refine NXt ?_; try intro K hK) | (refine hK _ _ ?_; clear hK; clear K; try simp only [RP, ↓reduceIte, Nat.reduceEqDiff, reduceCtorEq]) | ((first | refine GC_case_t (fun hr => ?_) (fun hr => ?_) | refine GC_case_f (fun hr => ?_) (fun hr => ?_)) <;> (have h := hr; (try simp only [RH, reduceCtorEq] at h); simp (disch := first|exact DB|fail) only [hr, RB, ↓reduceIte, Nat.reduceEqDiff, reduceCtorEq, Nat.reduceLeDiff, Nat.reduceAdd, Int.reduceToNat, Nat.reduceLT, sp, hm]; clear hr) <;> (try (exfalso; omega))) | (refine X_callc rfl ?_; simp (disch := first|exact DB|fail) only [List.nil_append, List.append_nil, RB, ↓reduceIte, Nat.reduceEqDiff, reduceCtorEq, Nat.reduceLeDiff, Nat.reduceAdd, Int.reduceToNat, Nat.reduceLT, sp, hm]; refine D.mono_call (Contains_spec S _ _ hL hl p _) ?_; rintro v s' ⟨rfl, δ, hδ, rfl⟩; (try simp only [NB] at hδ); refine ⟨by first | exact CK | (simp only [RC, Chk.ok, V.ent]; simp (disch := first|exact DB|fail) only [RT, RB, ↓reduceIte, Nat.reduceEqDiff, reduceCtorEq, Nat.reduceLeDiff, Nat.reduceAdd, Int.reduceToNat, Nat.reduceLT, sp, hm]), ?_⟩; try simp (disch := first|exact DB|fail) only [RB, ↓reduceIte, Nat.reduceEqDiff, reduceCtorEq, Nat.reduceLeDiff, Nat.reduceAdd, Int.reduceToNat, Nat.reduceLT, sp, hm]) | (show D _ (J.ops _ _ _ _); simp (disch := first|exact DB|fail) only [RB, ↓reduceIte, Nat.reduceEqDiff, reduceCtorEq, Nat.reduceLeDiff, Nat.reduceAdd, Int.reduceToNat, Nat.reduceLT, sp, hm]) | (refine T_app ?_; try simp (disch := first|exact DB|fail) only [RB, ↓reduceIte, Nat.reduceEqDiff, reduceCtorEq, Nat.reduceLeDiff, Nat.reduceAdd, Int.reduceToNat, Nat.reduceLT, sp, hm]) | (refine T_fork ?_ ?_) | (simp only [T_nil]) | (refine TS (fun h => ?_) (fun h => ?_) (hc := by (simp (disch := first|exact DB|fail) only [RB, ↓reduceIte, Nat.reduceEqDiff, reduceCtorEq, Nat.reduceLeDiff, Nat.reduceAdd, Int.reduceToNat, Nat.reduceLT, sp, hm]) <;> rfl) <;> (try simp only [RH, reduceCtorEq] at h) <;> (try (exfalso; omega))) | (show retR _ _ _ _ _; simp (disch := first|exact DB|fail) only [RR, RB, ↓reduceIte, Nat.reduceEqDiff, reduceCtorEq, Nat.reduceLeDiff, Nat.reduceAdd, Int.reduceToNat, Nat.reduceLT, sp, hm]) | exact rfl))
  exact ⟨trivial, by (exact LEb)⟩
/-- keep's own function: the other's answer turned round. -/
theorem keep1_spec (S : HS T) (f : V) (P : Int × Int → Bool) (p : Int × Int) (o : Nat) (s : St) (ho : o < s.next) (hm : s.mem o = some (.obj [f])) (hf : FnS T s f P) : D T (.call 39 [sp p, .ptr o 0] s (fun v s' => v = .bool (!P p) ∧ St.Gr s s')) := by
  obtain ⟨fid, fi, ca, rfl, hcall⟩ := hf
  refine C.fn S.h39 rfl ?_
  unfold v39
  dsimp only
  (repeat' (first | (refine NXt ?_; try intro K hK) | (refine hK _ _ ?_; clear hK; clear K; try simp only [RP, ↓reduceIte, Nat.reduceEqDiff, reduceCtorEq]) | ((first | refine GC_case_t (fun hr => ?_) (fun hr => ?_) | refine GC_case_f (fun hr => ?_) (fun hr => ?_)) <;> (have h := hr; (try simp only [RH, reduceCtorEq] at h); simp (disch := first|exact DB|fail) only [hr, RB, ↓reduceIte, Nat.reduceEqDiff, reduceCtorEq, Nat.reduceLeDiff, Nat.reduceAdd, Int.reduceToNat, Nat.reduceLT, sp, hm]; clear hr) <;> (try (exfalso; omega))) | (refine X_callc rfl ?_; simp (disch := first|exact DB|fail) only [List.nil_append, List.append_nil, RB, ↓reduceIte, Nat.reduceEqDiff, reduceCtorEq, Nat.reduceLeDiff, Nat.reduceAdd, Int.reduceToNat, Nat.reduceLT, sp, hm]; refine D.mono_call (hcall p _ (by (exact LEb))) ?_; rintro v s' ⟨rfl, δ2, hδ2, rfl⟩; (try simp only [NB] at hδ); refine ⟨by first | exact CK | (simp only [RC, Chk.ok, V.ent]; simp (disch := first|exact DB|fail) only [RT, RB, ↓reduceIte, Nat.reduceEqDiff, reduceCtorEq, Nat.reduceLeDiff, Nat.reduceAdd, Int.reduceToNat, Nat.reduceLT, sp, hm]), ?_⟩; try simp (disch := first|exact DB|fail) only [RB, ↓reduceIte, Nat.reduceEqDiff, reduceCtorEq, Nat.reduceLeDiff, Nat.reduceAdd, Int.reduceToNat, Nat.reduceLT, sp, hm]) | (show D _ (J.ops _ _ _ _); simp (disch := first|exact DB|fail) only [RB, ↓reduceIte, Nat.reduceEqDiff, reduceCtorEq, Nat.reduceLeDiff, Nat.reduceAdd, Int.reduceToNat, Nat.reduceLT, sp, hm]) | (refine T_app ?_; try simp (disch := first|exact DB|fail) only [RB, ↓reduceIte, Nat.reduceEqDiff, reduceCtorEq, Nat.reduceLeDiff, Nat.reduceAdd, Int.reduceToNat, Nat.reduceLT, sp, hm]) | (refine T_fork ?_ ?_) | (simp only [T_nil]) | (refine TS (fun h => ?_) (fun h => ?_) (hc := by (simp (disch := first|exact DB|fail) only [RB, ↓reduceIte, Nat.reduceEqDiff, reduceCtorEq, Nat.reduceLeDiff, Nat.reduceAdd, Int.reduceToNat, Nat.reduceLT, sp, hm]) <;> rfl) <;> (try simp only [RH, reduceCtorEq] at h) <;> (try (exfalso; omega))) | (show retR _ _ _ _ _; simp (disch := first|exact DB|fail) only [RR, RB, ↓reduceIte, Nat.reduceEqDiff, reduceCtorEq, Nat.reduceLeDiff, Nat.reduceAdd, Int.reduceToNat, Nat.reduceLT, sp, hm]) | exact rfl))
  exact ⟨trivial, by (exact LEb)⟩
end Go.VS.Fn

namespace Go.VS.Fn
open Go.VS
variable {T : Nat → Option FnDef}

/-- A row of spans that is newer than S0: the slice's own, what lies behind. -/
structure PR (S0 s : St) (v : V) (xs : List (Int × Int)) : Prop where
  row : (v = .nilsl ∧ xs = []) ∨ ∃ r ys, v = .row r 2 0 xs.length ∧ r < s.next ∧ S0.next ≤ r ∧ s.mem r = some (.row ((xs ++ ys : List (Int × Int)).map sp)) ∧ (xs ++ ys).length ≤ 100000
  le : St.Le S0 s
theorem PR.len {S0 s : St} {v : V} {xs : List (Int × Int)} (h : PR S0 s v xs) : lenV v = some xs.length := by
  rcases h.row with ⟨rfl, rfl⟩ | ⟨r, ys, rfl, _⟩ <;> rfl
theorem PR.notStr {S0 s : St} {v : V} {xs : List (Int × Int)} (h : PR S0 s v xs) : v.isStr = false := by
  rcases h.row with ⟨rfl, rfl⟩ | ⟨r, ys, rfl, _⟩ <;> rfl
theorem PR.lim {S0 s : St} {v : V} {xs : List (Int × Int)} (h : PR S0 s v xs) : xs.length ≤ 100000 := by
  rcases h.row with ⟨rfl, rfl⟩ | ⟨r, ys, rfl, _, _, _, h⟩
  · simp
  · simp at h; omega
theorem PR.over_ {S0 s δ : St} {v : V} {xs : List (Int × Int)} (h : PR S0 s v xs) (hd : s.next ≤ δ.next) : PR S0 (s.over δ) v xs := by
  refine ⟨?_, St.Le.over_ h.le hd⟩
  rcases h.row with h1 | ⟨r, ys, rfl, h2, h3, h4, h5⟩
  · exact .inl h1
  · exact .inr ⟨r, ys, rfl, by rw [next_over]; omega, h3, by rw [mem_over h2]; exact h4, h5⟩
theorem PR.new_ {S0 s : St} {e : Ent} {v : V} {xs : List (Int × Int)} (h : PR S0 s v xs) : PR S0 (s.new e) v xs := by
  refine ⟨?_, h.le.new_⟩
  rcases h.row with h1 | ⟨r, ys, rfl, h2, h3, h4, h5⟩
  · exact .inl h1
  · exact .inr ⟨r, ys, rfl, by rw [nx_new]; omega, h3, by rw [mem_new_ne (by omega)]; exact h4, h5⟩

theorem IndexFuncR_spec (S : HS T) {S0 : St} (v : V) (xs : List (Int × Int)) (f : V) (P : Int × Int → Bool) (s : St) (hR : PR S0 s v xs) (hf : FnS T S0 f P) : D T (.call 58 [v, f] s (fun v s' => (∃ k : Int, v = .int .i64 k ∧ ((k = -1 ∧ ∀ p ∈ xs, P p = false) ∨ ∃ i : Nat, ∃ h : i < xs.length, k = i ∧ P xs[i] = true ∧ ∀ p ∈ xs.take i, P p = false)) ∧ St.Gr s s')) := by
  obtain ⟨fid, fi, ca, rfl, hcall⟩ := hf
  have hlen := hR.len
  have hlim := hR.lim
  refine C.fn S.h58 rfl ?_
  unfold v58
  dsimp only
  (repeat' (first | (refine NXt ?_; try intro K hK) | (refine hK _ _ ?_; clear hK; clear K; try simp only [RP, ↓reduceIte, Nat.reduceEqDiff, reduceCtorEq]) | ((first | refine GC_case_t (fun hr => ?_) (fun hr => ?_) | refine GC_case_f (fun hr => ?_) (fun hr => ?_)) <;> (have h := hr; (try simp only [RH, reduceCtorEq] at h); simp (disch := first|exact DB|fail) only [hr, RB, ↓reduceIte, Nat.reduceEqDiff, reduceCtorEq, Nat.reduceLeDiff, Nat.reduceAdd, Int.reduceToNat, Nat.reduceLT, hlen, hR.notStr]; clear hr) <;> (try (exfalso; omega))) | (show D _ (J.ops _ _ _ _); simp (disch := first|exact DB|fail) only [RB, ↓reduceIte, Nat.reduceEqDiff, reduceCtorEq, Nat.reduceLeDiff, Nat.reduceAdd, Int.reduceToNat, Nat.reduceLT, hlen, hR.notStr]) | (refine T_app ?_; try simp (disch := first|exact DB|fail) only [RB, ↓reduceIte, Nat.reduceEqDiff, reduceCtorEq, Nat.reduceLeDiff, Nat.reduceAdd, Int.reduceToNat, Nat.reduceLT, hlen, hR.notStr]) | (refine T_fork ?_ ?_) | (simp only [T_nil]) | (refine TS (fun h => ?_) (fun h => ?_) (hc := by (simp (disch := first|exact DB|fail) only [RB, ↓reduceIte, Nat.reduceEqDiff, reduceCtorEq, Nat.reduceLeDiff, Nat.reduceAdd, Int.reduceToNat, Nat.reduceLT, hlen, hR.notStr]) <;> rfl) <;> (try simp only [RH, reduceCtorEq] at h) <;> (try (exfalso; omega))) | (show retR _ _ _ _ _; simp (disch := first|exact DB|fail) only [RR, RB, ↓reduceIte, Nat.reduceEqDiff, reduceCtorEq, Nat.reduceLeDiff, Nat.reduceAdd, Int.reduceToNat, Nat.reduceLT, hlen, hR.notStr]) | exact rfl))
  refine W.seq (W.rangeG (N := xs.length) (fun k F' s' => ∀ p ∈ xs.take k, P p = false) IB IB (by omega) rfl ST (by simp) ?_ ?_)
  · rintro k F δ hk hfr hi hδ hI
    rcases hR.row with ⟨rfl, rfl⟩ | ⟨r, ys, rfl, hr, hr0, hm, hlm⟩
    · simp at hk
    have hget : ((xs ++ ys : List (Int × Int)).map sp)[k]? = some (sp xs[k]) := by simp [List.getElem?_append_left, hk]
    (repeat' (first | (refine NXt ?_; try intro K hK) | (refine hK _ _ ?_; clear hK; clear K; try simp only [RP, ↓reduceIte, Nat.reduceEqDiff, reduceCtorEq]) | ((first | refine GC_case_t (fun hr => ?_) (fun hr => ?_) | refine GC_case_f (fun hr => ?_) (fun hr => ?_)) <;> (have h := hr; (try simp only [RH, reduceCtorEq] at h); simp (disch := first|exact DB|fail) only [hr, RB, ↓reduceIte, Nat.reduceEqDiff, reduceCtorEq, Nat.reduceLeDiff, Nat.reduceAdd, Int.reduceToNat, Nat.reduceLT, hfr, hi, hm, hget, sp]; clear hr) <;> (try (exfalso; omega))) | (refine X_callc rfl ?_; simp (disch := first|exact DB|fail) only [List.nil_append, List.append_nil, RB, ↓reduceIte, Nat.reduceEqDiff, reduceCtorEq, Nat.reduceLeDiff, Nat.reduceAdd, Int.reduceToNat, Nat.reduceLT, hfr, hi, hm, hget, sp]; refine D.mono_call (hcall xs[k] _ ((hR.le.trans (St.Gr.le ⟨δ, hδ, rfl⟩)).gr)) ?_; rintro v s' ⟨rfl, δ2, hδ2, rfl⟩; (try simp only [NB] at hδ); refine ⟨by first | exact CK | (simp only [RC, Chk.ok, V.ent]; simp (disch := first|exact DB|fail) only [RT, RB, ↓reduceIte, Nat.reduceEqDiff, reduceCtorEq, Nat.reduceLeDiff, Nat.reduceAdd, Int.reduceToNat, Nat.reduceLT, hfr, hi, hm, hget, sp]), ?_⟩; try simp (disch := first|exact DB|fail) only [RB, ↓reduceIte, Nat.reduceEqDiff, reduceCtorEq, Nat.reduceLeDiff, Nat.reduceAdd, Int.reduceToNat, Nat.reduceLT, hfr, hi, hm, hget, sp]) | (show D _ (J.ops _ _ _ _); simp (disch := first|exact DB|fail) only [RB, ↓reduceIte, Nat.reduceEqDiff, reduceCtorEq, Nat.reduceLeDiff, Nat.reduceAdd, Int.reduceToNat, Nat.reduceLT, hfr, hi, hm, hget, sp]) | (refine T_app ?_; try simp (disch := first|exact DB|fail) only [RB, ↓reduceIte, Nat.reduceEqDiff, reduceCtorEq, Nat.reduceLeDiff, Nat.reduceAdd, Int.reduceToNat, Nat.reduceLT, hfr, hi, hm, hget, sp]) | (refine T_fork ?_ ?_) | (simp only [T_nil]) | (refine TS (fun h => ?_) (fun h => ?_) (hc := by (simp (disch := first|exact DB|fail) only [RB, ↓reduceIte, Nat.reduceEqDiff, reduceCtorEq, Nat.reduceLeDiff, Nat.reduceAdd, Int.reduceToNat, Nat.reduceLT, hfr, hi, hm, hget, sp]) <;> rfl) <;> (try simp only [RH, reduceCtorEq] at h) <;> (try (exfalso; omega))) | (show retR _ _ _ _ _; simp (disch := first|exact DB|fail) only [RR, RB, ↓reduceIte, Nat.reduceEqDiff, reduceCtorEq, Nat.reduceLeDiff, Nat.reduceAdd, Int.reduceToNat, Nat.reduceLT, hfr, hi, hm, hget, sp]) | exact rfl))
    · refine ⟨⟨k, rfl, .inr ⟨k, hk, rfl, by assumption, hI⟩⟩, by (exact LEb)⟩
    · refine ⟨by (exact LEb), fun p hp => ?_⟩
      rw [List.take_succ_eq_append_getElem hk] at hp
      rcases List.mem_append.1 hp with h1 | h1
      · exact hI p h1
      · rw [List.mem_singleton.1 h1]; assumption
  · rintro F δ hfr hδ hI
    rw [List.take_length] at hI
    (repeat' (first | (refine NXt ?_; try intro K hK) | (refine hK _ _ ?_; clear hK; clear K; try simp only [RP, ↓reduceIte, Nat.reduceEqDiff, reduceCtorEq]) | ((first | refine GC_case_t (fun hr => ?_) (fun hr => ?_) | refine GC_case_f (fun hr => ?_) (fun hr => ?_)) <;> (have h := hr; (try simp only [RH, reduceCtorEq] at h); simp (disch := first|exact DB|fail) only [hr, RB, ↓reduceIte, Nat.reduceEqDiff, reduceCtorEq, Nat.reduceLeDiff, Nat.reduceAdd, Int.reduceToNat, Nat.reduceLT, hfr]; clear hr) <;> (try (exfalso; omega))) | (show D _ (J.ops _ _ _ _); simp (disch := first|exact DB|fail) only [RB, ↓reduceIte, Nat.reduceEqDiff, reduceCtorEq, Nat.reduceLeDiff, Nat.reduceAdd, Int.reduceToNat, Nat.reduceLT, hfr]) | (refine T_app ?_; try simp (disch := first|exact DB|fail) only [RB, ↓reduceIte, Nat.reduceEqDiff, reduceCtorEq, Nat.reduceLeDiff, Nat.reduceAdd, Int.reduceToNat, Nat.reduceLT, hfr]) | (refine T_fork ?_ ?_) | (simp only [T_nil]) | (refine TS (fun h => ?_) (fun h => ?_) (hc := by (simp (disch := first|exact DB|fail) only [RB, ↓reduceIte, Nat.reduceEqDiff, reduceCtorEq, Nat.reduceLeDiff, Nat.reduceAdd, Int.reduceToNat, Nat.reduceLT, hfr]) <;> rfl) <;> (try simp only [RH, reduceCtorEq] at h) <;> (try (exfalso; omega))) | (show retR _ _ _ _ _; simp (disch := first|exact DB|fail) only [RR, RB, ↓reduceIte, Nat.reduceEqDiff, reduceCtorEq, Nat.reduceLeDiff, Nat.reduceAdd, Int.reduceToNat, Nat.reduceLT, hfr]) | exact rfl))
    exact ⟨⟨-1, rfl, .inl ⟨rfl, hI⟩⟩, by (exact LEb)⟩

theorem clear_row {s : St} {k i off len : Nat} {z : V} : clearV k z (.row i k off len) s = match s.mem i with | some (.row xs) => (if off + len ≤ xs.length then some (V.undef, s.set i (.row (xs.take off ++ List.replicate len z ++ xs.drop (off + len)))) else none) | _ => none := by
  simp only [clearV]
  cases h : s.mem i with
  | none => rfl
  | some e =>
    cases e with
    | row xs => by_cases hl : off + len ≤ xs.length <;> simp [hl]
    | _ => rfl
theorem clear_nil {s : St} {k : Nat} {z : V} : clearV k z .nilsl s = some (V.undef, s) := rfl

set_option maxHeartbeats 2000000 in
theorem DeleteFunc_spec (S : HS T) {S0 : St} (v : V) (xs : List (Int × Int)) (f : V) (P : Int × Int → Bool) (s : St) (hR : PR S0 s v xs) (hf : FnS T S0 f P) : D T (.call 40 [v, f] s (fun v s' => PR S0 s' v (xs.filter fun p => !P p) ∧ s.next ≤ s'.next)) := by
  obtain ⟨fid, fi, ca, rfl, hcall⟩ := id hf
  have hlim := hR.lim
  refine C.fn S.h40 rfl ?_
  unfold v40
  dsimp only
  (repeat' (first | (refine NXt ?_; try intro K hK) | (refine hK _ _ ?_; clear hK; clear K; try simp only [RP, ↓reduceIte, Nat.reduceEqDiff, reduceCtorEq]) | ((first | refine GC_case_t (fun hr => ?_) (fun hr => ?_) | refine GC_case_f (fun hr => ?_) (fun hr => ?_)) <;> (have h := hr; (try simp only [RH, reduceCtorEq] at h); simp (disch := first|exact DB|fail) only [hr, RB, ↓reduceIte, Nat.reduceEqDiff, reduceCtorEq, Nat.reduceLeDiff, Nat.reduceAdd, Int.reduceToNat, Nat.reduceLT]; clear hr) <;> (try (exfalso; omega))) | (refine X_callc rfl ?_; simp (disch := first|exact DB|fail) only [List.nil_append, List.append_nil, RB, ↓reduceIte, Nat.reduceEqDiff, reduceCtorEq, Nat.reduceLeDiff, Nat.reduceAdd, Int.reduceToNat, Nat.reduceLT]; refine D.mono_call (IndexFuncR_spec S _ _ _ _ _ hR hf) ?_; rintro v s' ⟨⟨k, rfl, hk⟩, δ, hδ, rfl⟩; (try simp only [NB] at hδ); refine ⟨by first | exact CK | (simp only [RC, Chk.ok, V.ent]; simp (disch := first|exact DB|fail) only [RT, RB, ↓reduceIte, Nat.reduceEqDiff, reduceCtorEq, Nat.reduceLeDiff, Nat.reduceAdd, Int.reduceToNat, Nat.reduceLT]), ?_⟩; try refine SBb ?_) | (show D _ (J.ops _ _ _ _); refine SBb ?_) | (refine T_app ?_; try refine SBb ?_) | (refine T_fork ?_ ?_) | (simp only [T_nil]) | (refine TS (fun h => ?_) (fun h => ?_) (hc := HCb) <;> (try simp only [RH, reduceCtorEq] at h) <;> (try (exfalso; omega))) | (show retR _ _ _ _ _; simp (disch := first|exact DB|fail) only [RR, RB, ↓reduceIte, Nat.reduceEqDiff, reduceCtorEq, Nat.reduceLeDiff, Nat.reduceAdd, Int.reduceToNat, Nat.reduceLT]) | exact rfl))
  · rcases hk with ⟨_, hno⟩ | ⟨i, hi, hki, _⟩
    · have e : xs.filter (fun p => !P p) = xs := by
        rw [List.filter_eq_self]; intro p hp; rw [hno p hp]; rfl
      rw [e]
      exact ⟨hR.over_ hδ, by first | omega | (((first | exact SCb | refine SBb ?_)) <;> omega)⟩
    · omega
  · rcases hk with ⟨h1, _⟩ | ⟨i, hi, rfl, hPi, hno⟩
    · contradiction
    rcases hR.row with ⟨rfl, rfl⟩ | ⟨r, ys, rfl, hr, hr0, hm, hlm⟩
    · simp at hi
    (try simp only [NB] at hδ)
    refine W.seq (W.bloop (fun n F' s' => ∃ (j i' : Nat) (L : List (Int × Int)), n = xs.length - j ∧ F' 6 = .int .i64 j ∧ F' 5 = .int .i64 i' ∧ i' < j ∧ j ≤ xs.length ∧ L.length = (xs ++ ys).length ∧ L.take i' = (xs.take j).filter (fun p => !P p) ∧ L.drop j = (xs ++ ys).drop j ∧ s'.mem r = some (.row (L.map sp)) ∧ St.Le S0 s' ∧ r < s'.next ∧ s.next ≤ s'.next) (xs.length - (i + 1)) ⟨i + 1, i, xs ++ ys, rfl, by ((first | exact SCb | refine SBb ?_)) <;> (congr 1 <;> omega), IB, by omega, by omega, rfl, ?_, rfl, by simp (disch := first|exact DB|fail) only [RB, ↓reduceIte, Nat.reduceEqDiff, reduceCtorEq, Nat.reduceLeDiff, Nat.reduceAdd, Int.reduceToNat, Nat.reduceLT, hm], St.Le.over_ hR.le hδ, by first | omega | (((first | exact SCb | refine SBb ?_)) <;> omega), by first | omega | (((first | exact SCb | refine SBb ?_)) <;> omega)⟩ ?_)
    · rw [List.take_append_of_le_length (by omega), List.take_succ_eq_append_getElem hi, List.filter_append, List.filter_eq_self.2 (fun p hp => by rw [hno p hp]; rfl)]
      simp [hPi]
    rintro n F' s2 hfr ⟨j, i', L, rfl, h6, h5, hij, hj, hLl, hLt, hLd, hm2, hle2, hr2, hn2⟩
    by_cases hjl : j < xs.length
    · have hgj : L[j]? = some xs[j] := by
        have := congrArg (fun l => l[0]?) hLd
        simpa [List.getElem?_drop, List.getElem?_append_left, hjl] using this
      have hget : (L.map sp)[j]? = some (sp xs[j]) := by rw [List.getElem?_map, hgj]; rfl
      have hLl2 : (L.map sp).length = (xs ++ ys).length := by rw [List.length_map, hLl]
      obtain ⟨q, hq⟩ : ∃ q, (L.map sp)[i']? = some (sp q) := by
        rw [List.getElem?_map, List.getElem?_eq_getElem (by rw [hLl]; simp; omega)]; exact ⟨_, rfl⟩
      (repeat' (first | (refine NXt ?_; try intro K hK) | (refine hK _ _ ?_; clear hK; clear K; try simp only [RP, ↓reduceIte, Nat.reduceEqDiff, reduceCtorEq]) | ((first | refine GC_case_t (fun hr => ?_) (fun hr => ?_) | refine GC_case_f (fun hr => ?_) (fun hr => ?_)) <;> (have h := hr; (try simp only [RH, reduceCtorEq] at h); simp (disch := first|exact DB|fail) only [hr, RB, ↓reduceIte, Nat.reduceEqDiff, reduceCtorEq, Nat.reduceLeDiff, Nat.reduceAdd, Int.reduceToNat, Nat.reduceLT, hfr, h6, h5, hm2, hget, hq, sp]; clear hr) <;> (try (exfalso; omega))) | (refine X_callc rfl ?_; simp (disch := first|exact DB|fail) only [List.nil_append, List.append_nil, RB, ↓reduceIte, Nat.reduceEqDiff, reduceCtorEq, Nat.reduceLeDiff, Nat.reduceAdd, Int.reduceToNat, Nat.reduceLT, hfr, h6, h5, hm2, hget, hq, sp]; refine D.mono_call (hcall xs[j] _ ((hle2.trans (by (exact LEb))).gr)) ?_; rintro v s' ⟨rfl, δ3, hδ, rfl⟩; (try simp only [NB] at hδ); refine ⟨by first | exact CK | (simp only [RC, Chk.ok, V.ent]; simp (disch := first|exact DB|fail) only [RT, RB, ↓reduceIte, Nat.reduceEqDiff, reduceCtorEq, Nat.reduceLeDiff, Nat.reduceAdd, Int.reduceToNat, Nat.reduceLT, hfr, h6, h5, hm2, hget, hq, sp]), ?_⟩; try simp (disch := first|exact DB|fail) only [RB, ↓reduceIte, Nat.reduceEqDiff, reduceCtorEq, Nat.reduceLeDiff, Nat.reduceAdd, Int.reduceToNat, Nat.reduceLT, hfr, h6, h5, hm2, hget, hq, sp]) | (show D _ (J.ops _ _ _ _); simp (disch := first|exact DB|fail) only [RB, ↓reduceIte, Nat.reduceEqDiff, reduceCtorEq, Nat.reduceLeDiff, Nat.reduceAdd, Int.reduceToNat, Nat.reduceLT, hfr, h6, h5, hm2, hget, hq, sp]) | (refine T_app ?_; try simp (disch := first|exact DB|fail) only [RB, ↓reduceIte, Nat.reduceEqDiff, reduceCtorEq, Nat.reduceLeDiff, Nat.reduceAdd, Int.reduceToNat, Nat.reduceLT, hfr, h6, h5, hm2, hget, hq, sp]) | (refine T_fork ?_ ?_) | (simp only [T_nil]) | (refine TS (fun h => ?_) (fun h => ?_) (hc := by (simp (disch := first|exact DB|fail) only [RB, ↓reduceIte, Nat.reduceEqDiff, reduceCtorEq, Nat.reduceLeDiff, Nat.reduceAdd, Int.reduceToNat, Nat.reduceLT, hfr, h6, h5, hm2, hget, hq, sp]) <;> rfl) <;> (try simp only [RH, reduceCtorEq] at h) <;> (try (exfalso; omega))) | (show retR _ _ _ _ _; simp (disch := first|exact DB|fail) only [RR, RB, ↓reduceIte, Nat.reduceEqDiff, reduceCtorEq, Nat.reduceLeDiff, Nat.reduceAdd, Int.reduceToNat, Nat.reduceLT, hfr, h6, h5, hm2, hget, hq, sp]) | exact rfl))
      · have hle2n := hle2.1
        refine ⟨xs.length - (j + 1), by omega, j + 1, i' + 1, L.set i' xs[j], rfl, by ((first | exact SCb | refine SBb ?_)) <;> (congr 1 <;> omega), by ((first | exact SCb | refine SBb ?_)) <;> (congr 1 <;> omega), by omega, by omega, by simp [hLl], ?_, ?_, by rw [List.map_set]; exact (by (simp (disch := first|exact DB|fail) only [RB, ↓reduceIte, Nat.reduceEqDiff, reduceCtorEq, Nat.reduceLeDiff, Nat.reduceAdd, Int.reduceToNat, Nat.reduceLT, hm2, sp, Int.natCast_add, Int.natCast_one, Int.natCast_succ]) <;> rfl), by (exact LEb), by first | omega | (((first | exact SCb | refine SBb ?_)) <;> omega), by first | omega | (((first | exact SCb | refine SBb ?_)) <;> omega)⟩
        · have hPj : P xs[j] = false := by assumption
          rw [List.take_succ_eq_append_getElem hjl, List.filter_append, ← hLt, List.take_succ_eq_append_getElem (by rw [List.length_set, hLl]; simp; omega), List.take_set_of_le (by omega)]
          simp [hPj]
        · rw [List.drop_set_of_lt (by omega), ← List.drop_drop, ← List.drop_drop, hLd]
      · have hle2n := hle2.1
        refine ⟨xs.length - (j + 1), by omega, j + 1, i', L, rfl, by ((first | exact SCb | refine SBb ?_)) <;> (congr 1 <;> omega), (by (simp (disch := first|exact DB|fail) only [RB, ↓reduceIte, Nat.reduceEqDiff, reduceCtorEq, Nat.reduceLeDiff, Nat.reduceAdd, Int.reduceToNat, Nat.reduceLT, h5, Int.natCast_add, Int.natCast_one, Int.natCast_succ]) <;> rfl), by omega, by omega, hLl, ?_, ?_, (by (simp (disch := first|exact DB|fail) only [RB, ↓reduceIte, Nat.reduceEqDiff, reduceCtorEq, Nat.reduceLeDiff, Nat.reduceAdd, Int.reduceToNat, Nat.reduceLT, hm2, Int.natCast_add, Int.natCast_one, Int.natCast_succ]) <;> rfl), by (exact LEb), by first | omega | (((first | exact SCb | refine SBb ?_)) <;> omega), by first | omega | (((first | exact SCb | refine SBb ?_)) <;> omega)⟩
        · have hPj : P xs[j] = true := by assumption
          rw [List.take_succ_eq_append_getElem hjl, List.filter_append, ← hLt]
          simp [hPj]
        · rw [← List.drop_drop, ← List.drop_drop, hLd]
    · obtain rfl : j = xs.length := by omega
      rw [List.take_length] at hLt
      have hfl : (xs.filter fun p => !P p).length = i' := by
        rw [← hLt, List.length_take]; simp at hLl; omega
      have hmx : i' + (xs.length - i') ≤ L.length := by rw [hLl]; simp; omega
      (repeat' (first | (refine NXt ?_; try intro K hK) | (refine hK _ _ ?_; clear hK; clear K; try simp only [RP, ↓reduceIte, Nat.reduceEqDiff, reduceCtorEq]) | ((first | refine GC_case_t (fun hr => ?_) (fun hr => ?_) | refine GC_case_f (fun hr => ?_) (fun hr => ?_)) <;> (have h := hr; (try simp only [RH, reduceCtorEq] at h); simp (disch := first|exact DB|fail) only [hr, RB, ↓reduceIte, Nat.reduceEqDiff, reduceCtorEq, Nat.reduceLeDiff, Nat.reduceAdd, Int.reduceToNat, Nat.reduceLT, hfr, h6, h5, hm2, clear_row, hmx]; clear hr) <;> (try (exfalso; omega))) | (show D _ (J.ops _ _ _ _); simp (disch := first|exact DB|fail) only [RB, ↓reduceIte, Nat.reduceEqDiff, reduceCtorEq, Nat.reduceLeDiff, Nat.reduceAdd, Int.reduceToNat, Nat.reduceLT, hfr, h6, h5, hm2, clear_row, hmx]) | (refine T_app ?_; try simp (disch := first|exact DB|fail) only [RB, ↓reduceIte, Nat.reduceEqDiff, reduceCtorEq, Nat.reduceLeDiff, Nat.reduceAdd, Int.reduceToNat, Nat.reduceLT, hfr, h6, h5, hm2, clear_row, hmx]) | (refine T_fork ?_ ?_) | (simp only [T_nil]) | (refine TS (fun h => ?_) (fun h => ?_) (hc := by (simp (disch := first|exact DB|fail) only [RB, ↓reduceIte, Nat.reduceEqDiff, reduceCtorEq, Nat.reduceLeDiff, Nat.reduceAdd, Int.reduceToNat, Nat.reduceLT, hfr, h6, h5, hm2, clear_row, hmx]) <;> rfl) <;> (try simp only [RH, reduceCtorEq] at h) <;> (try (exfalso; omega))) | (show retR _ _ _ _ _; simp (disch := first|exact DB|fail) only [RR, RB, ↓reduceIte, Nat.reduceEqDiff, reduceCtorEq, Nat.reduceLeDiff, Nat.reduceAdd, Int.reduceToNat, Nat.reduceLT, hfr, h6, h5, hm2, clear_row, hmx]) | exact rfl))
      refine ⟨⟨.inr ⟨r, List.replicate (xs.length - i') (0, 0) ++ L.drop (i' + (xs.length - i')), by rw [hfl], by first | omega | (((first | exact SCb | refine SBb ?_)) <;> omega), hr0, ?_, ?_⟩, by (exact LEb)⟩, by first | omega | (((first | exact SCb | refine SBb ?_)) <;> omega)⟩
      · rw [← hLt, List.map_append, List.map_append, List.map_take, List.map_drop, List.map_replicate, ← List.append_assoc]
        exact (by (simp (disch := first|exact DB|fail) only [RB, ↓reduceIte, Nat.reduceEqDiff, reduceCtorEq, Nat.reduceLeDiff, Nat.reduceAdd, Int.reduceToNat, Nat.reduceLT, hm2, sp, Int.natCast_add, Int.natCast_one, Int.natCast_succ]) <;> rfl)
      · rw [← hLt]
        simp only [List.length_append, List.length_replicate, List.length_drop, List.length_take] at hlm hLl ⊢
        omega
end Go.VS.Fn

namespace Go.VS.Fn
open Go.VS
variable {T : Nat → Option FnDef}

/-- A list without what equals its neighbour before it. -/
def dd (l : List (Int × Int)) : List (Int × Int) := l.foldl (fun acc x => if acc.getLast? = some x then acc else acc ++ [x]) []
theorem dd_snoc (l : List (Int × Int)) (x : Int × Int) : dd (l ++ [x]) = if (dd l).getLast? = some x then dd l else dd l ++ [x] := by
  simp only [dd, List.foldl_append, List.foldl_cons, List.foldl_nil]
  rfl
theorem snoc_ind {P : List (Int × Int) → Prop} (h0 : P []) (h1 : ∀ l x, P l → P (l ++ [x])) (l : List (Int × Int)) : P l := by
  have h : ∀ m : List (Int × Int), P m.reverse := fun m => by
    induction m with
    | nil => exact h0
    | cons x r ih => rw [List.reverse_cons]; exact h1 _ _ ih
  have := h l.reverse
  rwa [List.reverse_reverse] at this
theorem dd_last (l : List (Int × Int)) : (dd l).getLast? = l.getLast? := by
  induction l using snoc_ind with
  | h0 => rfl
  | h1 l x ih =>
    rw [dd_snoc]
    split
    · rename_i h; rw [h]; simp
    · simp
theorem dd_mem (l : List (Int × Int)) (p : Int × Int) : p ∈ dd l ↔ p ∈ l := by
  induction l using snoc_ind with
  | h0 => exact Iff.rfl
  | h1 l x ih =>
    rw [dd_snoc]
    split
    · rename_i h
      rw [ih]
      refine ⟨fun h => by simp [h], fun h' => ?_⟩
      rcases List.mem_append.1 h' with h1 | h1
      · exact h1
      · obtain rfl := List.mem_singleton.1 h1; exact ih.1 (List.mem_of_getLast? h)
    · simp [ih]
theorem dd_len (l : List (Int × Int)) : (dd l).length ≤ l.length := by
  induction l using snoc_ind with
  | h0 => exact Nat.le_refl _
  | h1 l x ih =>
    rw [dd_snoc]
    split <;> simp <;> omega
theorem take_last {l : List (Int × Int)} {j : Nat} (h1 : 1 ≤ j) (hj : j ≤ l.length) : (l.take j).getLast? = some (l[j - 1]'(by omega)) := by
  obtain ⟨i, rfl⟩ : ∃ i, j = i + 1 := ⟨j - 1, by omega⟩
  rw [List.take_succ_eq_append_getElem (by omega), List.getLast?_append]
  rfl
theorem dd_succ {l : List (Int × Int)} {j : Nat} (h1 : 1 ≤ j) (hj : j < l.length) : dd (l.take (j + 1)) = if l[j - 1]'(by omega) = l[j] then dd (l.take j) else dd (l.take j) ++ [l[j]] := by
  rw [List.take_succ_eq_append_getElem hj, dd_snoc, dd_last, take_last h1 (by omega)]
  simp

set_option maxHeartbeats 2000000 in
theorem Compact_spec (S : HS T) {S0 : St} (v : V) (xs : List (Int × Int)) (s : St) (hR : PR S0 s v xs) : D T (.call 45 [v] s (fun v s' => PR S0 s' v (dd xs) ∧ s.next ≤ s'.next)) := by
  have hlim := hR.lim
  have hlen := hR.len
  refine C.fn S.h45 rfl ?_
  unfold v45
  dsimp only
  (repeat' (first | (refine NXt ?_; try intro K hK) | (refine hK _ _ ?_; clear hK; clear K; try simp only [RP, ↓reduceIte, Nat.reduceEqDiff, reduceCtorEq]) | ((first | refine GC_case_t (fun hr => ?_) (fun hr => ?_) | refine GC_case_f (fun hr => ?_) (fun hr => ?_)) <;> (have h := hr; (try simp only [RH, reduceCtorEq] at h); simp (disch := first|exact DB|fail) only [hr, RB, ↓reduceIte, Nat.reduceEqDiff, reduceCtorEq, Nat.reduceLeDiff, Nat.reduceAdd, Int.reduceToNat, Nat.reduceLT, hlen, hR.notStr]; clear hr) <;> (try (exfalso; omega))) | (show D _ (J.ops _ _ _ _); simp (disch := first|exact DB|fail) only [RB, ↓reduceIte, Nat.reduceEqDiff, reduceCtorEq, Nat.reduceLeDiff, Nat.reduceAdd, Int.reduceToNat, Nat.reduceLT, hlen, hR.notStr]) | (refine T_app ?_; try simp (disch := first|exact DB|fail) only [RB, ↓reduceIte, Nat.reduceEqDiff, reduceCtorEq, Nat.reduceLeDiff, Nat.reduceAdd, Int.reduceToNat, Nat.reduceLT, hlen, hR.notStr]) | (refine T_fork ?_ ?_) | (simp only [T_nil]) | (refine TS (fun h => ?_) (fun h => ?_) (hc := by (simp (disch := first|exact DB|fail) only [RB, ↓reduceIte, Nat.reduceEqDiff, reduceCtorEq, Nat.reduceLeDiff, Nat.reduceAdd, Int.reduceToNat, Nat.reduceLT, hlen, hR.notStr]) <;> rfl) <;> (try simp only [RH, reduceCtorEq] at h) <;> (try (exfalso; omega))) | (show retR _ _ _ _ _; simp (disch := first|exact DB|fail) only [RR, RB, ↓reduceIte, Nat.reduceEqDiff, reduceCtorEq, Nat.reduceLeDiff, Nat.reduceAdd, Int.reduceToNat, Nat.reduceLT, hlen, hR.notStr]) | exact rfl))
  · refine ⟨?_, by first | trivial | omega⟩
    have e : dd xs = xs := by
      match xs, (show xs.length < 2 by omega) with
      | [], _ => rfl
      | [x], _ => rfl
    rw [e]; exact hR
  rcases hR.row with ⟨rfl, rfl⟩ | ⟨r, ys, rfl, hr, hr0, hm, hlm⟩
  · simp at *
  refine W.seq (W.bloop0 (fun n F' => ∃ k : Nat, n = xs.length - k ∧ 1 ≤ k ∧ k ≤ xs.length ∧ F' 3 = .int .i64 k ∧ dd (xs.take k) = xs.take k) (xs.length - 1) ⟨1, rfl, by omega, by omega, IB, ?_⟩ ?_)
  · match xs with
    | [] => rfl
    | x :: r => rfl
  rintro n F hfr ⟨k, rfl, hk1, hk, h3, hdd⟩
  by_cases hkl : k < xs.length
  · have hget : ∀ j, (h : j < xs.length) → ((xs ++ ys : List (Int × Int)).map sp)[j]? = some (sp xs[j]) := fun j h => by simp [List.getElem?_append_left, h]
    have g1 := hget k hkl
    have g2 := hget (k - 1) (by omega)
    have ei : ∀ kk : IntKind, idxV 2 (.row r 2 0 xs.length) (.int kk ((k : Int) - 1)) = some (.eptr r 2 (k - 1) 0) := fun kk => by
      have := ix_rowi (k := 2) (r' := r) (off := 0) (len := xs.length) (x := (k : Int) - 1) (kk := kk) (by omega) (by omega)
      rw [this]; congr 2; omega
    (repeat' (first | (refine NXt ?_; try intro K hK) | (refine hK _ _ ?_; clear hK; clear K; try simp only [RP, ↓reduceIte, Nat.reduceEqDiff, reduceCtorEq]) | ((first | refine GC_case_t (fun hr => ?_) (fun hr => ?_) | refine GC_case_f (fun hr => ?_) (fun hr => ?_)) <;> (have h := hr; (try simp only [RH, reduceCtorEq] at h); simp (disch := first|exact DB|fail) only [hr, RB, ↓reduceIte, Nat.reduceEqDiff, reduceCtorEq, Nat.reduceLeDiff, Nat.reduceAdd, Int.reduceToNat, Nat.reduceLT, hfr, h3, hm, g1, g2, ei, sp]; clear hr) <;> (try (exfalso; omega))) | (show D _ (J.ops _ _ _ _); simp (disch := first|exact DB|fail) only [RB, ↓reduceIte, Nat.reduceEqDiff, reduceCtorEq, Nat.reduceLeDiff, Nat.reduceAdd, Int.reduceToNat, Nat.reduceLT, hfr, h3, hm, g1, g2, ei, sp]) | (refine T_app ?_; try simp (disch := first|exact DB|fail) only [RB, ↓reduceIte, Nat.reduceEqDiff, reduceCtorEq, Nat.reduceLeDiff, Nat.reduceAdd, Int.reduceToNat, Nat.reduceLT, hfr, h3, hm, g1, g2, ei, sp]) | (refine T_fork ?_ ?_) | (simp only [T_nil]) | (refine TS (fun h => ?_) (fun h => ?_) (hc := by (simp (disch := first|exact DB|fail) only [RB, ↓reduceIte, Nat.reduceEqDiff, reduceCtorEq, Nat.reduceLeDiff, Nat.reduceAdd, Int.reduceToNat, Nat.reduceLT, hfr, h3, hm, g1, g2, ei, sp]) <;> rfl) <;> (try simp only [RH, reduceCtorEq] at h) <;> (try (exfalso; omega))) | (show retR _ _ _ _ _; simp (disch := first|exact DB|fail) only [RR, RB, ↓reduceIte, Nat.reduceEqDiff, reduceCtorEq, Nat.reduceLeDiff, Nat.reduceAdd, Int.reduceToNat, Nat.reduceLT, hfr, h3, hm, g1, g2, ei, sp]) | exact rfl))
    · have heq : xs[k - 1] = xs[k] := by apply Prod.ext <;> simp_all
      refine W.seq (W.bloop (fun n F' s' => ∃ (k2 kw : Nat) (L : List (Int × Int)), n = xs.length - (k + k2) ∧ F' 5 = .int .i64 k2 ∧ F' 3 = .int .i64 kw ∧ 1 ≤ k2 ∧ k + k2 ≤ xs.length ∧ kw + 1 ≤ k + k2 ∧ L.length = (xs ++ ys).length ∧ L.take kw = dd (xs.take (k + k2)) ∧ L.drop (k + k2 - 1) = (xs ++ ys).drop (k + k2 - 1) ∧ s'.mem r = some (.row (L.map sp)) ∧ St.Le S0 s' ∧ r < s'.next ∧ s.next ≤ s'.next) (xs.length - (k + 1)) ⟨1, k, xs ++ ys, rfl, IB, (by (simp (disch := first|exact DB|fail) only [RB, ↓reduceIte, Nat.reduceEqDiff, reduceCtorEq, Nat.reduceLeDiff, Nat.reduceAdd, Int.reduceToNat, Nat.reduceLT, h3, Int.natCast_add, Int.natCast_one, Int.natCast_succ]) <;> rfl), by omega, by omega, by omega, rfl, ?_, rfl, hm, hR.le, hr, by omega⟩ ?_)
      · rw [dd_succ hk1 hkl, if_pos heq, hdd, List.take_append_of_le_length (by omega)]
      rintro n F2 s2 hfr2 ⟨k2, kw, L, rfl, h5, h3', hk21, hk22, hkw, hLl, hLt, hLd, hm2, hle2, hr2, hn2⟩
      by_cases hk2l : k + k2 < xs.length
      · have hgL : ∀ j, k + k2 - 1 ≤ j → (h : j < xs.length) → (L.map sp)[j]? = some (sp xs[j]) := fun j hj h => by
          have := congrArg (fun l => l[j - (k + k2 - 1)]?) hLd
          simp only [List.getElem?_drop] at this
          rw [show k + k2 - 1 + (j - (k + k2 - 1)) = j by omega, List.getElem?_append_left h, List.getElem?_eq_getElem h] at this
          rw [List.getElem?_map, this]; rfl
        have g1' := hgL (k + k2) (by omega) hk2l
        have g2' := hgL (k + k2 - 1) (by omega) (by omega)
        obtain ⟨q, hq⟩ : ∃ q, (L.map sp)[kw]? = some (sp q) := by
          rw [List.getElem?_map, List.getElem?_eq_getElem (by rw [hLl]; simp; omega)]; exact ⟨_, rfl⟩
        have ei2 : ∀ kk : IntKind, idxV 2 (.row r 2 k (xs.length - k)) (.int kk ((k2 : Int) - 1)) = some (.eptr r 2 (k + k2 - 1) 0) := fun kk => by
          have := ix_rowi (k := 2) (r' := r) (off := k) (len := xs.length - k) (x := (k2 : Int) - 1) (kk := kk) (by omega) (by omega)
          rw [this]; congr 2; omega
        (repeat' (first | (refine NXt ?_; try intro K hK) | (refine hK _ _ ?_; clear hK; clear K; try simp only [RP, ↓reduceIte, Nat.reduceEqDiff, reduceCtorEq]) | ((first | refine GC_case_t (fun hr => ?_) (fun hr => ?_) | refine GC_case_f (fun hr => ?_) (fun hr => ?_)) <;> (have h := hr; (try simp only [RH, reduceCtorEq] at h); simp (disch := first|exact DB|fail) only [hr, RB, ↓reduceIte, Nat.reduceEqDiff, reduceCtorEq, Nat.reduceLeDiff, Nat.reduceAdd, Int.reduceToNat, Nat.reduceLT, hfr2, hfr, h3', h5, hm2, g1', g2', hq, ei2, sp]; clear hr) <;> (try (exfalso; omega))) | (show D _ (J.ops _ _ _ _); simp (disch := first|exact DB|fail) only [RB, ↓reduceIte, Nat.reduceEqDiff, reduceCtorEq, Nat.reduceLeDiff, Nat.reduceAdd, Int.reduceToNat, Nat.reduceLT, hfr2, hfr, h3', h5, hm2, g1', g2', hq, ei2, sp]) | (refine T_app ?_; try simp (disch := first|exact DB|fail) only [RB, ↓reduceIte, Nat.reduceEqDiff, reduceCtorEq, Nat.reduceLeDiff, Nat.reduceAdd, Int.reduceToNat, Nat.reduceLT, hfr2, hfr, h3', h5, hm2, g1', g2', hq, ei2, sp]) | (refine T_fork ?_ ?_) | (simp only [T_nil]) | (refine TS (fun h => ?_) (fun h => ?_) (hc := by (simp (disch := first|exact DB|fail) only [RB, ↓reduceIte, Nat.reduceEqDiff, reduceCtorEq, Nat.reduceLeDiff, Nat.reduceAdd, Int.reduceToNat, Nat.reduceLT, hfr2, hfr, h3', h5, hm2, g1', g2', hq, ei2, sp]) <;> rfl) <;> (try simp only [RH, reduceCtorEq] at h) <;> (try (exfalso; omega))) | (show retR _ _ _ _ _; simp (disch := first|exact DB|fail) only [RR, RB, ↓reduceIte, Nat.reduceEqDiff, reduceCtorEq, Nat.reduceLeDiff, Nat.reduceAdd, Int.reduceToNat, Nat.reduceLT, hfr2, hfr, h3', h5, hm2, g1', g2', hq, ei2, sp]) | exact rfl))
        · have hne : xs[k + k2 - 1] ≠ xs[k + k2] := fun e => h ⟨(congrArg Prod.fst e).symm, (congrArg Prod.snd e).symm⟩
          refine ⟨xs.length - (k + (k2 + 1)), by omega, k2 + 1, kw + 1, L.set kw xs[k + k2], rfl, by ((first | exact SCb | refine SBb ?_)) <;> (congr 1 <;> omega), by ((first | exact SCb | refine SBb ?_)) <;> (congr 1 <;> omega), by omega, by omega, by omega, by simp [hLl], ?_, ?_, by rw [List.map_set]; exact (by (simp (disch := first|exact DB|fail) only [RB, ↓reduceIte, Nat.reduceEqDiff, reduceCtorEq, Nat.reduceLeDiff, Nat.reduceAdd, Int.reduceToNat, Nat.reduceLT, hm2, sp, Int.natCast_add, Int.natCast_one, Int.natCast_succ]) <;> rfl), by (exact LEb), by first | omega | (((first | exact SCb | refine SBb ?_)) <;> omega), by first | omega | (((first | exact SCb | refine SBb ?_)) <;> omega)⟩
          · have := dd_succ (l := xs) (j := k + k2) (by omega) hk2l
            rw [if_neg hne] at this
            rw [← Nat.add_assoc, this, ← hLt, List.take_succ_eq_append_getElem (by rw [List.length_set, hLl]; simp; omega), List.take_set_of_le (by omega)]
            simp
          · rw [show k + (k2 + 1) - 1 = k + k2 - 1 + 1 by omega, List.drop_set_of_lt (by omega), ← List.drop_drop, ← List.drop_drop, hLd]
        · have heq2 : xs[k + k2 - 1] = xs[k + k2] := by apply Prod.ext <;> simp_all
          refine ⟨xs.length - (k + (k2 + 1)), by omega, k2 + 1, kw, L, rfl, by ((first | exact SCb | refine SBb ?_)) <;> (congr 1 <;> omega), (by (simp (disch := first|exact DB|fail) only [RB, ↓reduceIte, Nat.reduceEqDiff, reduceCtorEq, Nat.reduceLeDiff, Nat.reduceAdd, Int.reduceToNat, Nat.reduceLT, h3', Int.natCast_add, Int.natCast_one, Int.natCast_succ]) <;> rfl), by omega, by omega, by omega, hLl, ?_, ?_, hm2, hle2, hr2, hn2⟩
          · have := dd_succ (l := xs) (j := k + k2) (by omega) hk2l
            rw [if_pos heq2] at this
            rw [← Nat.add_assoc, this, ← hLt]
          · rw [show k + (k2 + 1) - 1 = k + k2 - 1 + 1 by omega, ← List.drop_drop, ← List.drop_drop, hLd]
      · have hkk : k + k2 = xs.length := by omega
        rw [hkk, List.take_length] at hLt
        have hdl : (dd xs).length = kw := by
          rw [← hLt, List.length_take]; simp at hLl; omega
        have hmx : kw + (xs.length - kw) ≤ L.length := by rw [hLl]; simp; omega
        (repeat' (first | (refine NXt ?_; try intro K hK) | (refine hK _ _ ?_; clear hK; clear K; try simp only [RP, ↓reduceIte, Nat.reduceEqDiff, reduceCtorEq]) | ((first | refine GC_case_t (fun hr => ?_) (fun hr => ?_) | refine GC_case_f (fun hr => ?_) (fun hr => ?_)) <;> (have h := hr; (try simp only [RH, reduceCtorEq] at h); simp (disch := first|exact DB|fail) only [hr, RB, ↓reduceIte, Nat.reduceEqDiff, reduceCtorEq, Nat.reduceLeDiff, Nat.reduceAdd, Int.reduceToNat, Nat.reduceLT, hfr2, hfr, h3', h5, hm2, clear_row, hmx]; clear hr) <;> (try (exfalso; omega))) | (show D _ (J.ops _ _ _ _); simp (disch := first|exact DB|fail) only [RB, ↓reduceIte, Nat.reduceEqDiff, reduceCtorEq, Nat.reduceLeDiff, Nat.reduceAdd, Int.reduceToNat, Nat.reduceLT, hfr2, hfr, h3', h5, hm2, clear_row, hmx]) | (refine T_app ?_; try simp (disch := first|exact DB|fail) only [RB, ↓reduceIte, Nat.reduceEqDiff, reduceCtorEq, Nat.reduceLeDiff, Nat.reduceAdd, Int.reduceToNat, Nat.reduceLT, hfr2, hfr, h3', h5, hm2, clear_row, hmx]) | (refine T_fork ?_ ?_) | (simp only [T_nil]) | (refine TS (fun h => ?_) (fun h => ?_) (hc := by (simp (disch := first|exact DB|fail) only [RB, ↓reduceIte, Nat.reduceEqDiff, reduceCtorEq, Nat.reduceLeDiff, Nat.reduceAdd, Int.reduceToNat, Nat.reduceLT, hfr2, hfr, h3', h5, hm2, clear_row, hmx]) <;> rfl) <;> (try simp only [RH, reduceCtorEq] at h) <;> (try (exfalso; omega))) | (show retR _ _ _ _ _; simp (disch := first|exact DB|fail) only [RR, RB, ↓reduceIte, Nat.reduceEqDiff, reduceCtorEq, Nat.reduceLeDiff, Nat.reduceAdd, Int.reduceToNat, Nat.reduceLT, hfr2, hfr, h3', h5, hm2, clear_row, hmx]) | exact rfl))
        refine ⟨⟨.inr ⟨r, List.replicate (xs.length - kw) (0, 0) ++ L.drop (kw + (xs.length - kw)), by rw [hdl], by first | omega | (((first | exact SCb | refine SBb ?_)) <;> omega), hr0, ?_, ?_⟩, by (exact LEb)⟩, by first | omega | (((first | exact SCb | refine SBb ?_)) <;> omega)⟩
        · rw [← hLt, List.map_append, List.map_append, List.map_take, List.map_drop, List.map_replicate, ← List.append_assoc]
          exact (by (simp (disch := first|exact DB|fail) only [RB, ↓reduceIte, Nat.reduceEqDiff, reduceCtorEq, Nat.reduceLeDiff, Nat.reduceAdd, Int.reduceToNat, Nat.reduceLT, hm2, sp, Int.natCast_add, Int.natCast_one, Int.natCast_succ]) <;> rfl)
        · rw [← hLt]
          simp only [List.length_append, List.length_replicate, List.length_drop, List.length_take] at hlm hLl ⊢
          omega
    · have hne : xs[k - 1] ≠ xs[k] := fun e => h ⟨(congrArg Prod.fst e).symm, (congrArg Prod.snd e).symm⟩
      exact ⟨trivial, xs.length - (k + 1), by omega, k + 1, rfl, by omega, by omega, by ((first | exact SCb | refine SBb ?_)) <;> (congr 1 <;> omega), by rw [dd_succ hk1 hkl, if_neg hne, hdd, List.take_succ_eq_append_getElem hkl]⟩
  · obtain rfl : k = xs.length := by omega
    (repeat' (first | (refine NXt ?_; try intro K hK) | (refine hK _ _ ?_; clear hK; clear K; try simp only [RP, ↓reduceIte, Nat.reduceEqDiff, reduceCtorEq]) | ((first | refine GC_case_t (fun hr => ?_) (fun hr => ?_) | refine GC_case_f (fun hr => ?_) (fun hr => ?_)) <;> (have h := hr; (try simp only [RH, reduceCtorEq] at h); simp (disch := first|exact DB|fail) only [hr, RB, ↓reduceIte, Nat.reduceEqDiff, reduceCtorEq, Nat.reduceLeDiff, Nat.reduceAdd, Int.reduceToNat, Nat.reduceLT, hfr, h3]; clear hr) <;> (try (exfalso; omega))) | (show D _ (J.ops _ _ _ _); simp (disch := first|exact DB|fail) only [RB, ↓reduceIte, Nat.reduceEqDiff, reduceCtorEq, Nat.reduceLeDiff, Nat.reduceAdd, Int.reduceToNat, Nat.reduceLT, hfr, h3]) | (refine T_app ?_; try simp (disch := first|exact DB|fail) only [RB, ↓reduceIte, Nat.reduceEqDiff, reduceCtorEq, Nat.reduceLeDiff, Nat.reduceAdd, Int.reduceToNat, Nat.reduceLT, hfr, h3]) | (refine T_fork ?_ ?_) | (simp only [T_nil]) | (refine TS (fun h => ?_) (fun h => ?_) (hc := by (simp (disch := first|exact DB|fail) only [RB, ↓reduceIte, Nat.reduceEqDiff, reduceCtorEq, Nat.reduceLeDiff, Nat.reduceAdd, Int.reduceToNat, Nat.reduceLT, hfr, h3]) <;> rfl) <;> (try simp only [RH, reduceCtorEq] at h) <;> (try (exfalso; omega))) | (show retR _ _ _ _ _; simp (disch := first|exact DB|fail) only [RR, RB, ↓reduceIte, Nat.reduceEqDiff, reduceCtorEq, Nat.reduceLeDiff, Nat.reduceAdd, Int.reduceToNat, Nat.reduceLT, hfr, h3]) | exact rfl))
    rw [List.take_length] at hdd
    rw [hdd]
    exact ⟨hR, by first | trivial | omega⟩
end Go.VS.Fn

namespace Go.VS.Fn
open Go.VS
variable {T : Nat → Option FnDef}

abbrev leS (p q : Int × Int) : Prop := p.1 < q.1 ∨ (p.1 = q.1 ∧ p.2 ≤ q.2)
abbrev ltS (p q : Int × Int) : Prop := p.1 < q.1 ∨ (p.1 = q.1 ∧ p.2 < q.2)
theorem dd_sorted (l : List (Int × Int)) (h : l.Pairwise leS) : (dd l).Pairwise ltS ∧ ∀ x, (dd l).getLast? = some x → ∀ y ∈ dd l, leS y x := by
  induction l using snoc_ind with
  | h0 => exact ⟨List.Pairwise.nil, fun x h => by simp [dd] at h⟩
  | h1 l x ih =>
    rw [List.pairwise_append] at h
    obtain ⟨i1, i2⟩ := ih h.1
    rw [dd_snoc]
    by_cases hx : (dd l).getLast? = some x
    · rw [if_pos hx]; exact ⟨i1, i2⟩
    · rw [if_neg hx]
      have hle : ∀ y ∈ dd l, leS y x := fun y hy => h.2.2 y ((dd_mem l y).1 hy) x (by simp)
      refine ⟨?_, fun x' hx' y hy => ?_⟩
      · rw [List.pairwise_append]
        refine ⟨i1, by simp, fun y hy z hz => ?_⟩
        rw [List.mem_singleton.1 hz]
        have h1 := hle y hy
        by_cases hyx : y = x
        · subst hyx
          exfalso
          cases hlast : (dd l).getLast? with
          | none => rw [List.getLast?_eq_none_iff] at hlast; rw [hlast] at hy; cases hy
          | some z =>
            have h2 := i2 z hlast y hy
            have h3 := hle z (List.mem_of_getLast? hlast)
            have : z = y := by apply Prod.ext <;> (simp only [leS] at h2 h3; omega)
            subst this
            exact hx hlast
        · simp only [leS, ltS] at h1 ⊢
          by_cases e1 : y.1 = x.1
          · have : y.2 ≠ x.2 := fun e2 => hyx (Prod.ext e1 e2)
            omega
          · omega
      · simp at hx'
        subst hx'
        rcases List.mem_append.1 hy with h1 | h1
        · exact hle y h1
        · rw [List.mem_singleton.1 h1]; exact .inr ⟨rfl, Int.le_refl _⟩
/-- Ascending lists of the same spans are one. -/
theorem ext_lt {xs ys : List (Int × Int)} (hx : xs.Pairwise ltS) (hy : ys.Pairwise ltS) (h : ∀ p, p ∈ xs ↔ p ∈ ys) : xs = ys := by
  induction xs generalizing ys with
  | nil =>
    cases ys with
    | nil => rfl
    | cons y r => exact absurd ((h y).2 (by simp)) (by simp)
  | cons x xs ih =>
    cases ys with
    | nil => exact absurd ((h x).1 (by simp)) (by simp)
    | cons y ys =>
      rw [List.pairwise_cons] at hx hy
      have hxy : x = y := by
        rcases List.mem_cons.1 ((h x).1 (by simp)) with h1 | h1
        · exact h1
        · rcases List.mem_cons.1 ((h y).2 (by simp)) with h2 | h2
          · exact h2.symm
          · have a := hy.1 x h1
            have b := hx.1 y h2
            simp only [ltS] at a b
            omega
      subst hxy
      rw [ih hx.2 hy.2 fun p => ?_]
      refine ⟨fun hp => ?_, fun hp => ?_⟩
      · rcases List.mem_cons.1 ((h p).1 (by simp [hp])) with h1 | h1
        · subst h1
          have := hx.1 p hp
          simp only [ltS] at this; omega
        · exact h1
      · rcases List.mem_cons.1 ((h p).2 (by simp [hp])) with h1 | h1
        · subst h1
          have := hy.1 p hp
          simp only [ltS] at this; omega
        · exact h1

/-- A row, whole. -/
structure PF (S0 s : St) (v : V) (xs : List (Int × Int)) : Prop where
  row : (v = .nilsl ∧ xs = []) ∨ ∃ r, v = .row r 2 0 xs.length ∧ r < s.next ∧ S0.next ≤ r ∧ s.mem r = some (.row (xs.map sp)) ∧ xs.length ≤ 100000
  le : St.Le S0 s
theorem PF.pr {S0 s : St} {v : V} {xs : List (Int × Int)} (h : PF S0 s v xs) : PR S0 s v xs := by
  refine ⟨?_, h.le⟩
  rcases h.row with h1 | ⟨r, h1, h2, h3, h4, h5⟩
  · exact .inl h1
  · exact .inr ⟨r, [], h1, h2, h3, by rw [List.append_nil]; exact h4, by rw [List.append_nil]; exact h5⟩
/-- slices.SortFunc of spans by subcorpus.compare. -/
def SortOk (T : Nat → Option FnDef) : Prop := ∀ (S0 s : St) (v : V) (xs : List (Int × Int)), PF S0 s v xs → D T (.call 44 [v, .fn 29 [] []] s (fun _ s' => ∃ ys, ys.Perm xs ∧ ys.Pairwise leS ∧ PF S0 s' v ys ∧ s.next ≤ s'.next))

theorem sorted_spec (S : HS T) (hs : SortOk T) (v : V) (ls : List (V × List (Int × Int))) (s : St) (hv : IsL v (ls.map (·.1))) (hls : ∀ p ∈ ls, IsL p.1 (p.2.map sp)) (hn : (ls.flatMap (·.2)).length ≤ 100000) (hl : ls.length ≤ 1000) : D T (.call 26 [v] s (fun v s' => ∃ zs, PR s s' v zs ∧ zs.Pairwise ltS ∧ (∀ p, p ∈ zs ↔ ∃ l ∈ ls, p ∈ l.2) ∧ zs.length ≤ (ls.flatMap (·.2)).length)) := by
  refine C.fn S.h26 rfl ?_
  unfold v26
  dsimp only
  have hfm : ((ls.map fun l => (l.1, l.2.map sp)).flatMap (·.2)) = (ls.flatMap (·.2)).map sp := by
    rw [List.flatMap_map, List.map_flatMap]
  have hc : ∀ s, D T (.call 43 [v] s (fun u s' => PF s s' u (ls.flatMap (·.2)))) := fun s => by
    refine (concat_len S.h43 S.h103 (ls.map fun l => (l.1, l.2.map sp)) v s (by rw [List.map_map]; exact hv) ?_ (by rw [hfm, List.length_map]; omega) (by simpa using hl) ?_).mono_call ?_
    · intro p hp
      obtain ⟨l, hl, rfl⟩ := List.mem_map.1 hp
      exact hls l hl
    · intro p hp
      obtain ⟨l, hl, rfl⟩ := List.mem_map.1 hp
      exact wOk_of fun x hx => by obtain ⟨q, _, rfl⟩ := List.mem_map.1 hx; rfl
    · rintro u s' ⟨h1, h2, h3⟩
      rw [hfm] at h1
      refine ⟨?_, h2⟩
      rcases h1 with ⟨rfl, he⟩ | ⟨r, rfl, h4, h5⟩
      · exact .inl ⟨rfl, List.map_eq_nil_iff.1 he⟩
      · refine .inr ⟨r, by rw [List.length_map], h4, h3 _ _ _ _ rfl, h5, hn⟩
  (repeat' (first | (refine NXt ?_; try intro K hK) | (refine hK _ _ ?_; clear hK; clear K; try simp only [RP, ↓reduceIte, Nat.reduceEqDiff, reduceCtorEq]) | ((first | refine GC_case_t (fun hr => ?_) (fun hr => ?_) | refine GC_case_f (fun hr => ?_) (fun hr => ?_)) <;> (have h := hr; (try simp only [RH, reduceCtorEq] at h); simp (disch := first|exact DB|fail) only [hr, RB, ↓reduceIte, Nat.reduceEqDiff, reduceCtorEq, Nat.reduceLeDiff, Nat.reduceAdd, Int.reduceToNat, Nat.reduceLT]; clear hr) <;> (try (exfalso; omega))) | (refine X_callc rfl ?_; simp (disch := first|exact DB|fail) only [List.nil_append, List.append_nil, RB, ↓reduceIte, Nat.reduceEqDiff, reduceCtorEq, Nat.reduceLeDiff, Nat.reduceAdd, Int.reduceToNat, Nat.reduceLT]; refine D.mono_call (hc _) ?_; rintro v s' hpf; (try simp only [NB] at hδ); refine ⟨by first | exact CK | (simp only [RC, Chk.ok, V.ent]; simp (disch := first|exact DB|fail) only [RT, RB, ↓reduceIte, Nat.reduceEqDiff, reduceCtorEq, Nat.reduceLeDiff, Nat.reduceAdd, Int.reduceToNat, Nat.reduceLT]), ?_⟩; try refine SBb ?_) | (show D _ (J.ops _ _ _ _); refine SBb ?_) | (refine T_app ?_; try refine SBb ?_) | (refine T_fork ?_ ?_) | (simp only [T_nil]) | (refine TS (fun h => ?_) (fun h => ?_) (hc := HCb) <;> (try simp only [RH, reduceCtorEq] at h) <;> (try (exfalso; omega))) | (show retR _ _ _ _ _; simp (disch := first|exact DB|fail) only [RR, RB, ↓reduceIte, Nat.reduceEqDiff, reduceCtorEq, Nat.reduceLeDiff, Nat.reduceAdd, Int.reduceToNat, Nat.reduceLT]) | exact rfl))
  (repeat' (first | (refine NXt ?_; try intro K hK) | (refine hK _ _ ?_; clear hK; clear K; try simp only [RP, ↓reduceIte, Nat.reduceEqDiff, reduceCtorEq]) | ((first | refine GC_case_t (fun hr => ?_) (fun hr => ?_) | refine GC_case_f (fun hr => ?_) (fun hr => ?_)) <;> (have h := hr; (try simp only [RH, reduceCtorEq] at h); simp (disch := first|exact DB|fail) only [hr, RB, ↓reduceIte, Nat.reduceEqDiff, reduceCtorEq, Nat.reduceLeDiff, Nat.reduceAdd, Int.reduceToNat, Nat.reduceLT]; clear hr) <;> (try (exfalso; omega))) | (refine X_callc rfl ?_; simp (disch := first|exact DB|fail) only [List.nil_append, List.append_nil, RB, ↓reduceIte, Nat.reduceEqDiff, reduceCtorEq, Nat.reduceLeDiff, Nat.reduceAdd, Int.reduceToNat, Nat.reduceLT]; refine D.mono_call (hs _ _ _ _ hpf) ?_; rintro v s' ⟨ys, hperm, hsort, hpf2, hnx⟩; (try simp only [NB] at hδ); refine ⟨by first | exact CK | (simp only [RC, Chk.ok, V.ent]; simp (disch := first|exact DB|fail) only [RT, RB, ↓reduceIte, Nat.reduceEqDiff, reduceCtorEq, Nat.reduceLeDiff, Nat.reduceAdd, Int.reduceToNat, Nat.reduceLT]), ?_⟩; try refine SBb ?_) | (refine X_callc rfl ?_; simp (disch := first|exact DB|fail) only [List.nil_append, List.append_nil, RB, ↓reduceIte, Nat.reduceEqDiff, reduceCtorEq, Nat.reduceLeDiff, Nat.reduceAdd, Int.reduceToNat, Nat.reduceLT]; refine D.mono_call (Compact_spec S _ _ _ hpf2.pr) ?_; rintro v s' ⟨hpr, hnx2⟩; (try simp only [NB] at hδ); refine ⟨by first | exact CK | (simp only [RC, Chk.ok, V.ent]; simp (disch := first|exact DB|fail) only [RT, RB, ↓reduceIte, Nat.reduceEqDiff, reduceCtorEq, Nat.reduceLeDiff, Nat.reduceAdd, Int.reduceToNat, Nat.reduceLT]), ?_⟩; try refine SBb ?_) | (show D _ (J.ops _ _ _ _); refine SBb ?_) | (refine T_app ?_; try refine SBb ?_) | (refine T_fork ?_ ?_) | (simp only [T_nil]) | (refine TS (fun h => ?_) (fun h => ?_) (hc := HCb) <;> (try simp only [RH, reduceCtorEq] at h) <;> (try (exfalso; omega))) | (show retR _ _ _ _ _; simp (disch := first|exact DB|fail) only [RR, RB, ↓reduceIte, Nat.reduceEqDiff, reduceCtorEq, Nat.reduceLeDiff, Nat.reduceAdd, Int.reduceToNat, Nat.reduceLT]) | exact rfl))
  refine ⟨dd ys, hpr, (dd_sorted ys hsort).1, fun p => ?_, by rw [← hperm.length_eq]; exact dd_len ys⟩
  rw [dd_mem, hperm.mem_iff, List.mem_flatMap]

/-- A slice with just the spans of which P holds, ascending, each once. -/
def SetIs (v : V) (P : Int × Int → Prop) (n : Nat) : Prop := ∃ zs : List (Int × Int), IsL v (zs.map sp) ∧ zs.Pairwise ltS ∧ (∀ p, p ∈ zs ↔ P p) ∧ zs.length ≤ n
theorem PR.frz {S0 s : St} {v : V} {zs : List (Int × Int)} (h : PR S0 s v zs) : ∃ v' s', freezeV v s = some (v', s') ∧ IsL v' (zs.map sp) ∧ St.Le S0 s' := by
  rcases h.row with ⟨rfl, rfl⟩ | ⟨r, ys, rfl, hr, hr0, hm, hlm⟩
  · exact ⟨.nilsl, s, rfl, .nil, h.le⟩
  · refine ⟨.sl s.next 0 0 ((((zs ++ ys).map sp).drop 0).take zs.length), (s.kill r).new (.tip 0 ((((zs ++ ys).map sp).drop 0).take zs.length).length 2), ?_, ?_, St.Le.new_ (St.Le.kill_ h.le hr0)⟩
    · rw [freeze_row, hm]
      simp
    · rw [List.drop_zero, List.map_append, List.take_append_of_le_length (by simp), List.take_of_length_le (by simp)]
      exact .sl

theorem Unite_spec (S : HS T) (hs : SortOk T) (va vb : V) (xs ys : List (Int × Int)) (ha : IsL va (xs.map sp)) (hb : IsL vb (ys.map sp)) (hn : xs.length + ys.length ≤ 100000) (s : St) : D T (.call 8 [va, vb] s (fun v s' => SetIs v (fun p => p ∈ xs ∨ p ∈ ys) (xs.length + ys.length) ∧ St.Gr s s')) := by
  refine C.fn S.h8 rfl ?_
  unfold v8
  dsimp only
  (repeat' (first | (refine NXt ?_; try intro K hK) | (refine hK _ _ ?_; clear hK; clear K; try simp only [RP, ↓reduceIte, Nat.reduceEqDiff, reduceCtorEq]) | ((first | refine GC_case_t (fun hr => ?_) (fun hr => ?_) | refine GC_case_f (fun hr => ?_) (fun hr => ?_)) <;> (have h := hr; (try simp only [RH, reduceCtorEq] at h); simp (disch := first|exact DB|fail) only [hr, RB, ↓reduceIte, Nat.reduceEqDiff, reduceCtorEq, Nat.reduceLeDiff, Nat.reduceAdd, Int.reduceToNat, Nat.reduceLT, ha.cells1, hb.cells1, ha.notTup, hb.notTup, Nat.reduceLT]; clear hr) <;> (try (exfalso; omega))) | (refine X_callc rfl ?_; simp (disch := first|exact DB|fail) only [List.nil_append, List.append_nil, RB, ↓reduceIte, Nat.reduceEqDiff, reduceCtorEq, Nat.reduceLeDiff, Nat.reduceAdd, Int.reduceToNat, Nat.reduceLT, ha.cells1, hb.cells1, ha.notTup, hb.notTup, Nat.reduceLT]; refine D.mono_call (sorted_spec S hs _ [(va, xs), (vb, ys)] _ (.inr ⟨_, _, _, rfl⟩) (by simp [ha, hb]) (by simpa using hn) (by simp)) ?_; rintro v s' ⟨zs, hpr, hzs, hmem, hzl⟩; (try simp only [NB] at hδ); refine ⟨by first | exact CK | (simp only [RC, Chk.ok, V.ent]; simp (disch := first|exact DB|fail) only [RT, RB, ↓reduceIte, Nat.reduceEqDiff, reduceCtorEq, Nat.reduceLeDiff, Nat.reduceAdd, Int.reduceToNat, Nat.reduceLT, ha.cells1, hb.cells1, ha.notTup, hb.notTup, Nat.reduceLT]), ?_⟩; try simp (disch := first|exact DB|fail) only [RB, ↓reduceIte, Nat.reduceEqDiff, reduceCtorEq, Nat.reduceLeDiff, Nat.reduceAdd, Int.reduceToNat, Nat.reduceLT, ha.cells1, hb.cells1, ha.notTup, hb.notTup, Nat.reduceLT]) | (show D _ (J.ops _ _ _ _); simp (disch := first|exact DB|fail) only [RB, ↓reduceIte, Nat.reduceEqDiff, reduceCtorEq, Nat.reduceLeDiff, Nat.reduceAdd, Int.reduceToNat, Nat.reduceLT, ha.cells1, hb.cells1, ha.notTup, hb.notTup, Nat.reduceLT]) | (refine T_app ?_; try simp (disch := first|exact DB|fail) only [RB, ↓reduceIte, Nat.reduceEqDiff, reduceCtorEq, Nat.reduceLeDiff, Nat.reduceAdd, Int.reduceToNat, Nat.reduceLT, ha.cells1, hb.cells1, ha.notTup, hb.notTup, Nat.reduceLT]) | (refine T_fork ?_ ?_) | (simp only [T_nil]) | (refine TS (fun h => ?_) (fun h => ?_) (hc := by (simp (disch := first|exact DB|fail) only [RB, ↓reduceIte, Nat.reduceEqDiff, reduceCtorEq, Nat.reduceLeDiff, Nat.reduceAdd, Int.reduceToNat, Nat.reduceLT, ha.cells1, hb.cells1, ha.notTup, hb.notTup, Nat.reduceLT]) <;> rfl) <;> (try simp only [RH, reduceCtorEq] at h) <;> (try (exfalso; omega))) | (show retR _ _ _ _ _; simp (disch := first|exact DB|fail) only [RR, RB, ↓reduceIte, Nat.reduceEqDiff, reduceCtorEq, Nat.reduceLeDiff, Nat.reduceAdd, Int.reduceToNat, Nat.reduceLT, ha.cells1, hb.cells1, ha.notTup, hb.notTup, Nat.reduceLT]) | exact rfl))
  obtain ⟨v', s2, e, hi, hl⟩ := hpr.frz
  simp (disch := first|exact DB|fail) only [RB, ↓reduceIte, Nat.reduceEqDiff, reduceCtorEq, Nat.reduceLeDiff, Nat.reduceAdd, Int.reduceToNat, Nat.reduceLT, e]
  (repeat' (first | (refine NXt ?_; try intro K hK) | (refine hK _ _ ?_; clear hK; clear K; try simp only [RP, ↓reduceIte, Nat.reduceEqDiff, reduceCtorEq]) | ((first | refine GC_case_t (fun hr => ?_) (fun hr => ?_) | refine GC_case_f (fun hr => ?_) (fun hr => ?_)) <;> (have h := hr; (try simp only [RH, reduceCtorEq] at h); simp (disch := first|exact DB|fail) only [hr, RB, ↓reduceIte, Nat.reduceEqDiff, reduceCtorEq, Nat.reduceLeDiff, Nat.reduceAdd, Int.reduceToNat, Nat.reduceLT]; clear hr) <;> (try (exfalso; omega))) | (show D _ (J.ops _ _ _ _); refine SBb ?_) | (refine T_app ?_; try refine SBb ?_) | (refine T_fork ?_ ?_) | (simp only [T_nil]) | (refine TS (fun h => ?_) (fun h => ?_) (hc := HCb) <;> (try simp only [RH, reduceCtorEq] at h) <;> (try (exfalso; omega))) | (show retR _ _ _ _ _; simp (disch := first|exact DB|fail) only [RR, RB, ↓reduceIte, Nat.reduceEqDiff, reduceCtorEq, Nat.reduceLeDiff, Nat.reduceAdd, Int.reduceToNat, Nat.reduceLT]) | exact rfl))
  exact ⟨⟨zs, hi, hzs, fun p => by rw [hmem]; simp, by simpa using hzl⟩, by (exact LEb)⟩

theorem keep_spec (S : HS T) (hs : SortOk T) (va f : V) (xs : List (Int × Int)) (P : Int × Int → Bool) (ha : IsL va (xs.map sp)) (hn : xs.length ≤ 100000) (s : St) (hf : FnS T s f P) (hfc : f.cells = [f] ∧ f.notTup = true) : D T (.call 24 [va, f] s (fun v s' => SetIs v (fun p => p ∈ xs ∧ P p = true) xs.length ∧ St.Gr s s')) := by
  refine C.fn S.h24 rfl ?_
  unfold v24
  dsimp only
  (repeat' (first | (refine NXt ?_; try intro K hK) | (refine hK _ _ ?_; clear hK; clear K; try simp only [RP, ↓reduceIte, Nat.reduceEqDiff, reduceCtorEq]) | ((first | refine GC_case_t (fun hr => ?_) (fun hr => ?_) | refine GC_case_f (fun hr => ?_) (fun hr => ?_)) <;> (have h := hr; (try simp only [RH, reduceCtorEq] at h); simp (disch := first|exact DB|fail) only [hr, RB, ↓reduceIte, Nat.reduceEqDiff, reduceCtorEq, Nat.reduceLeDiff, Nat.reduceAdd, Int.reduceToNat, Nat.reduceLT, ha.cells1, ha.notTup, hfc.1, hfc.2, Nat.reduceLT]; clear hr) <;> (try (exfalso; omega))) | (refine X_callc rfl ?_; simp (disch := first|exact DB|fail) only [List.nil_append, List.append_nil, RB, ↓reduceIte, Nat.reduceEqDiff, reduceCtorEq, Nat.reduceLeDiff, Nat.reduceAdd, Int.reduceToNat, Nat.reduceLT, ha.cells1, ha.notTup, hfc.1, hfc.2, Nat.reduceLT]; refine D.mono_call (sorted_spec S hs _ [(va, xs)] _ (.inr ⟨_, _, _, rfl⟩) (by simp [ha]) (by simpa using hn) (by simp)) ?_; rintro v s' ⟨zs, hpr, hzs, hmem, hzl⟩; (try simp only [NB] at hδ); refine ⟨by first | exact CK | (simp only [RC, Chk.ok, V.ent]; simp (disch := first|exact DB|fail) only [RT, RB, ↓reduceIte, Nat.reduceEqDiff, reduceCtorEq, Nat.reduceLeDiff, Nat.reduceAdd, Int.reduceToNat, Nat.reduceLT, ha.cells1, ha.notTup, hfc.1, hfc.2, Nat.reduceLT]), ?_⟩; try simp (disch := first|exact DB|fail) only [RB, ↓reduceIte, Nat.reduceEqDiff, reduceCtorEq, Nat.reduceLeDiff, Nat.reduceAdd, Int.reduceToNat, Nat.reduceLT, ha.cells1, ha.notTup, hfc.1, hfc.2, Nat.reduceLT]) | (show D _ (J.ops _ _ _ _); simp (disch := first|exact DB|fail) only [RB, ↓reduceIte, Nat.reduceEqDiff, reduceCtorEq, Nat.reduceLeDiff, Nat.reduceAdd, Int.reduceToNat, Nat.reduceLT, ha.cells1, ha.notTup, hfc.1, hfc.2, Nat.reduceLT]) | (refine T_app ?_; try simp (disch := first|exact DB|fail) only [RB, ↓reduceIte, Nat.reduceEqDiff, reduceCtorEq, Nat.reduceLeDiff, Nat.reduceAdd, Int.reduceToNat, Nat.reduceLT, ha.cells1, ha.notTup, hfc.1, hfc.2, Nat.reduceLT]) | (refine T_fork ?_ ?_) | (simp only [T_nil]) | (refine TS (fun h => ?_) (fun h => ?_) (hc := by (simp (disch := first|exact DB|fail) only [RB, ↓reduceIte, Nat.reduceEqDiff, reduceCtorEq, Nat.reduceLeDiff, Nat.reduceAdd, Int.reduceToNat, Nat.reduceLT, ha.cells1, ha.notTup, hfc.1, hfc.2, Nat.reduceLT]) <;> rfl) <;> (try simp only [RH, reduceCtorEq] at h) <;> (try (exfalso; omega))) | (show retR _ _ _ _ _; simp (disch := first|exact DB|fail) only [RR, RB, ↓reduceIte, Nat.reduceEqDiff, reduceCtorEq, Nat.reduceLeDiff, Nat.reduceAdd, Int.reduceToNat, Nat.reduceLT, ha.cells1, ha.notTup, hfc.1, hfc.2, Nat.reduceLT]) | exact rfl))
  have hle := hpr.le
  have hF : FnS T ((s.new (.obj [f])).new (.tip 0 1 1)) (.fn 39 [] [.ptr s.next 0]) (fun p => !P p) := by
    refine ⟨39, [], [.ptr s.next 0], rfl, fun p s' hg => ?_⟩
    obtain ⟨δ, hδ, rfl⟩ := hg
    (try simp only [NB] at hδ)
    exact keep1_spec S f P p s.next _ (by ((first | exact SCb | refine SBb ?_)); omega) (by (first | exact SCb | refine SBb ?_)) (hf.mono (by (exact LEb)))
  (repeat' (first | (refine NXt ?_; try intro K hK) | (refine hK _ _ ?_; clear hK; clear K; try simp only [RP, ↓reduceIte, Nat.reduceEqDiff, reduceCtorEq]) | ((first | refine GC_case_t (fun hr => ?_) (fun hr => ?_) | refine GC_case_f (fun hr => ?_) (fun hr => ?_)) <;> (have h := hr; (try simp only [RH, reduceCtorEq] at h); simp (disch := first|exact DB|fail) only [hr, RB, ↓reduceIte, Nat.reduceEqDiff, reduceCtorEq, Nat.reduceLeDiff, Nat.reduceAdd, Int.reduceToNat, Nat.reduceLT]; clear hr) <;> (try (exfalso; omega))) | (refine X_callc rfl ?_; simp (disch := first|exact DB|fail) only [List.nil_append, List.append_nil, RB, ↓reduceIte, Nat.reduceEqDiff, reduceCtorEq, Nat.reduceLeDiff, Nat.reduceAdd, Int.reduceToNat, Nat.reduceLT]; refine D.mono_call (DeleteFunc_spec S _ _ _ _ _ hpr hF) ?_; rintro v s' ⟨hpr2, hn2⟩; (try simp only [NB] at hδ); refine ⟨by first | exact CK | (simp only [RC, Chk.ok, V.ent]; simp (disch := first|exact DB|fail) only [RT, RB, ↓reduceIte, Nat.reduceEqDiff, reduceCtorEq, Nat.reduceLeDiff, Nat.reduceAdd, Int.reduceToNat, Nat.reduceLT]), ?_⟩; try refine SBb ?_) | (show D _ (J.ops _ _ _ _); refine SBb ?_) | (refine T_app ?_; try refine SBb ?_) | (refine T_fork ?_ ?_) | (simp only [T_nil]) | (refine TS (fun h => ?_) (fun h => ?_) (hc := HCb) <;> (try simp only [RH, reduceCtorEq] at h) <;> (try (exfalso; omega))) | (show retR _ _ _ _ _; simp (disch := first|exact DB|fail) only [RR, RB, ↓reduceIte, Nat.reduceEqDiff, reduceCtorEq, Nat.reduceLeDiff, Nat.reduceAdd, Int.reduceToNat, Nat.reduceLT]) | exact rfl))
  obtain ⟨v', s2, e, hi, hl⟩ := hpr2.frz
  simp (disch := first|exact DB|fail) only [RB, ↓reduceIte, Nat.reduceEqDiff, reduceCtorEq, Nat.reduceLeDiff, Nat.reduceAdd, Int.reduceToNat, Nat.reduceLT, e]
  (repeat' (first | (refine NXt ?_; try intro K hK) | (refine hK _ _ ?_; clear hK; clear K; try simp only [RP, ↓reduceIte, Nat.reduceEqDiff, reduceCtorEq]) | ((first | refine GC_case_t (fun hr => ?_) (fun hr => ?_) | refine GC_case_f (fun hr => ?_) (fun hr => ?_)) <;> (have h := hr; (try simp only [RH, reduceCtorEq] at h); simp (disch := first|exact DB|fail) only [hr, RB, ↓reduceIte, Nat.reduceEqDiff, reduceCtorEq, Nat.reduceLeDiff, Nat.reduceAdd, Int.reduceToNat, Nat.reduceLT]; clear hr) <;> (try (exfalso; omega))) | (show D _ (J.ops _ _ _ _); refine SBb ?_) | (refine T_app ?_; try refine SBb ?_) | (refine T_fork ?_ ?_) | (simp only [T_nil]) | (refine TS (fun h => ?_) (fun h => ?_) (hc := HCb) <;> (try simp only [RH, reduceCtorEq] at h) <;> (try (exfalso; omega))) | (show retR _ _ _ _ _; simp (disch := first|exact DB|fail) only [RR, RB, ↓reduceIte, Nat.reduceEqDiff, reduceCtorEq, Nat.reduceLeDiff, Nat.reduceAdd, Int.reduceToNat, Nat.reduceLT]) | exact rfl))
  exact ⟨⟨_, hi, hzs.filter _, fun p => by rw [List.mem_filter, hmem]; simp, Nat.le_trans (List.length_filter_le _ _) (by simpa using hzl)⟩, by (exact LEb)⟩

theorem Subtract_spec (S : HS T) (hs : SortOk T) (va vb : V) (xs ys : List (Int × Int)) (ha : IsL va (xs.map sp)) (hb : IsL vb (ys.map sp)) (hn : xs.length ≤ 100000) (hn2 : ys.length ≤ 100000) (s : St) : D T (.call 6 [va, vb] s (fun v s' => SetIs v (fun p => p ∈ xs ∧ p ∉ ys) xs.length ∧ St.Gr s s')) := by
  refine C.fn S.h6 rfl ?_
  unfold v6
  dsimp only
  have hF : FnS T (s.new (.obj [vb])) (.fn 23 [] [.ptr s.next 0]) (fun p => !decide (p ∈ ys)) := by
    refine ⟨23, [], [.ptr s.next 0], rfl, fun p s' hg => ?_⟩
    obtain ⟨δ, hδ, rfl⟩ := hg
    (try simp only [NB] at hδ)
    exact Subtract1_spec S vb ys hb hn2 p s.next _ (by ((first | exact SCb | refine SBb ?_)); omega) (by (first | exact SCb | refine SBb ?_))
  (repeat' (first | (refine NXt ?_; try intro K hK) | (refine hK _ _ ?_; clear hK; clear K; try simp only [RP, ↓reduceIte, Nat.reduceEqDiff, reduceCtorEq]) | ((first | refine GC_case_t (fun hr => ?_) (fun hr => ?_) | refine GC_case_f (fun hr => ?_) (fun hr => ?_)) <;> (have h := hr; (try simp only [RH, reduceCtorEq] at h); simp (disch := first|exact DB|fail) only [hr, RB, ↓reduceIte, Nat.reduceEqDiff, reduceCtorEq, Nat.reduceLeDiff, Nat.reduceAdd, Int.reduceToNat, Nat.reduceLT, hb.cells1, hb.notTup]; clear hr) <;> (try (exfalso; omega))) | (refine X_callc rfl ?_; simp (disch := first|exact DB|fail) only [List.nil_append, List.append_nil, RB, ↓reduceIte, Nat.reduceEqDiff, reduceCtorEq, Nat.reduceLeDiff, Nat.reduceAdd, Int.reduceToNat, Nat.reduceLT, hb.cells1, hb.notTup]; refine D.mono_call (keep_spec S hs _ _ _ _ ha hn _ hF ⟨rfl, rfl⟩) ?_; rintro v s' ⟨⟨zs, hi, hzs, hmem, hlm⟩, δ, hδ, rfl⟩; (try simp only [NB] at hδ); refine ⟨by first | exact CK | (simp only [RC, Chk.ok, V.ent]; simp (disch := first|exact DB|fail) only [RT, RB, ↓reduceIte, Nat.reduceEqDiff, reduceCtorEq, Nat.reduceLeDiff, Nat.reduceAdd, Int.reduceToNat, Nat.reduceLT, hb.cells1, hb.notTup]), ?_⟩; try simp (disch := first|exact DB|fail) only [RB, ↓reduceIte, Nat.reduceEqDiff, reduceCtorEq, Nat.reduceLeDiff, Nat.reduceAdd, Int.reduceToNat, Nat.reduceLT, hb.cells1, hb.notTup]) | (show D _ (J.ops _ _ _ _); simp (disch := first|exact DB|fail) only [RB, ↓reduceIte, Nat.reduceEqDiff, reduceCtorEq, Nat.reduceLeDiff, Nat.reduceAdd, Int.reduceToNat, Nat.reduceLT, hb.cells1, hb.notTup]) | (refine T_app ?_; try simp (disch := first|exact DB|fail) only [RB, ↓reduceIte, Nat.reduceEqDiff, reduceCtorEq, Nat.reduceLeDiff, Nat.reduceAdd, Int.reduceToNat, Nat.reduceLT, hb.cells1, hb.notTup]) | (refine T_fork ?_ ?_) | (simp only [T_nil]) | (refine TS (fun h => ?_) (fun h => ?_) (hc := by (simp (disch := first|exact DB|fail) only [RB, ↓reduceIte, Nat.reduceEqDiff, reduceCtorEq, Nat.reduceLeDiff, Nat.reduceAdd, Int.reduceToNat, Nat.reduceLT, hb.cells1, hb.notTup]) <;> rfl) <;> (try simp only [RH, reduceCtorEq] at h) <;> (try (exfalso; omega))) | (show retR _ _ _ _ _; simp (disch := first|exact DB|fail) only [RR, RB, ↓reduceIte, Nat.reduceEqDiff, reduceCtorEq, Nat.reduceLeDiff, Nat.reduceAdd, Int.reduceToNat, Nat.reduceLT, hb.cells1, hb.notTup]) | exact rfl))
  exact ⟨⟨zs, hi, hzs, fun p => by rw [hmem]; simp, hlm⟩, by (exact LEb)⟩
theorem Intersect_spec (S : HS T) (hs : SortOk T) (va vb : V) (xs ys : List (Int × Int)) (ha : IsL va (xs.map sp)) (hb : IsL vb (ys.map sp)) (hn : xs.length ≤ 100000) (hn2 : ys.length ≤ 100000) (s : St) : D T (.call 7 [va, vb] s (fun v s' => SetIs v (fun p => p ∈ xs ∧ p ∈ ys) xs.length ∧ St.Gr s s')) := by
  refine C.fn S.h7 rfl ?_
  unfold v7
  dsimp only
  have hF : FnS T (s.new (.obj [vb])) (.fn 25 [] [.ptr s.next 0]) (fun p => decide (p ∈ ys)) := by
    refine ⟨25, [], [.ptr s.next 0], rfl, fun p s' hg => ?_⟩
    obtain ⟨δ, hδ, rfl⟩ := hg
    (try simp only [NB] at hδ)
    exact Intersect1_spec S vb ys hb hn2 p s.next _ (by ((first | exact SCb | refine SBb ?_)); omega) (by (first | exact SCb | refine SBb ?_))
  (repeat' (first | (refine NXt ?_; try intro K hK) | (refine hK _ _ ?_; clear hK; clear K; try simp only [RP, ↓reduceIte, Nat.reduceEqDiff, reduceCtorEq]) | ((first | refine GC_case_t (fun hr => ?_) (fun hr => ?_) | refine GC_case_f (fun hr => ?_) (fun hr => ?_)) <;> (have h := hr; (try simp only [RH, reduceCtorEq] at h); simp (disch := first|exact DB|fail) only [hr, RB, ↓reduceIte, Nat.reduceEqDiff, reduceCtorEq, Nat.reduceLeDiff, Nat.reduceAdd, Int.reduceToNat, Nat.reduceLT, hb.cells1, hb.notTup]; clear hr) <;> (try (exfalso; omega))) | (refine X_callc rfl ?_; simp (disch := first|exact DB|fail) only [List.nil_append, List.append_nil, RB, ↓reduceIte, Nat.reduceEqDiff, reduceCtorEq, Nat.reduceLeDiff, Nat.reduceAdd, Int.reduceToNat, Nat.reduceLT, hb.cells1, hb.notTup]; refine D.mono_call (keep_spec S hs _ _ _ _ ha hn _ hF ⟨rfl, rfl⟩) ?_; rintro v s' ⟨⟨zs, hi, hzs, hmem, hlm⟩, δ, hδ, rfl⟩; (try simp only [NB] at hδ); refine ⟨by first | exact CK | (simp only [RC, Chk.ok, V.ent]; simp (disch := first|exact DB|fail) only [RT, RB, ↓reduceIte, Nat.reduceEqDiff, reduceCtorEq, Nat.reduceLeDiff, Nat.reduceAdd, Int.reduceToNat, Nat.reduceLT, hb.cells1, hb.notTup]), ?_⟩; try simp (disch := first|exact DB|fail) only [RB, ↓reduceIte, Nat.reduceEqDiff, reduceCtorEq, Nat.reduceLeDiff, Nat.reduceAdd, Int.reduceToNat, Nat.reduceLT, hb.cells1, hb.notTup]) | (show D _ (J.ops _ _ _ _); simp (disch := first|exact DB|fail) only [RB, ↓reduceIte, Nat.reduceEqDiff, reduceCtorEq, Nat.reduceLeDiff, Nat.reduceAdd, Int.reduceToNat, Nat.reduceLT, hb.cells1, hb.notTup]) | (refine T_app ?_; try simp (disch := first|exact DB|fail) only [RB, ↓reduceIte, Nat.reduceEqDiff, reduceCtorEq, Nat.reduceLeDiff, Nat.reduceAdd, Int.reduceToNat, Nat.reduceLT, hb.cells1, hb.notTup]) | (refine T_fork ?_ ?_) | (simp only [T_nil]) | (refine TS (fun h => ?_) (fun h => ?_) (hc := by (simp (disch := first|exact DB|fail) only [RB, ↓reduceIte, Nat.reduceEqDiff, reduceCtorEq, Nat.reduceLeDiff, Nat.reduceAdd, Int.reduceToNat, Nat.reduceLT, hb.cells1, hb.notTup]) <;> rfl) <;> (try simp only [RH, reduceCtorEq] at h) <;> (try (exfalso; omega))) | (show retR _ _ _ _ _; simp (disch := first|exact DB|fail) only [RR, RB, ↓reduceIte, Nat.reduceEqDiff, reduceCtorEq, Nat.reduceLeDiff, Nat.reduceAdd, Int.reduceToNat, Nat.reduceLT, hb.cells1, hb.notTup]) | exact rfl))
  exact ⟨⟨zs, hi, hzs, fun p => by rw [hmem]; simp, hlm⟩, by (exact LEb)⟩
theorem Inside_spec (S : HS T) (hs : SortOk T) (va vb : V) (xs ys : List (Int × Int)) (ha : IsL va (xs.map sp)) (hb : IsL vb (ys.map sp)) (hn : xs.length ≤ 100000) (hn2 : ys.length ≤ 100000) (s : St) : D T (.call 10 [va, vb] s (fun v s' => SetIs v (fun p => p ∈ xs ∧ ∃ q ∈ ys, q.1 ≤ p.1 ∧ p.2 ≤ q.2) xs.length ∧ St.Gr s s')) := by
  refine C.fn S.h10 rfl ?_
  unfold v10
  dsimp only
  have hF : FnS T (s.new (.obj [vb])) (.fn 27 [] [.ptr s.next 0]) (fun p => ys.any fun q => decide (q.1 ≤ p.1 ∧ p.2 ≤ q.2)) := by
    refine ⟨27, [], [.ptr s.next 0], rfl, fun p s' hg => ?_⟩
    obtain ⟨δ, hδ, rfl⟩ := hg
    (try simp only [NB] at hδ)
    exact Inside1_spec S vb ys hb hn2 p s.next _ (by ((first | exact SCb | refine SBb ?_)); omega) (by (first | exact SCb | refine SBb ?_))
  (repeat' (first | (refine NXt ?_; try intro K hK) | (refine hK _ _ ?_; clear hK; clear K; try simp only [RP, ↓reduceIte, Nat.reduceEqDiff, reduceCtorEq]) | ((first | refine GC_case_t (fun hr => ?_) (fun hr => ?_) | refine GC_case_f (fun hr => ?_) (fun hr => ?_)) <;> (have h := hr; (try simp only [RH, reduceCtorEq] at h); simp (disch := first|exact DB|fail) only [hr, RB, ↓reduceIte, Nat.reduceEqDiff, reduceCtorEq, Nat.reduceLeDiff, Nat.reduceAdd, Int.reduceToNat, Nat.reduceLT, hb.cells1, hb.notTup]; clear hr) <;> (try (exfalso; omega))) | (refine X_callc rfl ?_; simp (disch := first|exact DB|fail) only [List.nil_append, List.append_nil, RB, ↓reduceIte, Nat.reduceEqDiff, reduceCtorEq, Nat.reduceLeDiff, Nat.reduceAdd, Int.reduceToNat, Nat.reduceLT, hb.cells1, hb.notTup]; refine D.mono_call (keep_spec S hs _ _ _ _ ha hn _ hF ⟨rfl, rfl⟩) ?_; rintro v s' ⟨⟨zs, hi, hzs, hmem, hlm⟩, δ, hδ, rfl⟩; (try simp only [NB] at hδ); refine ⟨by first | exact CK | (simp only [RC, Chk.ok, V.ent]; simp (disch := first|exact DB|fail) only [RT, RB, ↓reduceIte, Nat.reduceEqDiff, reduceCtorEq, Nat.reduceLeDiff, Nat.reduceAdd, Int.reduceToNat, Nat.reduceLT, hb.cells1, hb.notTup]), ?_⟩; try simp (disch := first|exact DB|fail) only [RB, ↓reduceIte, Nat.reduceEqDiff, reduceCtorEq, Nat.reduceLeDiff, Nat.reduceAdd, Int.reduceToNat, Nat.reduceLT, hb.cells1, hb.notTup]) | (show D _ (J.ops _ _ _ _); simp (disch := first|exact DB|fail) only [RB, ↓reduceIte, Nat.reduceEqDiff, reduceCtorEq, Nat.reduceLeDiff, Nat.reduceAdd, Int.reduceToNat, Nat.reduceLT, hb.cells1, hb.notTup]) | (refine T_app ?_; try simp (disch := first|exact DB|fail) only [RB, ↓reduceIte, Nat.reduceEqDiff, reduceCtorEq, Nat.reduceLeDiff, Nat.reduceAdd, Int.reduceToNat, Nat.reduceLT, hb.cells1, hb.notTup]) | (refine T_fork ?_ ?_) | (simp only [T_nil]) | (refine TS (fun h => ?_) (fun h => ?_) (hc := by (simp (disch := first|exact DB|fail) only [RB, ↓reduceIte, Nat.reduceEqDiff, reduceCtorEq, Nat.reduceLeDiff, Nat.reduceAdd, Int.reduceToNat, Nat.reduceLT, hb.cells1, hb.notTup]) <;> rfl) <;> (try simp only [RH, reduceCtorEq] at h) <;> (try (exfalso; omega))) | (show retR _ _ _ _ _; simp (disch := first|exact DB|fail) only [RR, RB, ↓reduceIte, Nat.reduceEqDiff, reduceCtorEq, Nat.reduceLeDiff, Nat.reduceAdd, Int.reduceToNat, Nat.reduceLT, hb.cells1, hb.notTup]) | exact rfl))
  exact ⟨⟨zs, hi, hzs, fun p => by rw [hmem]; simp, hlm⟩, by (exact LEb)⟩
end Go.VS.Fn
