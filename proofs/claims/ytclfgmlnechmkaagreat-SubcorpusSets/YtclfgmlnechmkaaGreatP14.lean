/-
  Part 14 of 43 of the proof of SubcorpusSetsSaid, by an abstract machine that stands in for the Go program: lemmas without conditions of their own.
-/
import Derived.Test.YtclfgmlnechmkaaGreatP12
import Derived.Test.YtclfgmlnechmkaaGreatP02
import Derived.Test.YtclfgmlnechmkaaGreatP13
set_option linter.unusedSimpArgs false
set_option linter.unusedVariables false
namespace Go.VS.Fn
open Go.VS
variable {T : Nat → Option FnDef}

theorem TOk.append {b e f : Int} {xs ys : List V} (h : TOk b xs e) (k : TOk e ys f) : TOk b (xs ++ ys) f := by
  induction xs generalizing b with
  | nil => have h : b = e := h; subst h; exact k
  | cons t r ih =>
    obtain ⟨a, e', m, rfl, hm, h1, hr⟩ := h
    exact ⟨a, e', m, rfl, hm, h1, ih hr⟩

theorem _root_.Go.VS.MRow.set_ {s : St} {v : V} {k r : Nat} {e : Ent} {xs : List V} (h : MRow s v k xs) (hne : ∀ i kk o n, v = .row i kk o n → i ≠ r) : MRow (s.set r e) v k xs := by
  rcases h with h | ⟨i, rfl, hi, hm⟩
  · exact .inl h
  · exact .inr ⟨i, rfl, hi, by rw [mem_set_ne (hne _ _ _ _ rfl)]; exact hm⟩
theorem _root_.Go.VS.MRow.over_ {s δ : St} {v : V} {k : Nat} {xs : List V} (h : MRow s v k xs) (hd : s.next ≤ δ.next) : MRow (s.over δ) v k xs := by
  rcases h with h | ⟨i, rfl, hi, hm⟩
  · exact .inl h
  · exact .inr ⟨i, rfl, by rw [next_over]; omega, by rw [mem_over hi]; exact hm⟩
theorem _root_.Go.VS.MRow.new_ {s : St} {v : V} {k : Nat} {e : Ent} {xs : List V} (h : MRow s v k xs) : MRow (s.new e) v k xs := by
  rcases h with h | ⟨i, rfl, hi, hm⟩
  · exact .inl h
  · exact .inr ⟨i, rfl, by rw [nx_new]; omega, by rw [mem_new_ne (by omega)]; exact hm⟩

theorem _root_.Go.VS.MRow.ovo_ {s δ : St} {v : V} {k : Nat} {xs : List V} (h : MRow s v k xs) (hd : s.next ≤ δ.next) : MRow (s.ovo δ) v k xs := by
  rcases h with h | ⟨i, rfl, hi, hm⟩
  · exact .inl h
  · exact .inr ⟨i, rfl, by rw [nx_ovo]; omega, by rw [mem_ovo hi, hm]⟩
theorem wOkI {xs : List V} (h : ∀ x ∈ xs, isI x) : wOk 1 xs = true := wOk_of fun x hx => by obtain ⟨j, rfl⟩ := h x hx; rfl
theorem wOkS {xs : List V} (h : ∀ x ∈ xs, isS x) : wOk 1 xs = true := wOk_of fun x hx => by obtain ⟨j, rfl⟩ := h x hx; rfl

theorem nmid_set {Ln : List V} {i m : Nat} {a : List Nat} {b e p : Int} (h : ∀ q (h : q < Ln.length), ∃ a b e p, Ln[q] = .agg [.str a, .int .i64 b, .int .i64 e, .int .i64 p] ∧ -1 ≤ p ∧ p < (if q < i then (q : Int) else q - m)) (h1 : -1 ≤ p) (h2 : p < i) : ∀ q (h : q < (Ln.set i (.agg [.str a, .int .i64 b, .int .i64 e, .int .i64 p])).length), ∃ a' b' e' p', (Ln.set i (.agg [.str a, .int .i64 b, .int .i64 e, .int .i64 p]))[q] = .agg [.str a', .int .i64 b', .int .i64 e', .int .i64 p'] ∧ -1 ≤ p' ∧ p' < (if q < i + 1 then (q : Int) else q - m) := by
  intro q hq
  by_cases hqi : q = i
  · subst hqi
    exact ⟨a, b, e, p, by simp, h1, by rw [if_pos (by omega)]; exact h2⟩
  · obtain ⟨a', b', e', p', hx, h3, h4⟩ := h q (by simpa using hq)
    refine ⟨a', b', e', p', by rw [List.getElem_set_ne (by omega)]; exact hx, h3, ?_⟩
    by_cases hlt : q < i
    · rw [if_pos (by omega)]; rw [if_pos hlt] at h4; exact h4
    · rw [if_neg (by omega)]; rw [if_neg hlt] at h4; exact h4

/-- 'append(append([]T(nil), x...), y...)', with a move between. -/
theorem X_app2i' {F : Frame} {s : St} {K : Frame → St → Prop} {r : List Lo} {d1 d2 dm k by_ : Nat} {x y z : Opd} {vx vy : V} {xs ys : List V} (hx : x.ev F = vx) (hy : ∀ v, y.ev ((F.put d1 v).put dm (z.ev (F.put d1 v))) = vy) (hd : dm ≠ d1) (hX : IsL vx xs) (hY : IsL vy ys) (w1 : wOk k xs = true) (w2 : wOk k ys = true) (hl : xs.length + ys.length ≤ 1000000) (hb : by_ ≤ 4096)
    (h : ∀ v1 v δ, s.next ≤ δ.next → Tip0 s (s.over δ) v k (xs ++ ys) → D T (.ops r (((F.put d1 v1).put dm (z.ev (F.put d1 v1))).put d2 v) (s.over δ) K)) :
    D T (.ops (⟨some d1, .append false k by_ (.c .nilsl) x, none, []⟩ :: ⟨some dm, .mv z, none, []⟩ :: ⟨some d2, .append false k by_ (.t d1) y, none, []⟩ :: r) F s K) := by
  have hm : 1000000 ≤ most := by simp only [most]; omega
  obtain ⟨v1, s1, e1, m1, l1, n1⟩ := append_isl (s := s) (S0 := s) (v := .nilsl) (by_ := by_) (k := k) (.inl ⟨rfl, rfl⟩) hX.elems hX.rowOk w1 rfl (by simp; omega) hb (St.LeW.refl _ _) (by simp [V.own])
  rw [List.nil_append] at m1
  obtain ⟨v2, s2, e2, m2, l2, n2⟩ := append_isl (by_ := by_) m1 hY.elems hY.rowOk w2 w1 (by omega) hb l1 n1
  obtain ⟨δ1, hd1, rfl⟩ := l1.gr
  obtain ⟨δ2, hd2, rfl⟩ := l2.gr
  refine .step (v := v1) (s' := s.over δ1) rfl ?_ (by simp) (.step (v := z.ev (F.put d1 v1)) (s' := s.over δ1) rfl rfl (by simp) (.step (v := v2) (s' := s.over δ2) rfl ?_ (by simp) (h v1 v2 δ2 hd2 ⟨m2, n2⟩)))
  · simp only [opS, ev_c, hx, e1]
  · show opS _ ((F.put d1 v1).put dm (z.ev (F.put d1 v1))) _ = _
    have : ((F.put d1 v1).put dm (z.ev (F.put d1 v1))) d1 = v1 := by rw [put_at, if_neg hd.symm, put_at, if_pos rfl]
    simp only [opS, ev_t, this, hy, e2]

theorem _root_.Go.VS.MRow.of_eq {s s' : St} {v : V} {k : Nat} {xs : List V} (h : MRow s v k xs) (hn : s.next ≤ s'.next) (hh : ∀ i kk o n, i < s.next → v = .row i kk o n → s'.mem i = s.mem i) : MRow s' v k xs := by
  rcases h with h | ⟨i, rfl, hi, hm⟩
  · exact .inl h
  · exact .inr ⟨i, rfl, by omega, by rw [hh i k 0 xs.length hi rfl]; exact hm⟩
theorem frzc_mrow {S0 s : St} {o d k : Nat} {cells : List V} {v : V} {xs : List V} (hm : s.mem o = some (.obj cells)) (hc : cells[d]? = some v) (hr : MRow s v k xs) (ho : o < s.next) (hle : St.Le S0 s) (ho0 : S0.next ≤ o) (hnew : ∀ i kk o n, v = .row i kk o n → S0.next ≤ i) :
    ∃ v' s', frzcV (.ptr o 0) d s = some s' ∧ IsL v' xs ∧ s'.mem o = some (.obj (cells.set d v')) ∧ s.next ≤ s'.next ∧ St.Le S0 s' ∧ ∀ i, i < s.next → i ≠ o → (∀ kk o n, v ≠ .row i kk o n) → s'.mem i = s.mem i := by
  rcases hr with ⟨rfl, rfl⟩ | ⟨i, rfl, hi, hmi⟩
  · refine ⟨.nilsl, s.set o (.obj (cells.set d .nilsl)), ?_, .nil, mem_set_at rfl, by rw [nx_set]; omega, St.Le.set_ hle ho0, fun j hj hjo _ => mem_set_ne hjo⟩
    have hb : Nat.blt o s.next = true := by rw [Nat.blt_eq]; exact ho
    simp only [frzcV, hm, Nat.zero_add, hc, freezeV, hb]
    rfl
  · have hio : i ≠ o := by rintro rfl; rw [hmi] at hm; cases hm
    have hi0 := hnew _ _ _ _ rfl
    have hmo : ((s.kill i).new (.tip 0 xs.length k)).mem o = some (.obj cells) := by
      rw [mem_new_ne (by rw [nx_kill]; omega), mem_kill_ne hio.symm]; exact hm
    refine ⟨.sl s.next 0 0 xs, ((s.kill i).new (.tip 0 xs.length k)).set o (.obj (cells.set d (.sl s.next 0 0 xs))), ?_, .sl, mem_set_at rfl, by rw [nx_set, nx_new, nx_kill]; omega, St.Le.set_ (St.Le.new_ (St.Le.kill_ hle hi0)) ho0, fun j hj hjo hjr => ?_⟩
    · have hb : Nat.blt o ((s.kill i).new (.tip 0 xs.length k)).next = true := by rw [Nat.blt_eq, nx_new, nx_kill]; omega
      have he : freezeV (.row i k 0 xs.length) s = some (.sl s.next 0 0 xs, (s.kill i).new (.tip 0 xs.length k)) := by
        rw [freeze_row, hmi]
        simp
      simp only [frzcV, hm, Nat.zero_add, hc, he, hmo, hb]
      rfl
    · rw [mem_set_ne hjo, mem_new_ne (by rw [nx_kill]; omega), mem_kill_ne (by rintro rfl; exact hjr _ _ _ rfl)]

/-- The stages of Concat: where the objects lie. -/
structure CatO (s s' : St) (ca cb : V) (i10 : Nat) (cs : List V) : Prop where
  le : St.Le s s'
  ma : s'.mem s.next = some (.obj ca.cells)
  mb : s'.mem (s.next + 1) = some (.obj cb.cells)
  m4 : s'.mem (s.next + 1 + 1) = some (.obj [.nilsl, .nilsl, .nilsl, .nilsl, .nilsl, .nilsl, .nilsl])
  m10 : s'.mem i10 = some (.obj cs)
  lt : i10 < s'.next
  ge : s.next + 1 + 1 < i10

set_option maxHeartbeats 8000000 in
theorem Concat_spec (M : HM T) (H : HV T) {ca cb : V} (ha : MC ca) (hb : MC cb) (s : St) : D T (.call 21 [ca, cb] s (fun v s' => (∃ x0 x1 x2 x3 x4 x5 x6 e, v = .tup [.agg [x0, x1, x2, x3, x4, x5, x6], .int .i64 e] ∧ (e = 0 → MC (.agg [x0, x1, x2, x3, x4, x5, x6]))) ∧ St.Gr s s')) := by
  obtain ⟨asa, ksa, tsa, xsa, nsa, hsa, rsa, Ca, hTa, hka1, hka2, hha, hra⟩ := ha
  obtain ⟨asb, ksb, tsb, xsb, nsb, hsb, rsb, Cb, hTb, hkb1, hkb2, hhb, hrb⟩ := hb
  obtain ⟨va, vk, vt, vx, vn, vh, vr, rfl, ia, ik, it, ix, i_n, ih, ir⟩ := Ca.eq
  obtain ⟨wa, wk, wt, wx, wn, wh, wr, rfl, ja, jk, jt, jx, jn, jh, jr⟩ := Cb.eq
  refine C.fn M.h21 rfl ?_
  unfold v21
  dsimp only
  have lta := Ca.lt
  have ltb := Cb.lt
  ((have E := And.intro jt.len jt.notStr; (repeat' (first | (refine NXt ?_; try intro K hK) | (refine hK _ _ ?_; clear hK; clear K; try refine PX ?_) | ((first | refine GC_case_t (fun hr => ?_) (fun hr => ?_) | refine GC_case_f (fun hr => ?_) (fun hr => ?_)) <;> (have h := hr; (try simp only [RH, reduceCtorEq] at h); refine SHb ?_; clear hr) <;> (try (exfalso; omega))) | (refine X_callc rfl ?_; refine SNb ?_; refine D.mono_call (Valid_spec H Ca _) ?_; rintro v s' ⟨⟨b, rfl⟩, δ, hδ, rfl⟩; (try simp only [NB] at hδ); refine ⟨by exact CEb, ?_⟩; try refine SEb ?_) | (refine X_callc rfl ?_; refine SNb ?_; refine D.mono_call (Valid_spec H Cb _) ?_; rintro v s' ⟨⟨b, rfl⟩, δ, hδ, rfl⟩; (try simp only [NB] at hδ); refine ⟨by exact CEb, ?_⟩; try refine SEb ?_) | (refine X_callc rfl ?_; refine SNb ?_; refine D.mono_call (sameAttributes_spec M.h36 _ _ _ _ ia ja Ca.hA Cb.hA Ca.la _) ?_; rintro v s' ⟨⟨b, rfl⟩, rfl⟩; (try simp only [NB] at hδ); refine ⟨by exact CEb, ?_⟩; try refine SEb ?_) | (show D _ (J.ops _ _ _ _); refine SEb ?_) | (refine T_app ?_; try refine SEb ?_) | (refine T_fork ?_ ?_) | (simp only [T_nil]) | (refine TS (fun h => ?_) (fun h => ?_) (hc := HEb) <;> (try simp only [RH, reduceCtorEq] at h) <;> (try (exfalso; omega))) | (show retR _ _ _ _ _; refine SRb ?_) | exact rfl))) <;> (try clear E))
  all_goals try exact ⟨⟨_, _, _, _, _, _, _, _, rfl, fun h => absurd h (by decide)⟩, by (exact LEb)⟩
  refine W.midF (fun F' s1 => St.Gr (((s.new (.obj [va, vk, vt, vx, vn, vh, vr])).new (.obj [wa, wk, wt, wx, wn, wh, wr])).new (.obj [.nilsl, .nilsl, .nilsl, .nilsl, .nilsl, .nilsl, .nilsl])) s1) (W.rangeG (N := tsb.length) (fun k F s' => True) IB IB (by omega) rfl ST trivial ?_ ?_) ?_
  · rintro k F δ1 hk hfr hi hδ1 -
    obtain ⟨a, b', e', m, hx, _⟩ := Cb.hT _ (List.getElem_mem hk)
    (try simp only [NB] at hδ1)
    ((have E := And.intro hfr (And.intro hi (And.intro jt.ixE hx)); (repeat' (first | (refine NXt ?_; try intro K hK) | (refine hK _ _ ?_; clear hK; clear K; try refine PX ?_) | ((first | refine GC_case_t (fun hr => ?_) (fun hr => ?_) | refine GC_case_f (fun hr => ?_) (fun hr => ?_)) <;> (have h := hr; (try simp only [RH, reduceCtorEq] at h); refine SHb ?_; clear hr) <;> (try (exfalso; omega))) | (refine X_callc rfl ?_; refine SNb ?_; refine D.mono_call (FindText_spec va vk vt vx vn vh vr tsa it Ca.hT Ca.lt M.h37 _ _) ?_; rintro v s' ⟨⟨b, rfl⟩, δ, hδ, rfl⟩; (try simp only [NB] at hδ); refine ⟨by exact CEb, ?_⟩; try refine SEb ?_) | (show D _ (J.ops _ _ _ _); refine SEb ?_) | (refine T_app ?_; try refine SEb ?_) | (refine T_fork ?_ ?_) | (simp only [T_nil]) | (refine TS (fun h => ?_) (fun h => ?_) (hc := HEb) <;> (try simp only [RH, reduceCtorEq] at h) <;> (try (exfalso; omega))) | (show retR _ _ _ _ _; refine SRb ?_) | exact rfl))) <;> (try clear E))
    all_goals first | exact ⟨⟨_, _, _, _, _, _, _, _, rfl, fun h => absurd h (by decide)⟩, by (exact LEb)⟩ | exact ⟨by (exact LEb), trivial⟩
  · rintro F δ1 hfr hδ1 -
    (try simp only [NB] at hδ1)
    (simp only [RP, ↓reduceIte, Nat.reduceEqDiff, reduceCtorEq])
    (exact LEb)
  rintro F1 s1 hfr1 ⟨δ1, hδ1, rfl⟩
  (try simp only [NB] at hδ1)
  have lka := Ca.lk
  have lkb := Cb.lk
  have lxa := Ca.lx
  have lxb := Cb.lx
  have lna := Ca.ln
  have lnb := Cb.ln
  ((have E := And.intro hfr1 (And.intro ik.len (And.intro ik.notStr (And.intro it.len (And.intro it.notStr (And.intro ix.len (And.intro ix.notStr (And.intro i_n.len (And.intro i_n.notStr (And.intro jk.len (And.intro jk.notStr (And.intro jt.len (And.intro jt.notStr (And.intro jx.len (And.intro jx.notStr (And.intro jn.len jn.notStr))))))))))))))); (repeat' (first | (refine NXt ?_; try intro K hK) | (refine hK _ _ ?_; clear hK; clear K; try refine PX ?_) | ((first | refine GC_case_t (fun hr => ?_) (fun hr => ?_) | refine GC_case_f (fun hr => ?_) (fun hr => ?_)) <;> (have h := hr; (try simp only [RH, reduceCtorEq] at h); refine SHb ?_; clear hr) <;> (try (exfalso; omega))) | (show D _ (J.ops _ _ _ _); refine SEb ?_) | (refine T_app ?_; try refine SEb ?_) | (refine T_fork ?_ ?_) | (simp only [T_nil]) | (refine TS (fun h => ?_) (fun h => ?_) (hc := HEb) <;> (try simp only [RH, reduceCtorEq] at h) <;> (try (exfalso; omega))) | (show retR _ _ _ _ _; refine SRb ?_) | exact rfl))) <;> (try clear E))
  all_goals try exact ⟨⟨_, _, _, _, _, _, _, _, rfl, fun h => absurd h (by decide)⟩, by (exact LEb)⟩
  have w2 : wOk 2 asa = true := wOk_of fun x hx => by obtain ⟨a, b, rfl⟩ := Ca.hA x hx; rfl
  have w4t : wOk 4 tsa = true := wOk_of fun x hx => by obtain ⟨a, b, c, d, rfl, _⟩ := Ca.hT x hx; rfl
  have w4t' : wOk 4 tsb = true := wOk_of fun x hx => by obtain ⟨a, b, c, d, rfl, _⟩ := Cb.hT x hx; rfl
  have laa := Ca.la
  refine X_app1i rfl ia w2 (by omega) (by omega) ?_
  intro vA δ2 hδ2 htA
  (try simp only [NB] at hδ2)
  have iA := htA.isL
  (repeat' (first | (refine NXt ?_; try intro K hK) | (refine hK _ _ ?_; clear hK; clear K; try refine PX ?_) | ((first | refine GC_case_t (fun hr => ?_) (fun hr => ?_) | refine GC_case_f (fun hr => ?_) (fun hr => ?_)) <;> (have h := hr; (try simp only [RH, reduceCtorEq] at h); simp (disch := first|exact DB|fail) only [hr, RB, ↓reduceIte, Nat.reduceEqDiff, reduceCtorEq, Nat.reduceLeDiff, Nat.reduceAdd, Int.reduceToNat, Nat.reduceLT, iA.cells1, iA.notTup, decide_true, hfr1]; clear hr) <;> (try (exfalso; omega))) | (show D _ (J.ops _ _ _ _); simp (disch := first|exact DB|fail) only [RB, ↓reduceIte, Nat.reduceEqDiff, reduceCtorEq, Nat.reduceLeDiff, Nat.reduceAdd, Int.reduceToNat, Nat.reduceLT, iA.cells1, iA.notTup, decide_true, hfr1]) | (refine T_app ?_; try simp (disch := first|exact DB|fail) only [RB, ↓reduceIte, Nat.reduceEqDiff, reduceCtorEq, Nat.reduceLeDiff, Nat.reduceAdd, Int.reduceToNat, Nat.reduceLT, iA.cells1, iA.notTup, decide_true, hfr1]) | (refine T_fork ?_ ?_) | (simp only [T_nil]) | (refine TS (fun h => ?_) (fun h => ?_) (hc := by (simp (disch := first|exact DB|fail) only [RB, ↓reduceIte, Nat.reduceEqDiff, reduceCtorEq, Nat.reduceLeDiff, Nat.reduceAdd, Int.reduceToNat, Nat.reduceLT, iA.cells1, iA.notTup, decide_true, hfr1]) <;> rfl) <;> (try simp only [RH, reduceCtorEq] at h) <;> (try (exfalso; omega))) | (show retR _ _ _ _ _; simp (disch := first|exact DB|fail) only [RR, RB, ↓reduceIte, Nat.reduceEqDiff, reduceCtorEq, Nat.reduceLeDiff, Nat.reduceAdd, Int.reduceToNat, Nat.reduceLT, iA.cells1, iA.notTup, decide_true, hfr1]) | (simp (disch := first|exact DB|fail) only [RB, ↓reduceIte, Nat.reduceEqDiff, reduceCtorEq, Nat.reduceLeDiff, Nat.reduceAdd, Int.reduceToNat, Nat.reduceLT, iA.cells1, iA.notTup, decide_true, hfr1]) | exact rfl))
  refine X_app2i rfl (fun _ => rfl) ik jk (cells1_tok Ca.hK) (cells1_tok Cb.hK) (by omega) (by omega) (fun δ hδ => by (first | exact SCb | refine SBb ?_)) (fun v δ δ' h1 h2 => by (first | exact SCb | refine SBb ?_)) ?_
  intro _ vK δ3 hδ3 htK
  (try simp only [NB] at hδ3)
  have iK := htK.isL
  (repeat' (first | (refine NXt ?_; try intro K hK) | (refine hK _ _ ?_; clear hK; clear K; try refine PX ?_) | ((first | refine GC_case_t (fun hr => ?_) (fun hr => ?_) | refine GC_case_f (fun hr => ?_) (fun hr => ?_)) <;> (have h := hr; (try simp only [RH, reduceCtorEq] at h); simp (disch := first|exact DB|fail) only [hr, RB, ↓reduceIte, Nat.reduceEqDiff, reduceCtorEq, Nat.reduceLeDiff, Nat.reduceAdd, Int.reduceToNat, Nat.reduceLT, iK.cells1, iK.notTup, decide_true, hfr1]; clear hr) <;> (try (exfalso; omega))) | (show D _ (J.ops _ _ _ _); simp (disch := first|exact DB|fail) only [RB, ↓reduceIte, Nat.reduceEqDiff, reduceCtorEq, Nat.reduceLeDiff, Nat.reduceAdd, Int.reduceToNat, Nat.reduceLT, iK.cells1, iK.notTup, decide_true, hfr1]) | (refine T_app ?_; try simp (disch := first|exact DB|fail) only [RB, ↓reduceIte, Nat.reduceEqDiff, reduceCtorEq, Nat.reduceLeDiff, Nat.reduceAdd, Int.reduceToNat, Nat.reduceLT, iK.cells1, iK.notTup, decide_true, hfr1]) | (refine T_fork ?_ ?_) | (simp only [T_nil]) | (refine TS (fun h => ?_) (fun h => ?_) (hc := by (simp (disch := first|exact DB|fail) only [RB, ↓reduceIte, Nat.reduceEqDiff, reduceCtorEq, Nat.reduceLeDiff, Nat.reduceAdd, Int.reduceToNat, Nat.reduceLT, iK.cells1, iK.notTup, decide_true, hfr1]) <;> rfl) <;> (try simp only [RH, reduceCtorEq] at h) <;> (try (exfalso; omega))) | (show retR _ _ _ _ _; simp (disch := first|exact DB|fail) only [RR, RB, ↓reduceIte, Nat.reduceEqDiff, reduceCtorEq, Nat.reduceLeDiff, Nat.reduceAdd, Int.reduceToNat, Nat.reduceLT, iK.cells1, iK.notTup, decide_true, hfr1]) | (simp (disch := first|exact DB|fail) only [RB, ↓reduceIte, Nat.reduceEqDiff, reduceCtorEq, Nat.reduceLeDiff, Nat.reduceAdd, Int.reduceToNat, Nat.reduceLT, iK.cells1, iK.notTup, decide_true, hfr1]) | exact rfl))
  refine X_app2m rfl (fun _ => rfl) it jt w4t w4t' (by omega) (by omega) (fun δ hδ => by (first | exact SCb | refine SBb ?_)) (fun v δ δ' h1 h2 => by (first | exact SCb | refine SBb ?_)) ?_
  intro _ vT δ4 hδ4 hmT hnT
  (try simp only [NB] at hδ4)
  (repeat' (first | (refine NXt ?_; try intro K hK) | (refine hK _ _ ?_; clear hK; clear K; try refine PX ?_) | ((first | refine GC_case_t (fun hr => ?_) (fun hr => ?_) | refine GC_case_f (fun hr => ?_) (fun hr => ?_)) <;> (have h := hr; (try simp only [RH, reduceCtorEq] at h); simp (disch := first|exact DB|fail) only [hr, RB, ↓reduceIte, Nat.reduceEqDiff, reduceCtorEq, Nat.reduceLeDiff, Nat.reduceAdd, Int.reduceToNat, Nat.reduceLT, hmT.cells1, hmT.notTup, decide_true, hfr1, it.len, it.notStr]; clear hr) <;> (try (exfalso; omega))) | (show D _ (J.ops _ _ _ _); simp (disch := first|exact DB|fail) only [RB, ↓reduceIte, Nat.reduceEqDiff, reduceCtorEq, Nat.reduceLeDiff, Nat.reduceAdd, Int.reduceToNat, Nat.reduceLT, hmT.cells1, hmT.notTup, decide_true, hfr1, it.len, it.notStr]) | (refine T_app ?_; try simp (disch := first|exact DB|fail) only [RB, ↓reduceIte, Nat.reduceEqDiff, reduceCtorEq, Nat.reduceLeDiff, Nat.reduceAdd, Int.reduceToNat, Nat.reduceLT, hmT.cells1, hmT.notTup, decide_true, hfr1, it.len, it.notStr]) | (refine T_fork ?_ ?_) | (simp only [T_nil]) | (refine TS (fun h => ?_) (fun h => ?_) (hc := by (simp (disch := first|exact DB|fail) only [RB, ↓reduceIte, Nat.reduceEqDiff, reduceCtorEq, Nat.reduceLeDiff, Nat.reduceAdd, Int.reduceToNat, Nat.reduceLT, hmT.cells1, hmT.notTup, decide_true, hfr1, it.len, it.notStr]) <;> rfl) <;> (try simp only [RH, reduceCtorEq] at h) <;> (try (exfalso; omega))) | (show retR _ _ _ _ _; simp (disch := first|exact DB|fail) only [RR, RB, ↓reduceIte, Nat.reduceEqDiff, reduceCtorEq, Nat.reduceLeDiff, Nat.reduceAdd, Int.reduceToNat, Nat.reduceLT, hmT.cells1, hmT.notTup, decide_true, hfr1, it.len, it.notStr]) | (simp (disch := first|exact DB|fail) only [RB, ↓reduceIte, Nat.reduceEqDiff, reduceCtorEq, Nat.reduceLeDiff, Nat.reduceAdd, Int.reduceToNat, Nat.reduceLT, hmT.cells1, hmT.notTup, decide_true, hfr1, it.len, it.notStr]) | exact rfl))
  have htsa : tsa ≠ [] := by
    rintro rfl
    have h0 : (0 : Int) = ksa.length := hTa
    omega
  rcases hmT with ⟨_, he⟩ | ⟨rT, rfl, hrT, hmT⟩
  · exact absurd (List.append_eq_nil_iff.1 he).1 htsa
  have hrT2 := hnT _ _ _ _ rfl
  (try simp only [NB] at hrT2); (try simp only [NB] at hrT)
  obtain ⟨NT, hNT⟩ : ∃ NT, NT = tsa.length + tsb.length := ⟨_, rfl⟩
  simp only [List.length_append]
  rw [← hNT]
  refine W.midF (fun F' s5 => St.Le s s5 ∧ s5.mem s.next = some (.obj [va, vk, vt, vx, vn, vh, vr]) ∧ s5.mem (s.next + 1) = some (.obj [wa, wk, wt, wx, wn, wh, wr]) ∧ s5.mem (s.next + 1 + 1) = some (.obj [.nilsl, .nilsl, .nilsl, .nilsl, .nilsl, .nilsl, .nilsl]) ∧ s5.mem δ2.next = some (.obj [vA, vK, .row rT 4 0 NT, .nilsl, .nilsl, .nilsl, .nilsl]) ∧ δ2.next < s5.next ∧ rT < s5.next ∧ ∃ L, s5.mem rT = some (.row L) ∧ TOk 0 L ((ksa.length : Int) + ksb.length) ∧ L.length = tsa.length + tsb.length) (W.bloop (fun n F' s5 => St.Le s s5 ∧ s5.mem s.next = some (.obj [va, vk, vt, vx, vn, vh, vr]) ∧ s5.mem (s.next + 1) = some (.obj [wa, wk, wt, wx, wn, wh, wr]) ∧ s5.mem (s.next + 1 + 1) = some (.obj [.nilsl, .nilsl, .nilsl, .nilsl, .nilsl, .nilsl, .nilsl]) ∧ s5.mem δ2.next = some (.obj [vA, vK, .row rT 4 0 NT, .nilsl, .nilsl, .nilsl, .nilsl]) ∧ δ2.next < s5.next ∧ rT < s5.next ∧ ∃ (j : Nat) (P : List V) (b : Int), n = tsb.length - j ∧ j ≤ tsb.length ∧ F' 11 = .int .i64 ((tsa.length + j : Nat) : Int) ∧ P.length = j ∧ TOk ksa.length P ((ksa.length : Int) + b) ∧ TOk b (tsb.drop j) ksb.length ∧ 0 ≤ b ∧ s5.mem rT = some (.row (tsa ++ P ++ tsb.drop j))) tsb.length ⟨by (exact LEb), by (first | exact SCb | refine SBb ?_), by (first | exact SCb | refine SBb ?_), by (first | exact SCb | refine SBb ?_), by (first | exact SCb | refine SBb ?_), by ((first | exact SCb | refine SBb ?_)) <;> omega, by ((first | exact SCb | refine SBb ?_)) <;> omega, 0, [], 0, by omega, by omega, IB, rfl, by simp [TOk], hTb, by omega, by rw [List.append_nil, List.drop_zero]; ((have E := hmT; first | exact SXb | refine SEb ?_) <;> (try clear E))⟩ ?_) ?_
  · rintro n F' s5 hfr ⟨hle5, m2, m3, m4, m10, hn5, hrn5, j, P, b, rfl, hj, h11, hPl, hP, hR, hb0, hrow⟩
    by_cases hjl : j = tsb.length
    · subst hjl
      (repeat' (first | (refine NXt ?_; try intro K hK) | (refine hK _ _ ?_; clear hK; clear K; try refine PX ?_) | ((first | refine GC_case_t (fun hr => ?_) (fun hr => ?_) | refine GC_case_f (fun hr => ?_) (fun hr => ?_)) <;> (have h := hr; (try simp only [RH, reduceCtorEq] at h); simp (disch := first|exact DB|fail) only [hr, RB, ↓reduceIte, Nat.reduceEqDiff, reduceCtorEq, Nat.reduceLeDiff, Nat.reduceAdd, Int.reduceToNat, Nat.reduceLT, hfr, h11, m10, hNT, Int.natCast_add]; clear hr) <;> (try (exfalso; omega))) | (show D _ (J.ops _ _ _ _); simp (disch := first|exact DB|fail) only [RB, ↓reduceIte, Nat.reduceEqDiff, reduceCtorEq, Nat.reduceLeDiff, Nat.reduceAdd, Int.reduceToNat, Nat.reduceLT, hfr, h11, m10, hNT, Int.natCast_add]) | (refine T_app ?_; try simp (disch := first|exact DB|fail) only [RB, ↓reduceIte, Nat.reduceEqDiff, reduceCtorEq, Nat.reduceLeDiff, Nat.reduceAdd, Int.reduceToNat, Nat.reduceLT, hfr, h11, m10, hNT, Int.natCast_add]) | (refine T_fork ?_ ?_) | (simp only [T_nil]) | (refine TS (fun h => ?_) (fun h => ?_) (hc := by (simp (disch := first|exact DB|fail) only [RB, ↓reduceIte, Nat.reduceEqDiff, reduceCtorEq, Nat.reduceLeDiff, Nat.reduceAdd, Int.reduceToNat, Nat.reduceLT, hfr, h11, m10, hNT, Int.natCast_add]) <;> rfl) <;> (try simp only [RH, reduceCtorEq] at h) <;> (try (exfalso; omega))) | (show retR _ _ _ _ _; simp (disch := first|exact DB|fail) only [RR, RB, ↓reduceIte, Nat.reduceEqDiff, reduceCtorEq, Nat.reduceLeDiff, Nat.reduceAdd, Int.reduceToNat, Nat.reduceLT, hfr, h11, m10, hNT, Int.natCast_add]) | exact rfl))
      rw [List.drop_length] at hR hrow
      have hR : b = ksb.length := hR
      subst hR
      exact ⟨hle5, m2, m3, m4, m10, hn5, hrn5, _, hrow, by rw [List.append_nil]; exact hTa.append hP, by simp [hPl]⟩
    · have hjl' : j < tsb.length := by omega
      rw [List.drop_eq_getElem_cons hjl'] at hR hrow
      obtain ⟨ta, te, tm, hx, htm, hbe, hR'⟩ := hR
      have hbn := hR'.le
      rw [hx] at hrow
      have hget : ∀ A : V, (tsa ++ P ++ A :: tsb.drop (j + 1))[tsa.length + j]? = some A := fun A => by
        rw [List.getElem?_append_right (by simp [hPl])]; simp [hPl]
      have hset : ∀ A A' : V, (tsa ++ P ++ A :: tsb.drop (j + 1)).set (tsa.length + j) A' = tsa ++ P ++ A' :: tsb.drop (j + 1) := fun A A' => by
        rw [List.set_append_right _ _ (by simp [hPl])]; simp [hPl]
      ((have E := And.intro hfr (And.intro h11 (And.intro m10 (And.intro hrow (And.intro hget hset)))); (repeat' (first | (refine NXt ?_; try intro K hK) | (refine hK _ _ ?_; clear hK; clear K; try refine PX ?_) | ((first | refine GC_case_t (fun hr => ?_) (fun hr => ?_) | refine GC_case_f (fun hr => ?_) (fun hr => ?_)) <;> (have h := hr; (try simp only [RH, reduceCtorEq] at h); refine SHb ?_; clear hr) <;> (try (exfalso; omega))) | (show D _ (J.ops _ _ _ _); refine SEb ?_) | (refine T_app ?_; try refine SEb ?_) | (refine T_fork ?_ ?_) | (simp only [T_nil]) | (refine TS (fun h => ?_) (fun h => ?_) (hc := HEb) <;> (try simp only [RH, reduceCtorEq] at h) <;> (try (exfalso; omega))) | (show retR _ _ _ _ _; refine SRb ?_) | exact rfl))) <;> (try clear E))
      refine ⟨tsb.length - (j + 1), by omega, by (exact LEb), (by have E := m2; exact IEb), (by have E := m3; exact IEb), (by have E := m4; exact IEb), (by have E := m10; exact IEb), by ((first | exact SCb | refine SBb ?_)) <;> omega, by ((first | exact SCb | refine SBb ?_)) <;> omega, j + 1, P ++ [.agg [.str ta, .int .i64 (b + ksa.length), .int .i64 (te + ksa.length), tm]], te, rfl, by omega, by ((first | exact SCb | refine SBb ?_)) <;> (congr 1 <;> omega), by simp [hPl], hP.append ⟨ta, te + ksa.length, tm, by rw [Int.add_comm b], htm, by omega, Int.add_comm _ _⟩, hR', by omega, ?_⟩
      have he : ∀ A : V, tsa ++ (P ++ [A]) ++ tsb.drop (j + 1) = tsa ++ P ++ A :: tsb.drop (j + 1) := fun A => by simp
      rw [he]
      (first | exact SCb | refine SBb ?_)
  rintro F2 s5 hfr2 ⟨hle5, m2, m3, m4, m10, hn5, hrn5, L, hrow, hL, hLl⟩
  have w4x : wOk 4 xsa = true := wOk_of fun x hx => by obtain ⟨a, b, c, d, rfl, _⟩ := Ca.hX x hx; rfl
  have w4x' : wOk 4 xsb = true := wOk_of fun x hx => by obtain ⟨a, b, c, d, rfl, _⟩ := Cb.hX x hx; rfl
  have w4n : wOk 4 nsa = true := Ca.hN.cells
  have w4n' : wOk 4 nsb = true := Cb.hN.cells
  have hle5n := hle5.1
  have hd21 : s.next + 1 + 1 < δ2.next := by omega
  ((have E := And.intro hfr2 (And.intro hfr1 (And.intro m2 (And.intro m3 m10))); (repeat' (first | (refine NXt ?_; try intro K hK) | (refine hK _ _ ?_; clear hK; clear K; try refine PX ?_) | ((first | refine GC_case_t (fun hr => ?_) (fun hr => ?_) | refine GC_case_f (fun hr => ?_) (fun hr => ?_)) <;> (have h := hr; (try simp only [RH, reduceCtorEq] at h); refine SHb ?_; clear hr) <;> (try (exfalso; omega))) | (show D _ (J.ops _ _ _ _); refine SEb ?_) | (refine T_app ?_; try refine SEb ?_) | (refine T_fork ?_ ?_) | (simp only [T_nil]) | (refine TS (fun h => ?_) (fun h => ?_) (hc := HEb) <;> (try simp only [RH, reduceCtorEq] at h) <;> (try (exfalso; omega))) | (show retR _ _ _ _ _; refine SRb ?_) | exact rfl))) <;> (try clear E))
  refine X_app2m rfl (fun _ => rfl) ix jx w4x w4x' (by omega) (by omega) (fun δ hδ => by (first | exact SCb | refine SBb ?_)) (fun v δ δ' h1 h2 => by (first | exact SCb | refine SBb ?_)) ?_
  intro _ vX δ5 hδ5 hmX hnX
  (try simp only [NB] at hδ5)
  (repeat' (first | (refine NXt ?_; try intro K hK) | (refine hK _ _ ?_; clear hK; clear K; try refine PX ?_) | ((first | refine GC_case_t (fun hr => ?_) (fun hr => ?_) | refine GC_case_f (fun hr => ?_) (fun hr => ?_)) <;> (have h := hr; (try simp only [RH, reduceCtorEq] at h); simp (disch := first|exact DB|fail) only [hr, RB, ↓reduceIte, Nat.reduceEqDiff, reduceCtorEq, Nat.reduceLeDiff, Nat.reduceAdd, Int.reduceToNat, Nat.reduceLT, hmX.cells1, hmX.notTup, decide_true, hfr2, hfr1, m2, m3, m10, ix.len, ix.notStr]; clear hr) <;> (try (exfalso; omega))) | (show D _ (J.ops _ _ _ _); simp (disch := first|exact DB|fail) only [RB, ↓reduceIte, Nat.reduceEqDiff, reduceCtorEq, Nat.reduceLeDiff, Nat.reduceAdd, Int.reduceToNat, Nat.reduceLT, hmX.cells1, hmX.notTup, decide_true, hfr2, hfr1, m2, m3, m10, ix.len, ix.notStr]) | (refine T_app ?_; try simp (disch := first|exact DB|fail) only [RB, ↓reduceIte, Nat.reduceEqDiff, reduceCtorEq, Nat.reduceLeDiff, Nat.reduceAdd, Int.reduceToNat, Nat.reduceLT, hmX.cells1, hmX.notTup, decide_true, hfr2, hfr1, m2, m3, m10, ix.len, ix.notStr]) | (refine T_fork ?_ ?_) | (simp only [T_nil]) | (refine TS (fun h => ?_) (fun h => ?_) (hc := by (simp (disch := first|exact DB|fail) only [RB, ↓reduceIte, Nat.reduceEqDiff, reduceCtorEq, Nat.reduceLeDiff, Nat.reduceAdd, Int.reduceToNat, Nat.reduceLT, hmX.cells1, hmX.notTup, decide_true, hfr2, hfr1, m2, m3, m10, ix.len, ix.notStr]) <;> rfl) <;> (try simp only [RH, reduceCtorEq] at h) <;> (try (exfalso; omega))) | (show retR _ _ _ _ _; simp (disch := first|exact DB|fail) only [RR, RB, ↓reduceIte, Nat.reduceEqDiff, reduceCtorEq, Nat.reduceLeDiff, Nat.reduceAdd, Int.reduceToNat, Nat.reduceLT, hmX.cells1, hmX.notTup, decide_true, hfr2, hfr1, m2, m3, m10, ix.len, ix.notStr]) | (simp (disch := first|exact DB|fail) only [RB, ↓reduceIte, Nat.reduceEqDiff, reduceCtorEq, Nat.reduceLeDiff, Nat.reduceAdd, Int.reduceToNat, Nat.reduceLT, hmX.cells1, hmX.notTup, decide_true, hfr2, hfr1, m2, m3, m10, ix.len, ix.notStr]) | exact rfl))
  refine W.midF (fun F' s6 => St.Le s s6 ∧ s6.mem s.next = some (.obj [va, vk, vt, vx, vn, vh, vr]) ∧ s6.mem (s.next + 1) = some (.obj [wa, wk, wt, wx, wn, wh, wr]) ∧ s6.mem (s.next + 1 + 1) = some (.obj [.nilsl, .nilsl, .nilsl, .nilsl, .nilsl, .nilsl, .nilsl]) ∧ s6.mem δ2.next = some (.obj [vA, vK, .row rT 4 0 NT, vX, .nilsl, .nilsl, .nilsl]) ∧ s5.next ≤ s6.next ∧ s6.mem rT = some (.row L) ∧ ∃ Lx, MRow s6 vX 4 Lx ∧ Lx.length = xsa.length + xsb.length ∧ ∀ x ∈ Lx, isReg x) (W.bloop (fun n F' s6 => St.Le s s6 ∧ s6.mem s.next = some (.obj [va, vk, vt, vx, vn, vh, vr]) ∧ s6.mem (s.next + 1) = some (.obj [wa, wk, wt, wx, wn, wh, wr]) ∧ s6.mem (s.next + 1 + 1) = some (.obj [.nilsl, .nilsl, .nilsl, .nilsl, .nilsl, .nilsl, .nilsl]) ∧ s6.mem δ2.next = some (.obj [vA, vK, .row rT 4 0 NT, vX, .nilsl, .nilsl, .nilsl]) ∧ s5.next ≤ s6.next ∧ s6.mem rT = some (.row L) ∧ ∃ (Lx : List V) (i : Nat), MRow s6 vX 4 Lx ∧ Lx.length = xsa.length + xsb.length ∧ (∀ x ∈ Lx, isReg x) ∧ F' 12 = .int .i64 i ∧ i + n = xsa.length + xsb.length) xsb.length ⟨by (exact LEb), (by have E := m2; exact IEb), (by have E := m3; exact IEb), (by have E := m4; exact IEb), (by have E := m10; exact IEb), by ((first | exact SCb | refine SBb ?_)) <;> omega, (by have E := hrow; exact IEb), xsa ++ xsb, xsa.length, hmX.set_ (fun i kk o n h => by have := hnX i kk o n h; omega), by simp, fun x hx => (List.mem_append.1 hx).elim (Ca.hX x) (Cb.hX x), IB, rfl⟩ ?_) ?_
  · rintro n F' s6 hfr ⟨hle6, m26, m36, m46, m106, hn6, hrow6, Lx, i, hm6, hLx, hLxP, h12, hin⟩
    by_cases hn0 : n = 0
    · have hlen := hm6.len
      rw [hLx] at hlen
      ((have E := And.intro hfr (And.intro hfr2 (And.intro hfr1 (And.intro h12 (And.intro m106 (And.intro hlen hm6.notStr))))); (repeat' (first | (refine NXt ?_; try intro K hK) | (refine hK _ _ ?_; clear hK; clear K; try refine PX ?_) | ((first | refine GC_case_t (fun hr => ?_) (fun hr => ?_) | refine GC_case_f (fun hr => ?_) (fun hr => ?_)) <;> (have h := hr; (try simp only [RH, reduceCtorEq] at h); refine SHb ?_; clear hr) <;> (try (exfalso; omega))) | (show D _ (J.ops _ _ _ _); refine SEb ?_) | (refine T_app ?_; try refine SEb ?_) | (refine T_fork ?_ ?_) | (simp only [T_nil]) | (refine TS (fun h => ?_) (fun h => ?_) (hc := HEb) <;> (try simp only [RH, reduceCtorEq] at h) <;> (try (exfalso; omega))) | (show retR _ _ _ _ _; refine SRb ?_) | exact rfl))) <;> (try clear E))
      exact ⟨hle6, m26, m36, m46, m106, hn6, hrow6, Lx, hm6, hLx, hLxP⟩
    · rcases hm6 with ⟨rfl, rfl⟩ | ⟨rX, rfl, hrX, hmemX⟩
      · simp at hLx; omega
      have hrX2 := hnX _ _ _ _ rfl
      have hiL : i < Lx.length := by omega
      obtain ⟨xa, xb, xe, xm, hxi, hxm⟩ := hLxP _ (List.getElem_mem hiL)
      (repeat' (first | (refine NXt ?_; try intro K hK) | (refine hK _ _ ?_; clear hK; clear K; try refine PX ?_) | ((first | refine GC_case_t (fun hr => ?_) (fun hr => ?_) | refine GC_case_f (fun hr => ?_) (fun hr => ?_)) <;> (have h := hr; (try simp only [RH, reduceCtorEq] at h); simp (disch := first|exact DB|fail) only [hr, RB, ↓reduceIte, Nat.reduceEqDiff, reduceCtorEq, Nat.reduceLeDiff, Nat.reduceAdd, Int.reduceToNat, Nat.reduceLT, hfr, hfr2, hfr1, h12, m106, hmemX, hxi, List.set_set]; clear hr) <;> (try (exfalso; omega))) | (show D _ (J.ops _ _ _ _); simp (disch := first|exact DB|fail) only [RB, ↓reduceIte, Nat.reduceEqDiff, reduceCtorEq, Nat.reduceLeDiff, Nat.reduceAdd, Int.reduceToNat, Nat.reduceLT, hfr, hfr2, hfr1, h12, m106, hmemX, hxi, List.set_set]) | (refine T_app ?_; try simp (disch := first|exact DB|fail) only [RB, ↓reduceIte, Nat.reduceEqDiff, reduceCtorEq, Nat.reduceLeDiff, Nat.reduceAdd, Int.reduceToNat, Nat.reduceLT, hfr, hfr2, hfr1, h12, m106, hmemX, hxi, List.set_set]) | (refine T_fork ?_ ?_) | (simp only [T_nil]) | (refine TS (fun h => ?_) (fun h => ?_) (hc := by (simp (disch := first|exact DB|fail) only [RB, ↓reduceIte, Nat.reduceEqDiff, reduceCtorEq, Nat.reduceLeDiff, Nat.reduceAdd, Int.reduceToNat, Nat.reduceLT, hfr, hfr2, hfr1, h12, m106, hmemX, hxi, List.set_set]) <;> rfl) <;> (try simp only [RH, reduceCtorEq] at h) <;> (try (exfalso; omega))) | (show retR _ _ _ _ _; simp (disch := first|exact DB|fail) only [RR, RB, ↓reduceIte, Nat.reduceEqDiff, reduceCtorEq, Nat.reduceLeDiff, Nat.reduceAdd, Int.reduceToNat, Nat.reduceLT, hfr, hfr2, hfr1, h12, m106, hmemX, hxi, List.set_set]) | exact rfl))
      refine ⟨n - 1, by omega, by (exact LEb), (by have E := m26; exact IEb), (by have E := m36; exact IEb), (by have E := m46; exact IEb), (by have E := m106; exact IEb), by ((first | exact SCb | refine SBb ?_)) <;> omega, (by have E := hrow6; exact IEb), Lx.set i _, i + 1, .inr ⟨rX, by simp, by ((first | exact SCb | refine SBb ?_)) <;> omega, IB⟩, by simp [hLx], fun x hx => ?_, by ((first | exact SCb | refine SBb ?_)) <;> (congr 1 <;> omega), by omega⟩
      rcases List.mem_or_eq_of_mem_set hx with h | h
      · exact hLxP x h
      · rw [h]; exact ⟨_, _, _, _, rfl, hxm⟩
  rintro F3 s6 hfr3 ⟨hle6, m26, m36, m46, m106, hn6, hrow6, Lx, hm6, hLx, hLxP⟩
  have hnx6 := hle6.1
  have hXlt : ∀ i kk o n, vX = .row i kk o n → i < s6.next := fun i kk o n h => by
    rcases hm6 with ⟨h', _⟩ | ⟨i', h', hi', _⟩
    · rw [h'] at h; cases h
    · rw [h'] at h; injection h with h; omega
  have hXne : ∀ r, s6.next ≤ r → ∀ i kk o n, vX = .row i kk o n → i ≠ r := fun r hr i kk o n h => by have := hXlt i kk o n h; omega
  ((have E := And.intro hfr3 (And.intro hfr2 (And.intro hfr1 (And.intro m26 (And.intro m36 m106)))); (repeat' (first | (refine NXt ?_; try intro K hK) | (refine hK _ _ ?_; clear hK; clear K; try refine PX ?_) | ((first | refine GC_case_t (fun hr => ?_) (fun hr => ?_) | refine GC_case_f (fun hr => ?_) (fun hr => ?_)) <;> (have h := hr; (try simp only [RH, reduceCtorEq] at h); refine SHb ?_; clear hr) <;> (try (exfalso; omega))) | (show D _ (J.ops _ _ _ _); refine SEb ?_) | (refine T_app ?_; try refine SEb ?_) | (refine T_fork ?_ ?_) | (simp only [T_nil]) | (refine TS (fun h => ?_) (fun h => ?_) (hc := HEb) <;> (try simp only [RH, reduceCtorEq] at h) <;> (try (exfalso; omega))) | (show retR _ _ _ _ _; refine SRb ?_) | exact rfl))) <;> (try clear E))
  refine X_app2m rfl (fun _ => rfl) i_n jn w4n w4n' (by omega) (by omega) (fun δ hδ => by (first | exact SCb | refine SBb ?_)) (fun v δ δ' h1 h2 => by (first | exact SCb | refine SBb ?_)) ?_
  intro _ vN δ6 hδ6 hmN hnN
  (try simp only [NB] at hδ6)
  (repeat' (first | (refine NXt ?_; try intro K hK) | (refine hK _ _ ?_; clear hK; clear K; try refine PX ?_) | ((first | refine GC_case_t (fun hr => ?_) (fun hr => ?_) | refine GC_case_f (fun hr => ?_) (fun hr => ?_)) <;> (have h := hr; (try simp only [RH, reduceCtorEq] at h); simp (disch := first|exact DB|fail) only [hr, RB, ↓reduceIte, Nat.reduceEqDiff, reduceCtorEq, Nat.reduceLeDiff, Nat.reduceAdd, Int.reduceToNat, Nat.reduceLT, hmN.cells1, hmN.notTup, decide_true, hfr3, hfr2, hfr1, m26, m36, m106]; clear hr) <;> (try (exfalso; omega))) | (show D _ (J.ops _ _ _ _); simp (disch := first|exact DB|fail) only [RB, ↓reduceIte, Nat.reduceEqDiff, reduceCtorEq, Nat.reduceLeDiff, Nat.reduceAdd, Int.reduceToNat, Nat.reduceLT, hmN.cells1, hmN.notTup, decide_true, hfr3, hfr2, hfr1, m26, m36, m106]) | (refine T_app ?_; try simp (disch := first|exact DB|fail) only [RB, ↓reduceIte, Nat.reduceEqDiff, reduceCtorEq, Nat.reduceLeDiff, Nat.reduceAdd, Int.reduceToNat, Nat.reduceLT, hmN.cells1, hmN.notTup, decide_true, hfr3, hfr2, hfr1, m26, m36, m106]) | (refine T_fork ?_ ?_) | (simp only [T_nil]) | (refine TS (fun h => ?_) (fun h => ?_) (hc := by (simp (disch := first|exact DB|fail) only [RB, ↓reduceIte, Nat.reduceEqDiff, reduceCtorEq, Nat.reduceLeDiff, Nat.reduceAdd, Int.reduceToNat, Nat.reduceLT, hmN.cells1, hmN.notTup, decide_true, hfr3, hfr2, hfr1, m26, m36, m106]) <;> rfl) <;> (try simp only [RH, reduceCtorEq] at h) <;> (try (exfalso; omega))) | (show retR _ _ _ _ _; simp (disch := first|exact DB|fail) only [RR, RB, ↓reduceIte, Nat.reduceEqDiff, reduceCtorEq, Nat.reduceLeDiff, Nat.reduceAdd, Int.reduceToNat, Nat.reduceLT, hmN.cells1, hmN.notTup, decide_true, hfr3, hfr2, hfr1, m26, m36, m106]) | (simp (disch := first|exact DB|fail) only [RB, ↓reduceIte, Nat.reduceEqDiff, reduceCtorEq, Nat.reduceLeDiff, Nat.reduceAdd, Int.reduceToNat, Nat.reduceLT, hmN.cells1, hmN.notTup, decide_true, hfr3, hfr2, hfr1, m26, m36, m106]) | exact rfl))
  refine W.midF (fun F' s7 => St.Le s s7 ∧ s7.mem s.next = some (.obj [va, vk, vt, vx, vn, vh, vr]) ∧ s7.mem (s.next + 1) = some (.obj [wa, wk, wt, wx, wn, wh, wr]) ∧ s7.mem (s.next + 1 + 1) = some (.obj [.nilsl, .nilsl, .nilsl, .nilsl, .nilsl, .nilsl, .nilsl]) ∧ s7.mem δ2.next = some (.obj [vA, vK, .row rT 4 0 NT, vX, vN, .nilsl, .nilsl]) ∧ s6.next ≤ s7.next ∧ s7.mem rT = some (.row L) ∧ MRow s7 vX 4 Lx ∧ ∃ Ln, MRow s7 vN 4 Ln ∧ Ln.length = nsa.length + nsb.length ∧ NodesOk Ln) (W.bloop (fun n F' s7 => St.Le s s7 ∧ s7.mem s.next = some (.obj [va, vk, vt, vx, vn, vh, vr]) ∧ s7.mem (s.next + 1) = some (.obj [wa, wk, wt, wx, wn, wh, wr]) ∧ s7.mem (s.next + 1 + 1) = some (.obj [.nilsl, .nilsl, .nilsl, .nilsl, .nilsl, .nilsl, .nilsl]) ∧ s7.mem δ2.next = some (.obj [vA, vK, .row rT 4 0 NT, vX, vN, .nilsl, .nilsl]) ∧ s6.next ≤ s7.next ∧ s7.mem rT = some (.row L) ∧ MRow s7 vX 4 Lx ∧ ∃ (Ln : List V) (i : Nat), MRow s7 vN 4 Ln ∧ Ln.length = nsa.length + nsb.length ∧ (∀ q (h : q < Ln.length), ∃ a b e p, Ln[q] = .agg [.str a, .int .i64 b, .int .i64 e, .int .i64 p] ∧ -1 ≤ p ∧ p < (if q < i then (q : Int) else q - nsa.length)) ∧ F' 13 = .int .i64 i ∧ nsa.length ≤ i ∧ i + n = nsa.length + nsb.length) nsb.length ⟨by (exact LEb), (by have E := m26; exact IEb), (by have E := m36; exact IEb), (by have E := m46; exact IEb), (by have E := m106; exact IEb), by ((first | exact SCb | refine SBb ?_)) <;> omega, (by have E := hrow6; exact IEb), (hm6.over_ hδ6).set_ (fun i kk o n h => by have := hnX i kk o n h; omega), nsa ++ nsb, nsa.length, hmN.set_ (fun i kk o n h => by have := hnN i kk o n h; omega), by simp, ?_, IB, by omega, rfl⟩ ?_) ?_
  · intro q hq
    by_cases hqa : q < nsa.length
    · obtain ⟨a, b, e, p, hx, h1, h2⟩ := Ca.hN q hqa
      exact ⟨a, b, e, p, by rw [List.getElem_append_left hqa]; exact hx, h1, by rw [if_pos hqa]; exact h2⟩
    · obtain ⟨a, b, e, p, hx, h1, h2⟩ := Cb.hN (q - nsa.length) (by simp at hq; omega)
      exact ⟨a, b, e, p, by rw [List.getElem_append_right (by omega)]; exact hx, h1, by rw [if_neg hqa]; omega⟩
  · rintro n F' s7 hfr ⟨hle7, m27, m37, m47, m107, hn7, hrow7, hmX7, Ln, i, hm7, hLn, hLnP, h13, hia, hin⟩
    by_cases hn0 : n = 0
    · have hlen := hm7.len
      rw [hLn] at hlen
      ((have E := And.intro hfr (And.intro hfr3 (And.intro hfr2 (And.intro hfr1 (And.intro h13 (And.intro m107 (And.intro hlen hm7.notStr)))))); (repeat' (first | (refine NXt ?_; try intro K hK) | (refine hK _ _ ?_; clear hK; clear K; try refine PX ?_) | ((first | refine GC_case_t (fun hr => ?_) (fun hr => ?_) | refine GC_case_f (fun hr => ?_) (fun hr => ?_)) <;> (have h := hr; (try simp only [RH, reduceCtorEq] at h); refine SHb ?_; clear hr) <;> (try (exfalso; omega))) | (show D _ (J.ops _ _ _ _); refine SEb ?_) | (refine T_app ?_; try refine SEb ?_) | (refine T_fork ?_ ?_) | (simp only [T_nil]) | (refine TS (fun h => ?_) (fun h => ?_) (hc := HEb) <;> (try simp only [RH, reduceCtorEq] at h) <;> (try (exfalso; omega))) | (show retR _ _ _ _ _; refine SRb ?_) | exact rfl))) <;> (try clear E))
      refine ⟨hle7, m27, m37, m47, m107, hn7, hrow7, hmX7, Ln, hm7, hLn, fun q hq => ?_⟩
      obtain ⟨a, b, e, p, hx, h1, h2⟩ := hLnP q hq
      rw [if_pos (by omega)] at h2
      exact ⟨a, b, e, p, hx, h1, h2⟩
    · rcases hm7 with ⟨rfl, rfl⟩ | ⟨rN, rfl, hrN, hmemN⟩
      · simp at hLn; omega
      have hrN2 := hnN _ _ _ _ rfl
      have hiL : i < Ln.length := by omega
      obtain ⟨xa, xb, xe, xp, hxi, hxp1, hxp2⟩ := hLnP i hiL
      rw [if_neg (by omega)] at hxp2
      (repeat' (first | (refine NXt ?_; try intro K hK) | (refine hK _ _ ?_; clear hK; clear K; try refine PX ?_) | ((first | refine GC_case_t (fun hr => ?_) (fun hr => ?_) | refine GC_case_f (fun hr => ?_) (fun hr => ?_)) <;> (have h := hr; (try simp only [RH, reduceCtorEq] at h); simp (disch := first|exact DB|fail) only [hr, RB, ↓reduceIte, Nat.reduceEqDiff, reduceCtorEq, Nat.reduceLeDiff, Nat.reduceAdd, Int.reduceToNat, Nat.reduceLT, hfr, hfr3, hfr2, hfr1, h13, m107, hmemN, hxi, List.set_set]; clear hr) <;> (try (exfalso; omega))) | (show D _ (J.ops _ _ _ _); simp (disch := first|exact DB|fail) only [RB, ↓reduceIte, Nat.reduceEqDiff, reduceCtorEq, Nat.reduceLeDiff, Nat.reduceAdd, Int.reduceToNat, Nat.reduceLT, hfr, hfr3, hfr2, hfr1, h13, m107, hmemN, hxi, List.set_set]) | (refine T_app ?_; try simp (disch := first|exact DB|fail) only [RB, ↓reduceIte, Nat.reduceEqDiff, reduceCtorEq, Nat.reduceLeDiff, Nat.reduceAdd, Int.reduceToNat, Nat.reduceLT, hfr, hfr3, hfr2, hfr1, h13, m107, hmemN, hxi, List.set_set]) | (refine T_fork ?_ ?_) | (simp only [T_nil]) | (refine TS (fun h => ?_) (fun h => ?_) (hc := by (simp (disch := first|exact DB|fail) only [RB, ↓reduceIte, Nat.reduceEqDiff, reduceCtorEq, Nat.reduceLeDiff, Nat.reduceAdd, Int.reduceToNat, Nat.reduceLT, hfr, hfr3, hfr2, hfr1, h13, m107, hmemN, hxi, List.set_set]) <;> rfl) <;> (try simp only [RH, reduceCtorEq] at h) <;> (try (exfalso; omega))) | (show retR _ _ _ _ _; simp (disch := first|exact DB|fail) only [RR, RB, ↓reduceIte, Nat.reduceEqDiff, reduceCtorEq, Nat.reduceLeDiff, Nat.reduceAdd, Int.reduceToNat, Nat.reduceLT, hfr, hfr3, hfr2, hfr1, h13, m107, hmemN, hxi, List.set_set]) | exact rfl))
      · refine ⟨n - 1, by omega, by (exact LEb), (by have E := m27; exact IEb), (by have E := m37; exact IEb), (by have E := m47; exact IEb), (by have E := m107; exact IEb), by ((first | exact SCb | refine SBb ?_)) <;> omega, (by have E := hrow7; exact IEb), ((hmX7.set_ (hXne rN (by omega))).set_ (hXne rN (by omega))).set_ (hXne rN (by omega)), Ln.set i _, i + 1, .inr ⟨rN, by simp, by ((first | exact SCb | refine SBb ?_)) <;> omega, IB⟩, by simp [hLn], nmid_set hLnP (by omega) (by omega), by ((first | exact SCb | refine SBb ?_)) <;> (congr 1 <;> omega), by omega, by omega⟩
      · refine ⟨n - 1, by omega, by (exact LEb), (by have E := m27; exact IEb), (by have E := m37; exact IEb), (by have E := m47; exact IEb), (by have E := m107; exact IEb), by ((first | exact SCb | refine SBb ?_)) <;> omega, (by have E := hrow7; exact IEb), (hmX7.set_ (hXne rN (by omega))).set_ (hXne rN (by omega)), Ln.set i _, i + 1, .inr ⟨rN, by simp, by ((first | exact SCb | refine SBb ?_)) <;> omega, IB⟩, by simp [hLn], nmid_set hLnP (by omega) (by omega), by ((first | exact SCb | refine SBb ?_)) <;> (congr 1 <;> omega), by omega, by omega⟩
  rintro F4 s7 hfr4 ⟨hle7, m27, m37, m47, m107, hn7, hrow7, hmX7, Ln, hm7, hLn, hLnP⟩
  have hnx7 := hle7.1
  have hNlt : ∀ i kk o n, vN = .row i kk o n → i < s7.next := fun i kk o n h => by
    rcases hm7 with ⟨h', _⟩ | ⟨i', h', hi', _⟩
    · rw [h'] at h; cases h
    · rw [h'] at h; injection h with h; omega
  have lha := Ca.lh
  have lhb := Cb.lh
  ((have E := And.intro hfr4 (And.intro hfr3 (And.intro hfr2 (And.intro hfr1 (And.intro m27 (And.intro m37 (And.intro m107 (And.intro ih.len (And.intro ih.notStr (And.intro jh.len jh.notStr))))))))); (repeat' (first | (refine NXt ?_; try intro K hK) | (refine hK _ _ ?_; clear hK; clear K; try refine PX ?_) | ((first | refine GC_case_t (fun hr => ?_) (fun hr => ?_) | refine GC_case_f (fun hr => ?_) (fun hr => ?_)) <;> (have h := hr; (try simp only [RH, reduceCtorEq] at h); refine SHb ?_; clear hr) <;> (try (exfalso; omega))) | (show D _ (J.ops _ _ _ _); refine SEb ?_) | (refine T_app ?_; try refine SEb ?_) | (refine T_fork ?_ ?_) | (simp only [T_nil]) | (show retR _ _ _ _ _; refine SRb ?_) | exact rfl))) <;> (try clear E))
  refine W.midF (fun F' s8 => St.Le s s8 ∧ s8.mem (s.next + 1 + 1) = some (.obj [.nilsl, .nilsl, .nilsl, .nilsl, .nilsl, .nilsl, .nilsl]) ∧ s7.next ≤ s8.next ∧ s8.mem rT = some (.row L) ∧ MRow s8 vX 4 Lx ∧ MRow s8 vN 4 Ln ∧ ∃ vh' vr' hs rs, s8.mem δ2.next = some (.obj [vA, vK, .row rT 4 0 NT, vX, vN, vh', vr']) ∧ IsL vh' hs ∧ IsL vr' rs ∧ (∀ x ∈ hs, isI x) ∧ (∀ x ∈ rs, isS x) ∧ (hs.length = 0 ∨ hs.length = ksa.length + ksb.length) ∧ rs.length = hs.length) ?_ ?_
  · refine W.cond (by ((first | exact SCb | refine SBb ?_)) <;> rfl) (fun h => ?_) (fun h => ?_)
    · (repeat' (first | (refine NXt ?_; try intro K hK) | (refine hK _ _ ?_; clear hK; clear K; try refine PX ?_) | ((first | refine GC_case_t (fun hr => ?_) (fun hr => ?_) | refine GC_case_f (fun hr => ?_) (fun hr => ?_)) <;> (have h := hr; (try simp only [RH, reduceCtorEq] at h); simp (disch := first|exact DB|fail) only [hr, RB, ↓reduceIte, Nat.reduceEqDiff, reduceCtorEq, Nat.reduceLeDiff, Nat.reduceAdd, Int.reduceToNat, Nat.reduceLT, hfr4, hfr3, hfr2, hfr1, m27, m37, m107, List.getElem?_cons_zero, List.getElem?_cons_succ]; clear hr) <;> (try (exfalso; omega))) | (refine X_callc rfl ?_; simp (disch := first|exact DB|fail) only [List.nil_append, List.append_nil, RB, ↓reduceIte, Nat.reduceEqDiff, reduceCtorEq, Nat.reduceLeDiff, Nat.reduceAdd, Int.reduceToNat, Nat.reduceLT, hfr4, hfr3, hfr2, hfr1, m27, m37, m107, List.getElem?_cons_zero, List.getElem?_cons_succ]; refine D.mono_call (allHeads_spec M.h38 Ca hra _) ?_; rintro v s' ⟨⟨v1, v2, hs1, rs1, rfl, ih1, ir1, hI1, hS1, hl1, hrl1⟩, δ7, hδ7, rfl⟩; (try simp only [NB] at hδ); refine ⟨by first | exact CK | (simp only [RC, Chk.ok, V.ent]; simp (disch := first|exact DB|fail) only [RT, RB, ↓reduceIte, Nat.reduceEqDiff, reduceCtorEq, Nat.reduceLeDiff, Nat.reduceAdd, Int.reduceToNat, Nat.reduceLT, hfr4, hfr3, hfr2, hfr1, m27, m37, m107, List.getElem?_cons_zero, List.getElem?_cons_succ]), ?_⟩; try simp (disch := first|exact DB|fail) only [RB, ↓reduceIte, Nat.reduceEqDiff, reduceCtorEq, Nat.reduceLeDiff, Nat.reduceAdd, Int.reduceToNat, Nat.reduceLT, hfr4, hfr3, hfr2, hfr1, m27, m37, m107, List.getElem?_cons_zero, List.getElem?_cons_succ]) | (refine X_callc rfl ?_; simp (disch := first|exact DB|fail) only [List.nil_append, List.append_nil, RB, ↓reduceIte, Nat.reduceEqDiff, reduceCtorEq, Nat.reduceLeDiff, Nat.reduceAdd, Int.reduceToNat, Nat.reduceLT, hfr4, hfr3, hfr2, hfr1, m27, m37, m107, List.getElem?_cons_zero, List.getElem?_cons_succ]; refine D.mono_call (allHeads_spec M.h38 Cb hrb _) ?_; rintro v s' ⟨⟨u1, u2, hs2, rs2, rfl, jh1, jr1, hJ1, hR1, kl1, krl1⟩, δ8, hδ8, rfl⟩; (try simp only [NB] at hδ); refine ⟨by first | exact CK | (simp only [RC, Chk.ok, V.ent]; simp (disch := first|exact DB|fail) only [RT, RB, ↓reduceIte, Nat.reduceEqDiff, reduceCtorEq, Nat.reduceLeDiff, Nat.reduceAdd, Int.reduceToNat, Nat.reduceLT, hfr4, hfr3, hfr2, hfr1, m27, m37, m107, List.getElem?_cons_zero, List.getElem?_cons_succ]), ?_⟩; try simp (disch := first|exact DB|fail) only [RB, ↓reduceIte, Nat.reduceEqDiff, reduceCtorEq, Nat.reduceLeDiff, Nat.reduceAdd, Int.reduceToNat, Nat.reduceLT, hfr4, hfr3, hfr2, hfr1, m27, m37, m107, List.getElem?_cons_zero, List.getElem?_cons_succ]) | (show D _ (J.ops _ _ _ _); simp (disch := first|exact DB|fail) only [RB, ↓reduceIte, Nat.reduceEqDiff, reduceCtorEq, Nat.reduceLeDiff, Nat.reduceAdd, Int.reduceToNat, Nat.reduceLT, hfr4, hfr3, hfr2, hfr1, m27, m37, m107, List.getElem?_cons_zero, List.getElem?_cons_succ]) | (refine T_app ?_; try simp (disch := first|exact DB|fail) only [RB, ↓reduceIte, Nat.reduceEqDiff, reduceCtorEq, Nat.reduceLeDiff, Nat.reduceAdd, Int.reduceToNat, Nat.reduceLT, hfr4, hfr3, hfr2, hfr1, m27, m37, m107, List.getElem?_cons_zero, List.getElem?_cons_succ]) | (refine T_fork ?_ ?_) | (simp only [T_nil]) | (refine TS (fun h => ?_) (fun h => ?_) (hc := by (simp (disch := first|exact DB|fail) only [RB, ↓reduceIte, Nat.reduceEqDiff, reduceCtorEq, Nat.reduceLeDiff, Nat.reduceAdd, Int.reduceToNat, Nat.reduceLT, hfr4, hfr3, hfr2, hfr1, m27, m37, m107, List.getElem?_cons_zero, List.getElem?_cons_succ]) <;> rfl) <;> (try simp only [RH, reduceCtorEq] at h) <;> (try (exfalso; omega))) | (show retR _ _ _ _ _; simp (disch := first|exact DB|fail) only [RR, RB, ↓reduceIte, Nat.reduceEqDiff, reduceCtorEq, Nat.reduceLeDiff, Nat.reduceAdd, Int.reduceToNat, Nat.reduceLT, hfr4, hfr3, hfr2, hfr1, m27, m37, m107, List.getElem?_cons_zero, List.getElem?_cons_succ]) | (simp (disch := first|exact DB|fail) only [RB, ↓reduceIte, Nat.reduceEqDiff, reduceCtorEq, Nat.reduceLeDiff, Nat.reduceAdd, Int.reduceToNat, Nat.reduceLT, hfr4, hfr3, hfr2, hfr1, m27, m37, m107, List.getElem?_cons_zero, List.getElem?_cons_succ]) | exact rfl))
      have hl1' : hs1.length = ksa.length := by
        rw [hl1]; split <;> omega
      have kl1' : hs2.length = ksb.length := by
        rw [kl1]; split <;> omega
      have hX8 : ∀ δ : St, s7.next ≤ δ.next → MRow (s7.over δ) vX 4 Lx := fun δ h => hmX7.over_ h
      refine X_app1i rfl ih1 (wOkI hI1) (by omega) (by omega) ?_
      intro vH δ9 hδ9 htH
      (try simp only [NB] at hδ7); (try simp only [NB] at hδ8); (try simp only [NB] at hδ9)
      (repeat' (first | (refine NXt ?_; try intro K hK) | (refine hK _ _ ?_; clear hK; clear K; try refine PX ?_) | ((first | refine GC_case_t (fun hr => ?_) (fun hr => ?_) | refine GC_case_f (fun hr => ?_) (fun hr => ?_)) <;> (have h := hr; (try simp only [RH, reduceCtorEq] at h); simp (disch := first|exact DB|fail) only [hr, RB, ↓reduceIte, Nat.reduceEqDiff, reduceCtorEq, Nat.reduceLeDiff, Nat.reduceAdd, Int.reduceToNat, Nat.reduceLT]; clear hr) <;> (try (exfalso; omega))) | (show D _ (J.ops _ _ _ _); refine SBb ?_) | (refine T_app ?_; try refine SBb ?_) | (refine T_fork ?_ ?_) | (simp only [T_nil]) | (refine TS (fun h => ?_) (fun h => ?_) (hc := HCb) <;> (try simp only [RH, reduceCtorEq] at h) <;> (try (exfalso; omega))) | (show retR _ _ _ _ _; simp (disch := first|exact DB|fail) only [RR, RB, ↓reduceIte, Nat.reduceEqDiff, reduceCtorEq, Nat.reduceLeDiff, Nat.reduceAdd, Int.reduceToNat, Nat.reduceLT]) | exact rfl))
      refine X_app2i' rfl (fun _ => rfl) (by decide) ir1 jr1 (wOkS hS1) (wOkS hR1) (by omega) (by omega) ?_
      intro _ vR δ10 hδ10 htR
      (try simp only [NB] at hδ10)
      have iH := htH.isL
      have iR := htR.isL
      have hneT : rT ≠ δ2.next := by omega
      have hXd : ∀ i kk o n, vX = .row i kk o n → i ≠ δ2.next := fun i kk o n h => by have := hnX i kk o n h; omega
      have hNd : ∀ i kk o n, vN = .row i kk o n → i ≠ δ2.next := fun i kk o n h => by have := hnN i kk o n h; omega
      (repeat' (first | (refine NXt ?_; try intro K hK) | (refine hK _ _ ?_; clear hK; clear K; try refine PX ?_) | ((first | refine GC_case_t (fun hr => ?_) (fun hr => ?_) | refine GC_case_f (fun hr => ?_) (fun hr => ?_)) <;> (have h := hr; (try simp only [RH, reduceCtorEq] at h); simp (disch := first|exact DB|fail) only [hr, RB, ↓reduceIte, Nat.reduceEqDiff, reduceCtorEq, Nat.reduceLeDiff, Nat.reduceAdd, Int.reduceToNat, Nat.reduceLT, hfr4, hfr3, hfr2, hfr1, m107, iH.cells1, iH.notTup, iR.cells1, iR.notTup, decide_true, jh1.len, jh1.notStr]; clear hr) <;> (try (exfalso; omega))) | (show D _ (J.ops _ _ _ _); simp (disch := first|exact DB|fail) only [RB, ↓reduceIte, Nat.reduceEqDiff, reduceCtorEq, Nat.reduceLeDiff, Nat.reduceAdd, Int.reduceToNat, Nat.reduceLT, hfr4, hfr3, hfr2, hfr1, m107, iH.cells1, iH.notTup, iR.cells1, iR.notTup, decide_true, jh1.len, jh1.notStr]) | (refine T_app ?_; try simp (disch := first|exact DB|fail) only [RB, ↓reduceIte, Nat.reduceEqDiff, reduceCtorEq, Nat.reduceLeDiff, Nat.reduceAdd, Int.reduceToNat, Nat.reduceLT, hfr4, hfr3, hfr2, hfr1, m107, iH.cells1, iH.notTup, iR.cells1, iR.notTup, decide_true, jh1.len, jh1.notStr]) | (refine T_fork ?_ ?_) | (simp only [T_nil]) | (refine TS (fun h => ?_) (fun h => ?_) (hc := by (simp (disch := first|exact DB|fail) only [RB, ↓reduceIte, Nat.reduceEqDiff, reduceCtorEq, Nat.reduceLeDiff, Nat.reduceAdd, Int.reduceToNat, Nat.reduceLT, hfr4, hfr3, hfr2, hfr1, m107, iH.cells1, iH.notTup, iR.cells1, iR.notTup, decide_true, jh1.len, jh1.notStr]) <;> rfl) <;> (try simp only [RH, reduceCtorEq] at h) <;> (try (exfalso; omega))) | (show retR _ _ _ _ _; simp (disch := first|exact DB|fail) only [RR, RB, ↓reduceIte, Nat.reduceEqDiff, reduceCtorEq, Nat.reduceLeDiff, Nat.reduceAdd, Int.reduceToNat, Nat.reduceLT, hfr4, hfr3, hfr2, hfr1, m107, iH.cells1, iH.notTup, iR.cells1, iR.notTup, decide_true, jh1.len, jh1.notStr]) | (simp (disch := first|exact DB|fail) only [RB, ↓reduceIte, Nat.reduceEqDiff, reduceCtorEq, Nat.reduceLeDiff, Nat.reduceAdd, Int.reduceToNat, Nat.reduceLT, hfr4, hfr3, hfr2, hfr1, m107, iH.cells1, iH.notTup, iR.cells1, iR.notTup, decide_true, jh1.len, jh1.notStr]) | exact rfl))
      have htH2 : Tip0 s ((((((s7.over δ7).over δ8).over δ9).over δ10).set δ2.next (.obj [vA, vK, .row rT 4 0 NT, vX, vN, vH, .nilsl])).set δ2.next (.obj [vA, vK, .row rT 4 0 NT, vX, vN, vH, vR])) vH 1 hs1 := by
        refine Tip0.set_ (Tip0.set_ (Tip0.over_ ⟨htH.1, fun i hi => ?_⟩ ?_) (cs := [vA, vK, .row rT 4 0 NT, vX, vN, .nilsl, .nilsl]) ?_) (cs := [vA, vK, .row rT 4 0 NT, vX, vN, vH, .nilsl]) ?_
        · have := htH.2 i hi
          (try simp only [NB] at this)
          omega
        · (first | exact SCb | refine SBb ?_); omega
        · ((have E := m107; first | exact SXb | refine SEb ?_) <;> (try clear E))
        · (first | exact SCb | refine SBb ?_)
      refine W.range (N := hs2.length) (fun k F' s8 => St.Le s s8 ∧ s8.mem (s.next + 1 + 1) = some (.obj [.nilsl, .nilsl, .nilsl, .nilsl, .nilsl, .nilsl, .nilsl]) ∧ s7.next ≤ s8.next ∧ s8.mem rT = some (.row L) ∧ MRow s8 vX 4 Lx ∧ MRow s8 vN 4 Ln ∧ ∃ vh' hs', s8.mem δ2.next = some (.obj [vA, vK, .row rT 4 0 NT, vX, vN, vh', vR]) ∧ Tip0 s s8 vh' 1 hs' ∧ (∀ x ∈ hs', isI x) ∧ hs'.length = hs1.length + k) IB IB (by omega) rfl ST ⟨by (exact LEb), (by have E := m47; exact IEb), by ((first | exact SCb | refine SBb ?_)) <;> omega, (by have E := hrow7; exact IEb), ((((((hmX7.over_ (by omega)).over_ (by (first | exact SCb | refine SBb ?_); omega)).over_ (by (first | exact SCb | refine SBb ?_); omega)).over_ (by (first | exact SCb | refine SBb ?_); omega)).set_ hXd).set_ hXd), ((((((hm7.over_ (by omega)).over_ (by (first | exact SCb | refine SBb ?_); omega)).over_ (by (first | exact SCb | refine SBb ?_); omega)).over_ (by (first | exact SCb | refine SBb ?_); omega)).set_ hNd).set_ hNd), vH, hs1, IB, htH2, hI1, by omega⟩ ?_ ?_
      · rintro k F' s8 hk hfr hi ⟨hle8, m48, hn8, hrow8, hmX8, hmN8, vhk, hsk, m108, htk, hkI, hkl⟩
        obtain ⟨xh, hxh⟩ := hJ1 _ (List.getElem_mem hk)
        have hnx8 := hle8.1
        have hwk := wOkI hkI
        ((have E := And.intro hfr (And.intro hi (And.intro jh1.ixE (And.intro hxh (And.intro hfr4 (And.intro hfr3 (And.intro hfr2 (And.intro hfr1 m108))))))); (repeat' (first | (refine NXt ?_; try intro K hK) | (refine hK _ _ ?_; clear hK; clear K; try refine PX ?_) | ((first | refine GC_case_t (fun hr => ?_) (fun hr => ?_) | refine GC_case_f (fun hr => ?_) (fun hr => ?_)) <;> (have h := hr; (try simp only [RH, reduceCtorEq] at h); refine SHb ?_; clear hr) <;> (try (exfalso; omega))) | (show D _ (J.ops _ _ _ _); refine SEb ?_) | (refine T_app ?_; try refine SEb ?_) | (refine T_fork ?_ ?_) | (simp only [T_nil]) | (refine TS (fun h => ?_) (fun h => ?_) (hc := HEb) <;> (try simp only [RH, reduceCtorEq] at h) <;> (try (exfalso; omega))) | (show retR _ _ _ _ _; refine SRb ?_) | exact rfl))) <;> (try clear E))
        all_goals
          refine X_appW (W := []) (S0 := s) (v := vhk) rfl rfl (Tip0.new_ htk) (LeW.new_ hle8) rfl rfl rfl hwk (by simp; omega) (by omega) (fun _ _ => trivial) ?_
          intro v' δ11 htip' hle' hδ11
          (try simp only [NB] at hδ11)
          have iv' := htip'.isL
          ((have E := And.intro hfr (And.intro hfr4 (And.intro hfr3 (And.intro hfr2 (And.intro hfr1 (And.intro m108 (And.intro iv'.cells1 iv'.notTup)))))); (repeat' (first | (refine NXt ?_; try intro K hK) | (refine hK _ _ ?_; clear hK; clear K; try refine PX ?_) | ((first | refine GC_case_t (fun hr => ?_) (fun hr => ?_) | refine GC_case_f (fun hr => ?_) (fun hr => ?_)) <;> (have h := hr; (try simp only [RH, reduceCtorEq] at h); refine SHb ?_; clear hr) <;> (try (exfalso; omega))) | (show D _ (J.ops _ _ _ _); refine SEb ?_) | (refine T_app ?_; try refine SEb ?_) | (refine T_fork ?_ ?_) | (simp only [T_nil]) | (refine TS (fun h => ?_) (fun h => ?_) (hc := HEb) <;> (try simp only [RH, reduceCtorEq] at h) <;> (try (exfalso; omega))) | (show retR _ _ _ _ _; refine SRb ?_) | exact rfl))) <;> (try clear E))
          exact ⟨by (exact LEb), (by have E := m48; exact IEb), by ((first | exact SCb | refine SBb ?_)) <;> omega, (by have E := hrow8; exact IEb), ((hmX8.new_).ovo_ (by (first | exact SCb | refine SBb ?_); omega)).set_ hXd, ((hmN8.new_).ovo_ (by (first | exact SCb | refine SBb ?_); omega)).set_ hNd, v', _, IB, Tip0.set_ htip' (cs := [vA, vK, .row rT 4 0 NT, vX, vN, vhk, vR]) (by ((have E := m108; first | exact SXb | refine SEb ?_) <;> (try clear E))), fun x hx => by
            rcases List.mem_append.1 hx with h | h
            · exact hkI x h
            · rw [List.mem_singleton.1 h]; exact ⟨_, rfl⟩, by simp [hkl]; omega⟩
      · rintro F' s8 hfr ⟨hle8, m48, hn8, hrow8, hmX8, hmN8, vhk, hsk, m108, htk, hkI, hkl⟩
        (simp only [RP, ↓reduceIte, Nat.reduceEqDiff, reduceCtorEq])
        exact ⟨hle8, m48, hn8, hrow8, hmX8, hmN8, vhk, vR, hsk, rs1 ++ rs2, m108, htk.isL, iR, hkI, fun x hx => (List.mem_append.1 hx).elim (hS1 x) (hR1 x), .inr (by omega), by simp; omega⟩
    · (repeat' (first | (refine NXt ?_; try intro K hK) | (refine hK _ _ ?_; clear hK; clear K; try refine PX ?_) | ((first | refine GC_case_t (fun hr => ?_) (fun hr => ?_) | refine GC_case_f (fun hr => ?_) (fun hr => ?_)) <;> (have h := hr; (try simp only [RH, reduceCtorEq] at h); simp (disch := first|exact DB|fail) only [hr, RB, ↓reduceIte, Nat.reduceEqDiff, reduceCtorEq, Nat.reduceLeDiff, Nat.reduceAdd, Int.reduceToNat, Nat.reduceLT]; clear hr) <;> (try (exfalso; omega))) | (show D _ (J.ops _ _ _ _); refine SBb ?_) | (refine T_app ?_; try refine SBb ?_) | (refine T_fork ?_ ?_) | (simp only [T_nil]) | (refine TS (fun h => ?_) (fun h => ?_) (hc := HCb) <;> (try simp only [RH, reduceCtorEq] at h) <;> (try (exfalso; omega))) | (show retR _ _ _ _ _; simp (disch := first|exact DB|fail) only [RR, RB, ↓reduceIte, Nat.reduceEqDiff, reduceCtorEq, Nat.reduceLeDiff, Nat.reduceAdd, Int.reduceToNat, Nat.reduceLT]) | exact rfl))
      exact ⟨hle7, m47, by omega, hrow7, hmX7, hm7, .nilsl, .nilsl, [], [], m107, .nil, .nil, by simp, by simp, .inl rfl, rfl⟩
  rintro F5 s8 hfr5 ⟨hle8, m48, hn8, hrow8, hmX8, hmN8, vh', vr', hs, rs, m108, ihs, irs, hsI, hrS, hsl, hrl⟩
  have hnx8 := hle8.1
  ((have E := And.intro hfr5 (And.intro hfr4 (And.intro hfr3 (And.intro hfr2 (And.intro hfr1 m108)))); (repeat' (first | (refine NXt ?_; try intro K hK) | (refine hK _ _ ?_; clear hK; clear K; try refine PX ?_) | ((first | refine GC_case_t (fun hr => ?_) (fun hr => ?_) | refine GC_case_f (fun hr => ?_) (fun hr => ?_)) <;> (have h := hr; (try simp only [RH, reduceCtorEq] at h); refine SHb ?_; clear hr) <;> (try (exfalso; omega))) | (show D _ (J.ops _ _ _ _); refine SEb ?_) | (refine T_app ?_; try refine SEb ?_) | (refine T_fork ?_ ?_) | (simp only [T_nil]) | (refine TS (fun h => ?_) (fun h => ?_) (hc := HEb) <;> (try simp only [RH, reduceCtorEq] at h) <;> (try (exfalso; omega))) | (show retR _ _ _ _ _; refine SRb ?_) | (refine SEb ?_) | exact rfl))) <;> (try clear E))
  have hd0 : s.next ≤ δ2.next := by omega
  have hTX : ∀ i kk o n, vX = .row i kk o n → i ≠ rT := fun i kk o n h => by have := hnX i kk o n h; omega
  have hTN : ∀ i kk o n, vN = .row i kk o n → i ≠ rT := fun i kk o n h => by have := hnN i kk o n h; omega
  have hXN : ∀ i kk o n i' kk' o' n', vX = .row i kk o n → vN = .row i' kk' o' n' → i ≠ i' := fun i kk o n i' kk' o' n' h h' => by
    have h1 := hXlt i kk o n h
    have h2 := hnN i' kk' o' n' h'
    (try simp only [NB] at h2)
    omega
  have hXd : ∀ i kk o n, vX = .row i kk o n → i ≠ δ2.next := fun i kk o n h => by have := hnX i kk o n h; omega
  have hNd : ∀ i kk o n, vN = .row i kk o n → i ≠ δ2.next := fun i kk o n h => by have := hnN i kk o n h; omega
  have hmT8 : MRow s8 (.row rT 4 0 NT) 4 L := .inr ⟨rT, by rw [hLl, hNT], by omega, hrow8⟩
  obtain ⟨vT', s9, e9, iT', m9, hn9, hle9, hk9⟩ := frzc_mrow (S0 := s) (d := 2) m108 rfl hmT8 (by omega) hle8 hd0 (fun i kk o n h => by injection h with h; omega)
  have hmX9 : MRow s9 vX 4 Lx := hmX8.of_eq hn9 fun i kk o n hi h => hk9 i hi (hXd i kk o n h) (fun _ _ _ h' => by injection h' with h'; exact hTX i kk o n h h'.symm)
  have hmN9 : MRow s9 vN 4 Ln := hmN8.of_eq hn9 fun i kk o n hi h => hk9 i hi (hNd i kk o n h) (fun _ _ _ h' => by injection h' with h'; exact hTN i kk o n h h'.symm)
  have m49 := hk9 (s.next + 1 + 1) (by omega) (by omega) (fun _ _ _ h' => by injection h' with h'; omega)
  rw [m48] at m49
  obtain ⟨vX', s10, e10, iX', m10', hn10, hle10, hk10⟩ := frzc_mrow (S0 := s) (d := 3) m9 rfl hmX9 (by omega) hle9 hd0 (fun i kk o n h => by have := hnX i kk o n h; omega)
  have hmN10 : MRow s10 vN 4 Ln := hmN9.of_eq hn10 fun i kk o n hi h => hk10 i hi (hNd i kk o n h) (fun _ _ _ h' => hXN _ _ _ _ _ _ _ _ h' h rfl)
  have m410 := hk10 (s.next + 1 + 1) (by omega) (by omega) (fun _ _ _ h' => by have := hnX _ _ _ _ h'; omega)
  rw [m49] at m410
  obtain ⟨vN', s11, e11, iN', m11', hn11, hle11, hk11⟩ := frzc_mrow (S0 := s) (d := 4) m10' rfl hmN10 (by omega) hle10 hd0 (fun i kk o n h => by have := hnN i kk o n h; omega)
  have m411 := hk11 (s.next + 1 + 1) (by omega) (by omega) (fun _ _ _ h' => by have := hnN _ _ _ _ h'; omega)
  rw [m410] at m411
  have hn4 : s.next + 1 + 1 < s11.next := by omega
  ((have E := And.intro e9 (And.intro e10 (And.intro e11 (And.intro m11' (And.intro m411 (And.intro hfr5 (And.intro hfr4 (And.intro hfr3 (And.intro hfr2 hfr1)))))))); (repeat' (first | (refine NXt ?_; try intro K hK) | (refine hK _ _ ?_; clear hK; clear K; try refine PX ?_) | ((first | refine GC_case_t (fun hr => ?_) (fun hr => ?_) | refine GC_case_f (fun hr => ?_) (fun hr => ?_)) <;> (have h := hr; (try simp only [RH, reduceCtorEq] at h); refine SHb ?_; clear hr) <;> (try (exfalso; omega))) | (show D _ (J.ops _ _ _ _); refine SEb ?_) | (refine T_app ?_; try refine SEb ?_) | (refine T_fork ?_ ?_) | (simp only [T_nil]) | (refine TS (fun h => ?_) (fun h => ?_) (hc := HEb) <;> (try simp only [RH, reduceCtorEq] at h) <;> (try (exfalso; omega))) | (show retR _ _ _ _ _; refine SRb ?_) | (refine SEb ?_) | exact rfl))) <;> (try clear E))
  refine ⟨⟨vA, vK, vT', vX', vN', vh', vr', 0, rfl, fun _ => ⟨asa, ksa ++ ksb, L, Lx, Ln, hs, rs, ⟨⟨vA, vK, vT', vX', vN', vh', vr', rfl, iA, iK, iT', iX', iN', ihs, irs⟩, Ca.hA, fun x hx => (List.mem_append.1 hx).elim (Ca.hK x) (Cb.hK x), hL.isText, hLxP, hLnP, hsI, hrS, laa, by simp; omega, by omega, by omega, by omega, by omega, by omega⟩, by rw [List.length_append, Int.natCast_add]; exact hL, by rw [List.length_append]; omega, by rw [List.length_append]; omega, by rw [List.length_append]; omega, hrl⟩⟩, by (exact LEb)⟩
end Go.VS.Fn

namespace Go.VS.Fn
open Go.VS
variable {T : Nat → Option FnDef}

set_option maxHeartbeats 4000000 in
theorem Corpus_spec (M : HM T) (H : HV T) {s : St} {o a : Nat} {lv : V} (t : TapeOk s o lv a) (most : Int) (hmo1 : 1 ≤ most) (hmo2 : most ≤ 50) : D T (.call 4 [.ptr o 0, .int .i64 most] s (fun v s' => MC v ∧ St.Tp s o lv s')) := by
  have h14 := M.h14
  have h30 := M.h30
  have hlst := t.lst
  have hmem := t.mem
  have hlt := t.lt
  have hat := t.ha
  have hco : ∀ c, MC c → c.cells.length = 7 ∧ c.notTup = true ∧ c = .agg c.cells := fun c hc => by
    obtain ⟨as, ks, ts, xs, ns, hs, rs, C, _⟩ := hc
    obtain ⟨va, vk, vt, vx, vn, vh, vr, rfl, _⟩ := C.eq
    exact ⟨rfl, rfl, rfl⟩
  refine C.fn M.h4 rfl ?_
  unfold v4
  dsimp only
  ((have E := hmem; (repeat' (first | (refine NXt ?_; try intro K hK) | (refine hK _ _ ?_; clear hK; clear K; try refine PX ?_) | ((first | refine GC_case_t (fun hr => ?_) (fun hr => ?_) | refine GC_case_f (fun hr => ?_) (fun hr => ?_)) <;> (have h := hr; (try simp only [RH, reduceCtorEq] at h); refine SHb ?_; clear hr) <;> (try (exfalso; omega))) | (refine X_callc rfl ?_; refine SNb ?_; refine D.mono_call (Document_spec M H (TapeOk.mk (lv := lv) (by have E := hmem; exact IEb) (by first | omega | (((first | exact SCb | refine SBb ?_)) <;> omega)) (by omega) hlst) _ _ hmo1 hmo2) ?_; rintro v s' ⟨hMC, a', δ, ha', hδ, rfl⟩; (try simp only [NB] at hδ); refine ⟨by exact CEb, ?_⟩; try refine SEb ?_) | (show D _ (J.ops _ _ _ _); refine SEb ?_) | (refine T_app ?_; try refine SEb ?_) | (refine T_fork ?_ ?_) | (simp only [T_nil]) | (refine TS (fun h => ?_) (fun h => ?_) (hc := HEb) <;> (try simp only [RH, reduceCtorEq] at h) <;> (try (exfalso; omega))) | (show retR _ _ _ _ _; refine SRb ?_) | exact rfl))) <;> (try clear E))
  obtain ⟨as, ks, ts, xs, ns, hs, rs, Cs, _⟩ := id hMC
  obtain ⟨va, vk, vt, vx, vn, vh, vr, rfl, _⟩ := Cs.eq
  clear Cs
  (first | exact SCb | refine SBb ?_)
  ((have E := hmem; (repeat' (first | (refine NXt ?_; try intro K hK) | (refine hK _ _ ?_; clear hK; clear K; try refine PX ?_) | ((first | refine GC_case_t (fun hr => ?_) (fun hr => ?_) | refine GC_case_f (fun hr => ?_) (fun hr => ?_)) <;> (have h := hr; (try simp only [RH, reduceCtorEq] at h); refine SHb ?_; clear hr) <;> (try (exfalso; omega))) | (refine X_callc rfl ?_; refine SNb ?_; refine D.mono_call (Next_spec h14 h30 (TapeOk.mk (lv := lv) IEb (by exact DB) (by omega) hlst) _ (by omega) (by omega)) ?_; rintro v s' ⟨k, rfl, hk0, hk1, a', ha', rfl⟩; (try simp only [NB] at hδ); refine ⟨by exact CEb, ?_⟩; try refine SEb ?_) | (show D _ (J.ops _ _ _ _); refine SEb ?_) | (refine T_app ?_; try refine SEb ?_) | (refine T_fork ?_ ?_) | (simp only [T_nil]) | (refine TS (fun h => ?_) (fun h => ?_) (hc := HEb) <;> (try simp only [RH, reduceCtorEq] at h) <;> (try (exfalso; omega))) | (show retR _ _ _ _ _; refine SRb ?_) | exact rfl))) <;> (try clear E))
  refine W.midF (fun F' s2 => St.LeW [o] s s2 ∧ ∃ (a' : Nat) (x0 x1 x2 x3 x4 x5 x6 : V), a' ≤ 1000 ∧ s2.mem o = some (.obj [lv, .int .i64 a']) ∧ s2.mem s.next = some (.obj [.nilsl, .nilsl, .nilsl, .nilsl, .nilsl, .nilsl, .nilsl]) ∧ s2.mem δ.next = some (.obj [x0, x1, x2, x3, x4, x5, x6]) ∧ δ.next < s2.next ∧ MC (.agg [x0, x1, x2, x3, x4, x5, x6])) (W.bloop (fun n F' s2 => St.LeW [o] s s2 ∧ ∃ (a' : Nat) (x0 x1 x2 x3 x4 x5 x6 : V), a' ≤ 1000 ∧ s2.mem o = some (.obj [lv, .int .i64 a']) ∧ s2.mem s.next = some (.obj [.nilsl, .nilsl, .nilsl, .nilsl, .nilsl, .nilsl, .nilsl]) ∧ s2.mem δ.next = some (.obj [x0, x1, x2, x3, x4, x5, x6]) ∧ δ.next < s2.next ∧ MC (.agg [x0, x1, x2, x3, x4, x5, x6]) ∧ F' 6 = .int .i64 n ∧ n ≤ 2) k.toNat ⟨by (exact LWb), a', va, vk, vt, vx, vn, vh, vr, ha', by (first | exact SCb | refine SBb ?_), by (first | exact SCb | refine SBb ?_), by (first | exact SCb | refine SBb ?_), by ((first | exact SCb | refine SBb ?_)) <;> omega, hMC, by (first | exact SCb | refine SBb ?_); congr 1; omega, by omega⟩ ?_) ?_
  · rintro n F' s2 hfr ⟨hle2, a2, x0, x1, x2, x3, x4, x5, x6, ha2, hmo2', hm6, hm8, hnx2, hMC2, h6, hn2⟩
    have hnx2' := hle2.1
    ((have E := And.intro hfr (And.intro h6 (And.intro hmo2' (And.intro hm6 hm8))); (repeat' (first | (refine NXt ?_; try intro K hK) | (refine hK _ _ ?_; clear hK; clear K; try refine PX ?_) | ((first | refine GC_case_t (fun hr => ?_) (fun hr => ?_) | refine GC_case_f (fun hr => ?_) (fun hr => ?_)) <;> (have h := hr; (try simp only [RH, reduceCtorEq] at h); refine SHb ?_; clear hr) <;> (try (exfalso; omega))) | (refine X_callc rfl ?_; refine SNb ?_; refine D.mono_call (Document_spec M H (TapeOk.mk (lv := lv) (by have E := hmo2'; exact IEb) (by first | omega | (((first | exact SCb | refine SBb ?_)) <;> omega)) (by omega) hlst) _ _ hmo1 hmo2) ?_; rintro v s' ⟨hMC3, a', δ3, ha', hδ, rfl⟩; (try simp only [NB] at hδ); refine ⟨by exact CEb, ?_⟩; try refine SEb ?_) | (show D _ (J.ops _ _ _ _); refine SEb ?_) | (refine T_app ?_; try refine SEb ?_) | (refine T_fork ?_ ?_) | (simp only [T_nil]) | (refine TS (fun h => ?_) (fun h => ?_) (hc := HEb) <;> (try simp only [RH, reduceCtorEq] at h) <;> (try (exfalso; omega))) | (show retR _ _ _ _ _; refine SRb ?_) | exact rfl))) <;> (try clear E))
    · obtain ⟨as3, ks3, ts3, xs3, ns3, hs3, rs3, Cs3, _⟩ := id hMC3
      obtain ⟨y0, y1, y2, y3, y4, y5, y6, rfl, _⟩ := Cs3.eq
      clear Cs3
      (first | exact SCb | refine SBb ?_)
      (repeat' (first | (refine NXt ?_; try intro K hK) | (refine hK _ _ ?_; clear hK; clear K; try refine PX ?_) | ((first | refine GC_case_t (fun hr => ?_) (fun hr => ?_) | refine GC_case_f (fun hr => ?_) (fun hr => ?_)) <;> (have h := hr; (try simp only [RH, reduceCtorEq] at h); simp (disch := first|exact DB|fail) only [hr, RB, ↓reduceIte, Nat.reduceEqDiff, reduceCtorEq, Nat.reduceLeDiff, Nat.reduceAdd, Int.reduceToNat, Nat.reduceLT, hfr, h6, hmo2', hm6, hm8, List.getElem?_cons_zero, List.getElem?_cons_succ]; clear hr) <;> (try (exfalso; omega))) | (refine X_callc rfl ?_; simp (disch := first|exact DB|fail) only [List.nil_append, List.append_nil, RB, ↓reduceIte, Nat.reduceEqDiff, reduceCtorEq, Nat.reduceLeDiff, Nat.reduceAdd, Int.reduceToNat, Nat.reduceLT, hfr, h6, hmo2', hm6, hm8, List.getElem?_cons_zero, List.getElem?_cons_succ]; refine D.mono_call (Concat_spec M H hMC2 hMC3 _) ?_; rintro v s' ⟨⟨z0, z1, z2, z3, z4, z5, z6, e, rfl, hz⟩, δ4, hδ, rfl⟩; (try simp only [NB] at hδ); refine ⟨by first | exact CK | (simp only [RC, Chk.ok, V.ent]; simp (disch := first|exact DB|fail) only [RT, RB, ↓reduceIte, Nat.reduceEqDiff, reduceCtorEq, Nat.reduceLeDiff, Nat.reduceAdd, Int.reduceToNat, Nat.reduceLT, hfr, h6, hmo2', hm6, hm8, List.getElem?_cons_zero, List.getElem?_cons_succ]), ?_⟩; try simp (disch := first|exact DB|fail) only [RB, ↓reduceIte, Nat.reduceEqDiff, reduceCtorEq, Nat.reduceLeDiff, Nat.reduceAdd, Int.reduceToNat, Nat.reduceLT, hfr, h6, hmo2', hm6, hm8, List.getElem?_cons_zero, List.getElem?_cons_succ]) | (show D _ (J.ops _ _ _ _); simp (disch := first|exact DB|fail) only [RB, ↓reduceIte, Nat.reduceEqDiff, reduceCtorEq, Nat.reduceLeDiff, Nat.reduceAdd, Int.reduceToNat, Nat.reduceLT, hfr, h6, hmo2', hm6, hm8, List.getElem?_cons_zero, List.getElem?_cons_succ]) | (refine T_app ?_; try simp (disch := first|exact DB|fail) only [RB, ↓reduceIte, Nat.reduceEqDiff, reduceCtorEq, Nat.reduceLeDiff, Nat.reduceAdd, Int.reduceToNat, Nat.reduceLT, hfr, h6, hmo2', hm6, hm8, List.getElem?_cons_zero, List.getElem?_cons_succ]) | (refine T_fork ?_ ?_) | (simp only [T_nil]) | (refine TS (fun h => ?_) (fun h => ?_) (hc := by (simp (disch := first|exact DB|fail) only [RB, ↓reduceIte, Nat.reduceEqDiff, reduceCtorEq, Nat.reduceLeDiff, Nat.reduceAdd, Int.reduceToNat, Nat.reduceLT, hfr, h6, hmo2', hm6, hm8, List.getElem?_cons_zero, List.getElem?_cons_succ]) <;> rfl) <;> (try simp only [RH, reduceCtorEq] at h) <;> (try (exfalso; omega))) | (show retR _ _ _ _ _; simp (disch := first|exact DB|fail) only [RR, RB, ↓reduceIte, Nat.reduceEqDiff, reduceCtorEq, Nat.reduceLeDiff, Nat.reduceAdd, Int.reduceToNat, Nat.reduceLT, hfr, h6, hmo2', hm6, hm8, List.getElem?_cons_zero, List.getElem?_cons_succ]) | exact rfl))
      · exact ⟨n - 1, by omega, by (exact LWb), a', z0, z1, z2, z3, z4, z5, z6, ha', IB, (by have E := hm6; exact IEb), IB, by ((first | exact SCb | refine SBb ?_)) <;> omega, hz (by omega), by ((first | exact SCb | refine SBb ?_)) <;> (congr 1 <;> omega), by omega⟩
      · exact ⟨n - 1, by omega, by (exact LWb), a', x0, x1, x2, x3, x4, x5, x6, ha', IB, (by have E := hm6; exact IEb), (by have E := hm8; exact IEb), by ((first | exact SCb | refine SBb ?_)) <;> omega, hMC2, by ((first | exact SCb | refine SBb ?_)) <;> (congr 1 <;> omega), by omega⟩
    · exact ⟨hle2, a2, x0, x1, x2, x3, x4, x5, x6, ha2, hmo2', hm6, hm8, hnx2, hMC2⟩
  rintro F2 s2 hfr2 ⟨hle2, a2, x0, x1, x2, x3, x4, x5, x6, ha2, hmo2', hm6, hm8, hnx2, hMC2⟩
  ((have E := And.intro hfr2 (And.intro hm6 hm8); (repeat' (first | (refine NXt ?_; try intro K hK) | (refine hK _ _ ?_; clear hK; clear K; try refine PX ?_) | ((first | refine GC_case_t (fun hr => ?_) (fun hr => ?_) | refine GC_case_f (fun hr => ?_) (fun hr => ?_)) <;> (have h := hr; (try simp only [RH, reduceCtorEq] at h); refine SHb ?_; clear hr) <;> (try (exfalso; omega))) | (show D _ (J.ops _ _ _ _); refine SEb ?_) | (refine T_app ?_; try refine SEb ?_) | (refine T_fork ?_ ?_) | (simp only [T_nil]) | (refine TS (fun h => ?_) (fun h => ?_) (hc := HEb) <;> (try simp only [RH, reduceCtorEq] at h) <;> (try (exfalso; omega))) | (show retR _ _ _ _ _; refine SRb ?_) | exact rfl))) <;> (try clear E))
  exact ⟨hMC2, LeW.tp (a := a2) (by (exact LWb)) ha2 (by ((have E := hmo2'; first | exact SXb | refine SEb ?_) <;> (try clear E)))⟩
end Go.VS.Fn

namespace Go.VS.Fn
open Go.VS

theorem D.gen {T : Nat → Option FnDef} {c : Code} {F : Frame} {s : St} {Q : Post} (h : ∀ F' : Frame, F' = F → D T (.code c F' s Q)) : D T (.code c F s Q) := h F rfl
theorem D.genS {T : Nat → Option FnDef} {c : Code} {F : Frame} {s : St} {Q : Post} (h : ∀ (F' : Frame) (s' : St), F' = F → s' = s → D T (.code c F' s' Q)) : D T (.code c F s Q) := h F s rfl rfl
theorem X_segn {T : Nat → Option FnDef} (n : Nat) {l : List Lo} {F : Frame} {s : St} {K : Frame → St → Prop} (h : ∀ K2 : Frame → St → Prop, (∀ F s, D T (.ops (l.drop n) F s K) → K2 F s) → D T (.ops (l.take n) F s K2)) : D T (.ops l F s K) := by
  have h := h _ (fun _ _ h => h)
  have key : ∀ (l1 l2 : List Lo) (F : Frame) (s : St), D T (.ops l1 F s (fun F s => D T (.ops l2 F s K))) → D T (.ops (l1 ++ l2) F s K) := by
    intro l1
    induction l1 with
    | nil => intro l2 F s h; cases h with | nil h => exact h
    | cons x r ih =>
      intro l2 F s h
      cases h with
      | skipped hw h => exact .skipped hw (ih _ _ _ h)
      | step hw h hc hr => exact .step hw h hc (ih _ _ _ hr)
      | frz hw h hf hc hd hr => exact .frz hw h hf hc hd (ih _ _ _ hr)
      | frzc hw h hf hc hd hr => exact .frzc hw h hf hc hd (ih _ _ _ hr)
      | call hw h hf hcall hc hr => exact .call hw h hf hcall hc fun v s' k => ih _ _ _ (hr v s' k)
  have := key _ _ _ _ h
  rwa [List.take_append_drop] at this
theorem D.genOS {T : Nat → Option FnDef} {c : List Lo} {F : Frame} {s : St} {Q : Frame → St → Prop} (h : ∀ (F' : Frame) (s' : St), F' = F → s' = s → D T (.ops c F' s' Q)) : D T (.ops c F s Q) := h F s rfl rfl
theorem D.genO {T : Nat → Option FnDef} {c : List Lo} {F : Frame} {s : St} {Q : Frame → St → Prop} (h : ∀ F' : Frame, F' = F → D T (.ops c F' s Q)) : D T (.ops c F s Q) := h F rfl

end Go.VS.Fn

namespace Go.VS.Fn
open Go.VS
variable {T : Nat → Option FnDef}

theorem Same_true2 (S : HS T) (va vb : V) (xs ys : List (Int × Int)) (ha : IsL va (xs.map sp)) (hb : IsL vb (ys.map sp)) (hl : xs.length ≤ 100000) (he : xs = ys) (s : St) : D T (.call 9 [va, vb] s (fun v s' => v = .bool true ∧ s = s')) := by
  refine (Same_spec S.h9 va vb xs ys ha hb s (by omega)).mono_call ?_
  rintro v s' ⟨rfl, rfl⟩
  exact ⟨by rw [decide_eq_true he], rfl⟩
theorem TOk.isTx {b e : Int} {ts : List V} (h : TOk b ts e) : ∀ t ∈ ts, Fn.isTx t := by
  induction ts generalizing b with
  | nil => simp
  | cons t r ih =>
    obtain ⟨a, e', m, rfl, hm, _, hr⟩ := h
    intro x hx
    rcases List.mem_cons.1 hx with rfl | hx
    · refine ⟨a, b, e', m, rfl, ?_⟩
      obtain ⟨ys, hy, _⟩ := hm
      rcases hy with ⟨rfl, _⟩ | ⟨c, g, off, rfl⟩ <;> rfl
    · exact ih hr x hx

theorem Tip0.base {S0 S1 s : St} {v : V} {k : Nat} {xs : List V} (h : Tip0 S1 s v k xs) (hl : S0.next ≤ S1.next) : Tip0 S0 s v k xs := ⟨h.1, fun i hi => Nat.le_trans hl (h.2 i hi)⟩

set_option maxRecDepth 100000 in
set_option maxHeartbeats 8000000 in
theorem Sets_spec (M : HM T) (H : HV T) (S : HS T) (R : HR T) (I : HI T) (U : HU T) (hs : SortOk T) (h226 : T 226 = some (.body v226)) (lv : V) (ls : List Int) (hlv : IsL lv (ints ls)) (vr : V) (rs : List (Int × Int)) (hr : IsL vr (rs.map sp)) (s : St) : D T (.call 226 [lv, vr] s (fun v s' => v = .bool true ∧ St.Gr s s')) := by
  refine C.fn h226 rfl ?_
  unfold v226
  dsimp only
  by_cases h8 : 8 < rs.length
  · ((have E := And.intro hr.lenm hr.notStr; (repeat' (first | (refine NXt ?_; try intro K hK) | (refine hK _ _ ?_; clear hK; clear K; try refine PX ?_) | ((first | refine GC_case_t (fun hr => ?_) (fun hr => ?_) | refine GC_case_f (fun hr => ?_) (fun hr => ?_)) <;> (have h := hr; (try simp only [RH, reduceCtorEq] at h); refine SHb ?_; clear hr) <;> (try (exfalso; omega))) | (show D _ (J.ops _ _ _ _); refine SEb ?_) | (refine T_app ?_; try refine SEb ?_) | (refine T_fork ?_ ?_) | (simp only [T_nil]) | (refine TS (fun h => ?_) (fun h => ?_) (hc := HEb) <;> (try simp only [RH, reduceCtorEq] at h) <;> (try (exfalso; omega))) | (show retR _ _ _ _ _; refine SRb ?_) | exact rfl))) <;> (try clear E))
    exact ⟨trivial, by (exact LEb)⟩
  ((have E := And.intro hr.lenm hr.notStr; (repeat' (first | (refine NXt ?_; try intro K hK) | (refine hK _ _ ?_; clear hK; clear K; try refine PX ?_) | ((first | refine GC_case_t (fun hr => ?_) (fun hr => ?_) | refine GC_case_f (fun hr => ?_) (fun hr => ?_)) <;> (have h := hr; (try simp only [RH, reduceCtorEq] at h); refine SHb ?_; clear hr) <;> (try (exfalso; omega))) | (show D _ (J.ops _ _ _ _); refine SEb ?_) | (refine T_app ?_; try refine SEb ?_) | (refine T_fork ?_ ?_) | (simp only [T_nil]) | (refine TS (fun h => ?_) (fun h => ?_) (hc := HEb) <;> (try simp only [RH, reduceCtorEq] at h) <;> (try (exfalso; omega))) | (show retR _ _ _ _ _; refine SRb ?_) | exact rfl))) <;> (try clear E))
  refine X_callc rfl ?_
  simp only [ev_t, ev_c, put_at, frame_at, List.getD_cons_zero, List.getD_cons_succ, Nat.reduceEqDiff, reduceCtorEq, ↓reduceIte, List.map_cons, List.map_nil, List.nil_append, List.append_nil]
  refine (New_spec M.h3 lv ls hlv s).mono_call ?_
  rintro v s' ⟨tv, rfl, rfl, hlst⟩
  refine ⟨by simp [Chk.ok], ?_⟩
  have t0 : TapeOk (s.new (.obj [tv, .int .i64 0])) s.next tv 0 := ⟨by ((first | exact SCb | refine SBb ?_)) <;> rfl, by ((first | exact SCb | refine SBb ?_)) <;> omega, by omega, hlst⟩
  (repeat' (first | (refine NXt ?_; try intro K hK) | (refine hK _ _ ?_; clear hK; clear K; try refine PX ?_) | ((first | refine GC_case_t (fun hr => ?_) (fun hr => ?_) | refine GC_case_f (fun hr => ?_) (fun hr => ?_)) <;> (have h := hr; (try simp only [RH, reduceCtorEq] at h); simp (disch := first|exact DB|fail) only [hr, RB, ↓reduceIte, Nat.reduceEqDiff, reduceCtorEq, Nat.reduceLeDiff, Nat.reduceAdd, Int.reduceToNat, Nat.reduceLT]; clear hr) <;> (try (exfalso; omega))) | (refine X_callc rfl ?_; simp (disch := first|exact DB|fail) only [List.nil_append, List.append_nil, RB, ↓reduceIte, Nat.reduceEqDiff, reduceCtorEq, Nat.reduceLeDiff, Nat.reduceAdd, Int.reduceToNat, Nat.reduceLT]; refine D.mono_call (Corpus_spec M H t0 6 (by omega) (by omega)) ?_; rintro v s' ⟨hMC, a', δ0, ha', hδ, rfl⟩; (try simp only [NB] at hδ); refine ⟨by first | exact CK | (simp only [RC, Chk.ok, V.ent]; simp (disch := first|exact DB|fail) only [RT, RB, ↓reduceIte, Nat.reduceEqDiff, reduceCtorEq, Nat.reduceLeDiff, Nat.reduceAdd, Int.reduceToNat, Nat.reduceLT]), ?_⟩; try refine SBb ?_) | (show D _ (J.ops _ _ _ _); refine SBb ?_) | (refine T_app ?_; try refine SBb ?_) | (refine T_fork ?_ ?_) | (simp only [T_nil]) | (refine TS (fun h => ?_) (fun h => ?_) (hc := HCb) <;> (try simp only [RH, reduceCtorEq] at h) <;> (try (exfalso; omega))) | (show retR _ _ _ _ _; simp (disch := first|exact DB|fail) only [RR, RB, ↓reduceIte, Nat.reduceEqDiff, reduceCtorEq, Nat.reduceLeDiff, Nat.reduceAdd, Int.reduceToNat, Nat.reduceLT]) | exact rfl))
  obtain ⟨as, ks, ts, xs, ns, hss, rgs, Cs, hTO, hk1, hk2, _, _⟩ := hMC
  obtain ⟨va, vk, vt, vx, vn, vh, vr', rfl, ia, ik, it, ix, i_n, ih, ir⟩ := Cs.eq
  have lt := Cs.lt
  clear Cs
  have hcnt := hTO.count
  have hts2 : ts.length ≤ 5000 := by omega
  have hts1 : 1 ≤ ts.length := by
    cases ts with
    | nil => have h0 : (0 : Int) = ks.length := hTO; omega
    | cons => simp
  have hTx := TOk.isTx hTO
  (try (first | exact SCb | refine SBb ?_))
  (repeat' (first | (refine NXt ?_; try intro K hK) | (refine hK _ _ ?_; clear hK; clear K; try refine PX ?_) | ((first | refine GC_case_t (fun hr => ?_) (fun hr => ?_) | refine GC_case_f (fun hr => ?_) (fun hr => ?_)) <;> (have h := hr; (try simp only [RH, reduceCtorEq] at h); simp (disch := first|exact DB|fail) only [hr, RB, ↓reduceIte, Nat.reduceEqDiff, reduceCtorEq, Nat.reduceLeDiff, Nat.reduceAdd, Int.reduceToNat, Nat.reduceLT]; clear hr) <;> (try (exfalso; omega))) | (show D _ (J.ops _ _ _ _); refine SBb ?_) | (refine T_app ?_; try refine SBb ?_) | (refine T_fork ?_ ?_) | (simp only [T_nil]) | (refine TS (fun h => ?_) (fun h => ?_) (hc := HCb) <;> (try simp only [RH, reduceCtorEq] at h) <;> (try (exfalso; omega))) | (show retR _ _ _ _ _; simp (disch := first|exact DB|fail) only [RR, RB, ↓reduceIte, Nat.reduceEqDiff, reduceCtorEq, Nat.reduceLeDiff, Nat.reduceAdd, Int.reduceToNat, Nat.reduceLT]) | exact rfl))
  refine X_callc rfl ?_
  simp (disch := first|exact DB|fail) only [RB, ↓reduceIte, Nat.reduceEqDiff, reduceCtorEq, Nat.reduceLeDiff, Nat.reduceAdd, Int.reduceToNat, Nat.reduceLT, List.nil_append, List.append_nil]
  refine D.mono_call (Spans_spec M (TapeOk.mk (lv := tv) IB (by first | omega | (((first | exact SCb | refine SBb ?_)) <;> omega)) (by omega) hlst) _ _ _ _ _ _ _ _ _ it hTO (by omega) hts1 hts2 _ (by omega) (by omega)) ?_
  rintro v1 s' ⟨⟨xs1, i1, l1, p1⟩, a1, δ1, ha1, hδ1, rfl⟩
  (try simp only [NB] at hδ1)
  refine ⟨by simp only [List.forall_mem_cons, List.forall_mem_nil, and_true, List.mem_cons, List.not_mem_nil, or_false, forall_eq_or_imp, forall_eq, Chk.ok, V.ent]; simp (disch := first|exact DB|fail) only [RB, ↓reduceIte, Nat.reduceEqDiff, reduceCtorEq, Nat.reduceLeDiff, Nat.reduceAdd, Int.reduceToNat, Nat.reduceLT, and_self], ?_⟩
  (try (first | exact SCb | refine SBb ?_))
  refine X_callc rfl ?_
  simp (disch := first|exact DB|fail) only [RB, ↓reduceIte, Nat.reduceEqDiff, reduceCtorEq, Nat.reduceLeDiff, Nat.reduceAdd, Int.reduceToNat, Nat.reduceLT, List.nil_append, List.append_nil]
  refine D.mono_call (SpansT_spec M (TapeOk.mk (lv := tv) IB (by first | omega | (((first | exact SCb | refine SBb ?_)) <;> omega)) (by omega) hlst) _ _ _ _ _ _ _ _ _ it hTO (by omega) hts1 hts2 _ (by omega) (by omega)) ?_
  rintro v2 s' ⟨⟨xs2, i2, l2, p2⟩, a2, δ2, ha2, hδ2, rfl⟩
  (try simp only [NB] at hδ2)
  refine ⟨by simp only [List.forall_mem_cons, List.forall_mem_nil, and_true, List.mem_cons, List.not_mem_nil, or_false, forall_eq_or_imp, forall_eq, Chk.ok, V.ent]; simp (disch := first|exact DB|fail) only [RB, ↓reduceIte, Nat.reduceEqDiff, reduceCtorEq, Nat.reduceLeDiff, Nat.reduceAdd, Int.reduceToNat, Nat.reduceLT, and_self], ?_⟩
  (try (first | exact SCb | refine SBb ?_))
  have q1 : xs1.length ≤ 100 := by omega
  have q2 : xs2.length ≤ 100 := by omega
  have hwf : ∀ l : List (Int × Int), wOk 2 (l.map sp) = true := fun l => wOk_of fun x hx => by obtain ⟨q, _, rfl⟩ := List.mem_map.1 hx; rfl
  refine X_appW (W := []) (S0 := s) IB IB (Tip0.base i2 (by exact DB)) (by (exact LEb)) hr.elems hr.rowOk (hwf _) (hwf _) (by simp; omega) (by omega) (by intro δ hδ; (first | exact SCb | refine SBb ?_)) ?_
  intro v3 δ3 htip3 hle3 hδ3
  (try simp only [NB] at hδ3)
  have j3 : IsL v3 ((xs2 ++ rs).map sp) := by have := htip3.isL; rwa [← List.map_append] at this
  (first | exact SCb | refine SBb ?_)
  refine hK _ _ ?_
  clear hK; clear K
  refine D.genS fun Fx sx hFx hsx => ?_
  have f6 : Fx 6 = .ptr δ0.next 0 := by rw [hFx]; exact IB
  have f1 : Fx 1 = vr := by rw [hFx]; exact IB
  have f7 : IsL (Fx 7) (xs1.map sp) := by rw [hFx]; (try (first | exact SCb | refine SBb ?_)); exact i1
  have f8 : IsL (Fx 8) ((xs2 ++ rs).map sp) := by rw [hFx]; (try (first | exact SCb | refine SBb ?_)); exact j3
  have hle : St.Le s sx := by rw [hsx]; (exact LEb)
  have hmx : sx.mem δ0.next = some (.obj [va, vk, vt, vx, vn, vh, vr']) := by rw [hsx]; (first | exact SCb | refine SBb ?_)
  have hnx : δ0.next < sx.next := by rw [hsx]; exact DB
  clear hFx hsx htip3
  have q3 : (xs2 ++ rs).length ≤ 200 := by simp; omega
  generalize hys : xs2 ++ rs = ys1 at *
  refine W.so fun K hK => ?_
  refine X_segn 8 fun K2 hK2 => ?_
  simp only [List.take_succ_cons, List.take_zero]
  (try ((have E := And.intro f6 (And.intro f1 hmx); first | exact SXb | refine SEb ?_) <;> (try clear E)))
  ((have E := And.intro f6 (And.intro f1 hmx); (repeat' (first | (refine NXt ?_; try intro K hK) | (refine hK _ _ ?_; clear hK; clear K; try refine PX ?_) | ((first | refine GC_case_t (fun hr => ?_) (fun hr => ?_) | refine GC_case_f (fun hr => ?_) (fun hr => ?_)) <;> (have h := hr; (try simp only [RH, reduceCtorEq] at h); refine SHb ?_; clear hr) <;> (try (exfalso; omega))) | (refine X_callc rfl ?_; refine SNb ?_; refine D.mono_call (Unite_spec S hs _ _ xs1 ys1 f7 f8 (by omega) _) ?_; rintro v s' ⟨⟨za1, ja1, ra1, ma1, na1⟩, δ, hδ, rfl⟩; (try simp only [NB] at hδ); refine ⟨by exact CEb, ?_⟩; try refine SEb ?_) | (refine X_callc rfl ?_; refine SNb ?_; refine D.mono_call (Unite30_spec R U _ _ xs1 ys1 f7 f8 (by omega) _) ?_; rintro v s' ⟨⟨zb1, jb1, rb1, mb1, nb1⟩, δ, hδ, rfl⟩; (try simp only [NB] at hδ); refine ⟨by exact CEb, ?_⟩; try refine SEb ?_) | (refine X_callc rfl ?_; refine SNb ?_; refine D.mono_call (Same_true2 S _ _ _ _ ja1 jb1 (by omega) (ext_lt ra1 rb1 fun p => by rw [ma1, mb1]) _) ?_; rintro v s' ⟨rfl, rfl⟩; (try simp only [NB] at hδ); refine ⟨by exact CEb, ?_⟩; try refine SEb ?_) | (show D _ (J.ops _ _ _ _); refine SEb ?_) | (refine T_app ?_; try refine SEb ?_) | (refine T_fork ?_ ?_) | (simp only [T_nil]) | (refine TS (fun h => ?_) (fun h => ?_) (hc := HEb) <;> (try simp only [RH, reduceCtorEq] at h) <;> (try (exfalso; omega))) | (show retR _ _ _ _ _; refine SRb ?_) | exact rfl))) <;> (try clear E))
  refine hK2 _ _ ?_
  clear hK2; clear K2
  simp only [List.drop_succ_cons, List.drop_zero]
  refine D.genOS fun Fy sy hFy hsy => ?_
  have g6 : Fy 6 = .ptr δ0.next 0 := by rw [hFy]; exact (by have E := f6; exact IEb)
  have g1 : Fy 1 = vr := by rw [hFy]; exact (by have E := f1; exact IEb)
  have g7 : IsL (Fy 7) (xs1.map sp) := by rw [hFy]; (try (first | exact SCb | refine SBb ?_)); exact f7
  have g8 : IsL (Fy 8) (ys1.map sp) := by rw [hFy]; (try (first | exact SCb | refine SBb ?_)); exact f8
  have gg : Fy 31 = .bool true := by rw [hFy]; exact IB
  have hle2 : St.Le s sy := by rw [hsy]; (exact LEb)
  have hmx2 : sy.mem δ0.next = some (.obj [va, vk, vt, vx, vn, vh, vr']) := by rw [hsy]; first | assumption | (((have E := hmx; first | exact SXb | refine SEb ?_) <;> (try clear E)))
  have hnx2 : δ0.next < sy.next := by rw [hsy]; exact DB
  clear hFy hsy
  clear f6 f1 f7 f8 hmx hle hnx
  have f6 := g6; clear g6
  have f1 := g1; clear g1
  have f7 := g7; clear g7
  have f8 := g8; clear g8
  have fg := gg; clear gg
  have hle := hle2; clear hle2
  have hmx := hmx2; clear hmx2
  have hnx := hnx2; clear hnx2
  refine X_segn 9 fun K2 hK2 => ?_
  simp only [List.take_succ_cons, List.take_zero]
  (try ((have E := And.intro f6 (And.intro f1 (And.intro hmx fg)); first | exact SXb | refine SEb ?_) <;> (try clear E)))
  ((have E := And.intro f6 (And.intro f1 (And.intro hmx fg)); (repeat' (first | (refine NXt ?_; try intro K hK) | (refine hK _ _ ?_; clear hK; clear K; try refine PX ?_) | ((first | refine GC_case_t (fun hr => ?_) (fun hr => ?_) | refine GC_case_f (fun hr => ?_) (fun hr => ?_)) <;> (have h := hr; (try simp only [RH, reduceCtorEq] at h); refine SHb ?_; clear hr) <;> (try (exfalso; omega))) | (refine X_callc rfl ?_; refine SNb ?_; refine D.mono_call (Intersect_spec S hs _ _ xs1 ys1 f7 f8 (by omega) (by omega) _) ?_; rintro v s' ⟨⟨za2, ja2, ra2, ma2, na2⟩, δ, hδ, rfl⟩; (try simp only [NB] at hδ); refine ⟨by exact CEb, ?_⟩; try refine SEb ?_) | (refine X_callc rfl ?_; refine SNb ?_; refine D.mono_call (Intersect30_spec R U _ _ xs1 ys1 f7 f8 (by omega) (by omega) _) ?_; rintro v s' ⟨⟨zb2, jb2, rb2, mb2, nb2⟩, δ, hδ, rfl⟩; (try simp only [NB] at hδ); refine ⟨by exact CEb, ?_⟩; try refine SEb ?_) | (refine X_callc rfl ?_; refine SNb ?_; refine D.mono_call (Same_true2 S _ _ _ _ ja2 jb2 (by omega) (ext_lt ra2 rb2 fun p => by rw [ma2, mb2]) _) ?_; rintro v s' ⟨rfl, rfl⟩; (try simp only [NB] at hδ); refine ⟨by exact CEb, ?_⟩; try refine SEb ?_) | (show D _ (J.ops _ _ _ _); refine SEb ?_) | (refine T_app ?_; try refine SEb ?_) | (refine T_fork ?_ ?_) | (simp only [T_nil]) | (refine TS (fun h => ?_) (fun h => ?_) (hc := HEb) <;> (try simp only [RH, reduceCtorEq] at h) <;> (try (exfalso; omega))) | (show retR _ _ _ _ _; refine SRb ?_) | exact rfl))) <;> (try clear E))
  refine hK2 _ _ ?_
  clear hK2; clear K2
  simp only [List.drop_succ_cons, List.drop_zero]
  refine D.genOS fun Fy sy hFy hsy => ?_
  have g6 : Fy 6 = .ptr δ0.next 0 := by rw [hFy]; exact (by have E := f6; exact IEb)
  have g1 : Fy 1 = vr := by rw [hFy]; exact (by have E := f1; exact IEb)
  have g7 : IsL (Fy 7) (xs1.map sp) := by rw [hFy]; (try (first | exact SCb | refine SBb ?_)); exact f7
  have g8 : IsL (Fy 8) (ys1.map sp) := by rw [hFy]; (try (first | exact SCb | refine SBb ?_)); exact f8
  have gg : Fy 40 = .bool true := by rw [hFy]; exact IB
  have hle2 : St.Le s sy := by rw [hsy]; (exact LEb)
  have hmx2 : sy.mem δ0.next = some (.obj [va, vk, vt, vx, vn, vh, vr']) := by rw [hsy]; first | assumption | (((have E := hmx; first | exact SXb | refine SEb ?_) <;> (try clear E)))
  have hnx2 : δ0.next < sy.next := by rw [hsy]; exact DB
  clear hFy hsy; clear fg
  clear f6 f1 f7 f8 hmx hle hnx
  have f6 := g6; clear g6
  have f1 := g1; clear g1
  have f7 := g7; clear g7
  have f8 := g8; clear g8
  have fg := gg; clear gg
  have hle := hle2; clear hle2
  have hmx := hmx2; clear hmx2
  have hnx := hnx2; clear hnx2
  refine X_segn 9 fun K2 hK2 => ?_
  simp only [List.take_succ_cons, List.take_zero]
  (try ((have E := And.intro f6 (And.intro f1 (And.intro hmx fg)); first | exact SXb | refine SEb ?_) <;> (try clear E)))
  ((have E := And.intro f6 (And.intro f1 (And.intro hmx fg)); (repeat' (first | (refine NXt ?_; try intro K hK) | (refine hK _ _ ?_; clear hK; clear K; try refine PX ?_) | ((first | refine GC_case_t (fun hr => ?_) (fun hr => ?_) | refine GC_case_f (fun hr => ?_) (fun hr => ?_)) <;> (have h := hr; (try simp only [RH, reduceCtorEq] at h); refine SHb ?_; clear hr) <;> (try (exfalso; omega))) | (refine X_callc rfl ?_; refine SNb ?_; refine D.mono_call (Subtract_spec S hs _ _ xs1 ys1 f7 f8 (by omega) (by omega) _) ?_; rintro v s' ⟨⟨za3, ja3, ra3, ma3, na3⟩, δ, hδ, rfl⟩; (try simp only [NB] at hδ); refine ⟨by exact CEb, ?_⟩; try refine SEb ?_) | (refine X_callc rfl ?_; refine SNb ?_; refine D.mono_call (Subtract30_spec R U _ _ xs1 ys1 f7 f8 (by omega) (by omega) _) ?_; rintro v s' ⟨⟨zb3, jb3, rb3, mb3, nb3⟩, δ, hδ, rfl⟩; (try simp only [NB] at hδ); refine ⟨by exact CEb, ?_⟩; try refine SEb ?_) | (refine X_callc rfl ?_; refine SNb ?_; refine D.mono_call (Same_true2 S _ _ _ _ ja3 jb3 (by omega) (ext_lt ra3 rb3 fun p => by rw [ma3, mb3]) _) ?_; rintro v s' ⟨rfl, rfl⟩; (try simp only [NB] at hδ); refine ⟨by exact CEb, ?_⟩; try refine SEb ?_) | (show D _ (J.ops _ _ _ _); refine SEb ?_) | (refine T_app ?_; try refine SEb ?_) | (refine T_fork ?_ ?_) | (simp only [T_nil]) | (refine TS (fun h => ?_) (fun h => ?_) (hc := HEb) <;> (try simp only [RH, reduceCtorEq] at h) <;> (try (exfalso; omega))) | (show retR _ _ _ _ _; refine SRb ?_) | exact rfl))) <;> (try clear E))
  refine hK2 _ _ ?_
  clear hK2; clear K2
  simp only [List.drop_succ_cons, List.drop_zero]
  refine D.genOS fun Fy sy hFy hsy => ?_
  have g6 : Fy 6 = .ptr δ0.next 0 := by rw [hFy]; exact (by have E := f6; exact IEb)
  have g1 : Fy 1 = vr := by rw [hFy]; exact (by have E := f1; exact IEb)
  have g7 : IsL (Fy 7) (xs1.map sp) := by rw [hFy]; (try (first | exact SCb | refine SBb ?_)); exact f7
  have g8 : IsL (Fy 8) (ys1.map sp) := by rw [hFy]; (try (first | exact SCb | refine SBb ?_)); exact f8
  have gg : Fy 49 = .bool true := by rw [hFy]; exact IB
  have hle2 : St.Le s sy := by rw [hsy]; (exact LEb)
  have hmx2 : sy.mem δ0.next = some (.obj [va, vk, vt, vx, vn, vh, vr']) := by rw [hsy]; first | assumption | (((have E := hmx; first | exact SXb | refine SEb ?_) <;> (try clear E)))
  have hnx2 : δ0.next < sy.next := by rw [hsy]; exact DB
  clear hFy hsy; clear fg
  clear f6 f1 f7 f8 hmx hle hnx
  have f6 := g6; clear g6
  have f1 := g1; clear g1
  have f7 := g7; clear g7
  have f8 := g8; clear g8
  have fg := gg; clear gg
  have hle := hle2; clear hle2
  have hmx := hmx2; clear hmx2
  have hnx := hnx2; clear hnx2
  refine X_segn 9 fun K2 hK2 => ?_
  simp only [List.take_succ_cons, List.take_zero]
  (try ((have E := And.intro f6 (And.intro f1 (And.intro hmx fg)); first | exact SXb | refine SEb ?_) <;> (try clear E)))
  ((have E := And.intro f6 (And.intro f1 (And.intro hmx fg)); (repeat' (first | (refine NXt ?_; try intro K hK) | (refine hK _ _ ?_; clear hK; clear K; try refine PX ?_) | ((first | refine GC_case_t (fun hr => ?_) (fun hr => ?_) | refine GC_case_f (fun hr => ?_) (fun hr => ?_)) <;> (have h := hr; (try simp only [RH, reduceCtorEq] at h); refine SHb ?_; clear hr) <;> (try (exfalso; omega))) | (refine X_callc rfl ?_; refine SNb ?_; refine D.mono_call (Inside_spec S hs _ _ xs1 ys1 f7 f8 (by omega) (by omega) _) ?_; rintro v s' ⟨⟨za4, ja4, ra4, ma4, na4⟩, δ, hδ, rfl⟩; (try simp only [NB] at hδ); refine ⟨by exact CEb, ?_⟩; try refine SEb ?_) | (refine X_callc rfl ?_; refine SNb ?_; refine D.mono_call (Inside30_spec R U _ _ xs1 ys1 f7 f8 (by omega) (by omega) _) ?_; rintro v s' ⟨⟨zb4, jb4, rb4, mb4, nb4⟩, δ, hδ, rfl⟩; (try simp only [NB] at hδ); refine ⟨by exact CEb, ?_⟩; try refine SEb ?_) | (refine X_callc rfl ?_; refine SNb ?_; refine D.mono_call (Same_true2 S _ _ _ _ ja4 jb4 (by omega) (ext_lt ra4 rb4 fun p => by rw [ma4, mb4]; simp only [List.any_eq_true, decide_eq_true_eq]) _) ?_; rintro v s' ⟨rfl, rfl⟩; (try simp only [NB] at hδ); refine ⟨by exact CEb, ?_⟩; try refine SEb ?_) | (show D _ (J.ops _ _ _ _); refine SEb ?_) | (refine T_app ?_; try refine SEb ?_) | (refine T_fork ?_ ?_) | (simp only [T_nil]) | (refine TS (fun h => ?_) (fun h => ?_) (hc := HEb) <;> (try simp only [RH, reduceCtorEq] at h) <;> (try (exfalso; omega))) | (show retR _ _ _ _ _; refine SRb ?_) | exact rfl))) <;> (try clear E))
  refine hK2 _ _ ?_
  clear hK2; clear K2
  simp only [List.drop_succ_cons, List.drop_zero]
  refine D.genOS fun Fy sy hFy hsy => ?_
  have g6 : Fy 6 = .ptr δ0.next 0 := by rw [hFy]; exact (by have E := f6; exact IEb)
  have g1 : Fy 1 = vr := by rw [hFy]; exact (by have E := f1; exact IEb)
  have g7 : IsL (Fy 7) (xs1.map sp) := by rw [hFy]; (try (first | exact SCb | refine SBb ?_)); exact f7
  have g8 : IsL (Fy 8) (ys1.map sp) := by rw [hFy]; (try (first | exact SCb | refine SBb ?_)); exact f8
  have gg : Fy 58 = .bool true := by rw [hFy]; exact IB
  have hle2 : St.Le s sy := by rw [hsy]; (exact LEb)
  have hmx2 : sy.mem δ0.next = some (.obj [va, vk, vt, vx, vn, vh, vr']) := by rw [hsy]; first | assumption | (((have E := hmx; first | exact SXb | refine SEb ?_) <;> (try clear E)))
  have hnx2 : δ0.next < sy.next := by rw [hsy]; exact DB
  clear hFy hsy; clear fg
  clear f6 f1 f7 f8 hmx hle hnx
  have f6 := g6; clear g6
  have f1 := g1; clear g1
  have f7 := g7; clear g7
  have f8 := g8; clear g8
  have fg := gg; clear gg
  have hle := hle2; clear hle2
  have hmx := hmx2; clear hmx2
  have hnx := hnx2; clear hnx2
  refine X_segn 9 fun K2 hK2 => ?_
  simp only [List.take_succ_cons, List.take_zero]
  (try ((have E := And.intro f6 (And.intro f1 (And.intro hmx fg)); first | exact SXb | refine SEb ?_) <;> (try clear E)))
  ((have E := And.intro f6 (And.intro f1 (And.intro hmx fg)); (repeat' (first | (refine NXt ?_; try intro K hK) | (refine hK _ _ ?_; clear hK; clear K; try refine PX ?_) | ((first | refine GC_case_t (fun hr => ?_) (fun hr => ?_) | refine GC_case_f (fun hr => ?_) (fun hr => ?_)) <;> (have h := hr; (try simp only [RH, reduceCtorEq] at h); refine SHb ?_; clear hr) <;> (try (exfalso; omega))) | (refine X_callc rfl ?_; refine SNb ?_; refine D.mono_call (IsListP_spec S va vk vt vx vn vh vr' vr ts it hTx (by omega) rs hr (by omega) _) ?_; rintro v s' ⟨⟨b1, rfl, hb1⟩, δ, hδ, rfl⟩; (try simp only [NB] at hδ); refine ⟨by exact CEb, ?_⟩; try refine SEb ?_) | (refine X_callc rfl ?_; refine SNb ?_; refine D.mono_call (IsListR_spec I va vk vt vx vn vh vr' vr ts it hTx (by omega) rs hr (by omega) _) ?_; rintro v s' ⟨⟨b2, rfl, hb2⟩, δ, hδ, rfl⟩; (try simp only [NB] at hδ); refine ⟨by exact CEb, ?_⟩; try refine SEb ?_) | (show D _ (J.ops _ _ _ _); refine SEb ?_) | (refine T_app ?_; try refine SEb ?_) | (refine T_fork ?_ ?_) | (simp only [T_nil]) | (refine TS (fun h => ?_) (fun h => ?_) (hc := HEb) <;> (try simp only [RH, reduceCtorEq] at h) <;> (try (exfalso; omega))) | (show retR _ _ _ _ _; refine SRb ?_) | exact rfl))) <;> (try clear E))
  have hbb : b1 = b2 := Bool.eq_iff_iff.2 (hb1.trans hb2.symm)
  subst hbb
  (try simp (disch := first|exact DB|fail) only [RB, ↓reduceIte, Nat.reduceEqDiff, reduceCtorEq, Nat.reduceLeDiff, Nat.reduceAdd, Int.reduceToNat, Nat.reduceLT, f6, f1, hmx, fg, beq_self_eq_true])
  (repeat' (first | (refine NXt ?_; try intro K hK) | (refine hK _ _ ?_; clear hK; clear K; try refine PX ?_) | ((first | refine GC_case_t (fun hr => ?_) (fun hr => ?_) | refine GC_case_f (fun hr => ?_) (fun hr => ?_)) <;> (have h := hr; (try simp only [RH, reduceCtorEq] at h); simp (disch := first|exact DB|fail) only [hr, RB, ↓reduceIte, Nat.reduceEqDiff, reduceCtorEq, Nat.reduceLeDiff, Nat.reduceAdd, Int.reduceToNat, Nat.reduceLT, f6, f1, hmx, fg, beq_self_eq_true]; clear hr) <;> (try (exfalso; omega))) | (show D _ (J.ops _ _ _ _); simp (disch := first|exact DB|fail) only [RB, ↓reduceIte, Nat.reduceEqDiff, reduceCtorEq, Nat.reduceLeDiff, Nat.reduceAdd, Int.reduceToNat, Nat.reduceLT, f6, f1, hmx, fg, beq_self_eq_true]) | (refine T_app ?_; try simp (disch := first|exact DB|fail) only [RB, ↓reduceIte, Nat.reduceEqDiff, reduceCtorEq, Nat.reduceLeDiff, Nat.reduceAdd, Int.reduceToNat, Nat.reduceLT, f6, f1, hmx, fg, beq_self_eq_true]) | (refine T_fork ?_ ?_) | (simp only [T_nil]) | (refine TS (fun h => ?_) (fun h => ?_) (hc := by (simp (disch := first|exact DB|fail) only [RB, ↓reduceIte, Nat.reduceEqDiff, reduceCtorEq, Nat.reduceLeDiff, Nat.reduceAdd, Int.reduceToNat, Nat.reduceLT, f6, f1, hmx, fg, beq_self_eq_true]) <;> rfl) <;> (try simp only [RH, reduceCtorEq] at h) <;> (try (exfalso; omega))) | (show retR _ _ _ _ _; simp (disch := first|exact DB|fail) only [RR, RB, ↓reduceIte, Nat.reduceEqDiff, reduceCtorEq, Nat.reduceLeDiff, Nat.reduceAdd, Int.reduceToNat, Nat.reduceLT, f6, f1, hmx, fg, beq_self_eq_true]) | exact rfl))
  refine hK2 _ _ ?_
  clear hK2; clear K2
  simp only [List.drop_succ_cons, List.drop_zero]
  refine D.genOS fun Fy sy hFy hsy => ?_
  have g6 : Fy 6 = .ptr δ0.next 0 := by rw [hFy]; exact (by have E := f6; exact IEb)
  have g1 : Fy 1 = vr := by rw [hFy]; exact (by have E := f1; exact IEb)
  have g7 : IsL (Fy 7) (xs1.map sp) := by rw [hFy]; (try (first | exact SCb | refine SBb ?_)); exact f7
  have g8 : IsL (Fy 8) (ys1.map sp) := by rw [hFy]; (try (first | exact SCb | refine SBb ?_)); exact f8
  have gg : Fy 67 = .bool true := by rw [hFy]; exact IB
  have hle2 : St.Le s sy := by rw [hsy]; (exact LEb)
  have hmx2 : sy.mem δ0.next = some (.obj [va, vk, vt, vx, vn, vh, vr']) := by rw [hsy]; first | assumption | (((have E := hmx; first | exact SXb | refine SEb ?_) <;> (try clear E)))
  have hnx2 : δ0.next < sy.next := by rw [hsy]; exact DB
  clear hFy hsy; clear fg
  clear f6 f1 f7 f8 hmx hle hnx
  have f6 := g6; clear g6
  have f1 := g1; clear g1
  have f7 := g7; clear g7
  have f8 := g8; clear g8
  have fg := gg; clear gg
  have hle := hle2; clear hle2
  have hmx := hmx2; clear hmx2
  have hnx := hnx2; clear hnx2
  (try ((have E := And.intro f6 (And.intro hmx fg); first | exact SXb | refine SEb ?_) <;> (try clear E)))
  ((have E := And.intro f6 (And.intro hmx fg); (repeat' (first | (refine NXt ?_; try intro K hK) | (refine hK _ _ ?_; clear hK; clear K; try refine PX ?_) | ((first | refine GC_case_t (fun hr => ?_) (fun hr => ?_) | refine GC_case_f (fun hr => ?_) (fun hr => ?_)) <;> (have h := hr; (try simp only [RH, reduceCtorEq] at h); refine SHb ?_; clear hr) <;> (try (exfalso; omega))) | (refine X_callc rfl ?_; refine SNb ?_; refine D.mono_call (known_spec S hs _) ?_; rintro v s' ⟨rfl, δ, hδ, rfl⟩; (try simp only [NB] at hδ); refine ⟨by exact CEb, ?_⟩; try refine SEb ?_) | (show D _ (J.ops _ _ _ _); refine SEb ?_) | (refine T_app ?_; try refine SEb ?_) | (refine T_fork ?_ ?_) | (simp only [T_nil]) | (refine TS (fun h => ?_) (fun h => ?_) (hc := HEb) <;> (try simp only [RH, reduceCtorEq] at h) <;> (try (exfalso; omega))) | (show retR _ _ _ _ _; refine SRb ?_) | exact rfl))) <;> (try clear E))
  all_goals exact ⟨by first | trivial | rfl, by (exact LEb)⟩
end Go.VS.Fn
