/-
  Part 30 of 43 of the proof of SubcorpusSetsSaid, by an abstract machine that stands in for the Go program: lemmas without conditions of their own.
-/
import Derived.Test.YtclfgmlnechmkaaGreatP29
set_option linter.unusedSimpArgs false
set_option linter.unusedVariables false
namespace Go.VS

variable {P : Program} {σ : Nat → Nat} {g g' : G} {s s' : St} {w w' : World}

theorem pure_sound {o : Oper} {vo : VOp} {a : Act} {F : Frame} {v : V} (hok : okPure P σ o.op vo = true) (hF : FRel σ g a.tmps F) (hv : opS vo F s = some (v, s')) : s' = s ∧ PureOp P σ g o a v := by
  obtain ⟨dst, op, type, pos, after, guard⟩ := o
  simp only at hok
  unfold okPure at hok
  split at hok
  · -- move
    simp only [opS, Option.some.injEq, Prod.mk.injEq] at hv
    obtain ⟨rfl, rfl⟩ := hv
    exact ⟨rfl, _, okOpd_rel hF hok, fun w => by simp [execOp]⟩
  · -- assign
    simp only [opS, Option.some.injEq, Prod.mk.injEq] at hv
    obtain ⟨rfl, rfl⟩ := hv
    exact ⟨rfl, _, okOpd_rel hF hok, fun w => by simp [execOp]⟩
  · -- pick
    simp only [Bool.and_eq_true] at hok
    obtain ⟨⟨h1, h2⟩, h3⟩ := hok
    have hc := okOpd_rel hF h1
    simp only [opS] at hv
    split at hv
    · rename_i hcv
      rw [hcv] at hc
      simp only [Option.some.injEq, Prod.mk.injEq] at hv
      obtain ⟨rfl, rfl⟩ := hv
      exact ⟨rfl, _, okOpd_rel hF h2, fun w => by simp [execOp, hc.eq_bool, asBool]⟩
    · rename_i hcv
      rw [hcv] at hc
      simp only [Option.some.injEq, Prod.mk.injEq] at hv
      obtain ⟨rfl, rfl⟩ := hv
      exact ⟨rfl, _, okOpd_rel hF h3, fun w => by simp [execOp, hc.eq_bool, asBool]⟩
    · cases hv
  · -- build
    rename_i t ps z qs
    simp only [Bool.and_eq_true] at hok
    obtain ⟨hz, hok⟩ := hok
    obtain ⟨i, zv, hi, hzv, hzr⟩ := tyZero_some hz
    simp only [opS] at hv
    split at hv
    case h_2 => cases hv
    rename_i out hb
    simp only [Option.some.injEq, Prod.mk.injEq] at hv
    obtain ⟨rfl, rfl⟩ := hv
    refine ⟨rfl, ?_⟩
    have hps : (ps.map fun p => (p.1, a.eval p.2)) = (ps.toList.map fun p => (p.1, a.eval p.2)).toArray := by apply Array.ext'; simp
    split at hok
    · rename_i fs hfs
      simp only [Bool.and_eq_true, List.all_eq_true] at hok
      refine PureOp.of1 (pure_build hi hzv hzr hfs hok.1 (okParts_rel hF hok.2) hb) (fun w => ?_)
      rw [← hps]
      exact vrun _ w
    · rename_i n e he
      obtain ⟨ie, hie, hok⟩ := tyInfo_some hok
      refine PureOp.of1 (pure_buildArr hi hzv hzr he hie rfl (okParts_rel hF hok) hb) (fun w => ?_)
      rw [← hps]
      exact vrun _ w
    · cases hok
  · -- nilCheck
    simp only [opS] at hv
    split at hv
    · rename_i hn
      simp only [Option.some.injEq, Prod.mk.injEq] at hv
      obtain ⟨rfl, rfl⟩ := hv
      have hr := okOpd_rel hF hok
      obtain ⟨p, hp⟩ := pure_nilck hr hn
      exact ⟨rfl, _, hr, fun w => by simp [execOp, hp]⟩
    · cases hv
  · -- ==
    rename_i t x y ty q ng x' y'
    simp only [Bool.and_eq_true, Bool.not_eq_true'] at hok
    obtain ⟨⟨⟨hng, h1⟩, h2⟩, h3⟩ := hok
    subst hng
    have hx := okOpd_rel hF h1
    have hy := okOpd_rel hF h2
    simp only [opS] at hv
    split at hv
    case h_2 => cases hv
    rename_i r hr
    simp only [Option.some.injEq, Prod.mk.injEq] at hv
    obtain ⟨rfl, rfl⟩ := hv
    refine ⟨rfl, ?_⟩
    have key : Pure1 P σ g (do eqGuard (bif false then .neq else .eql) t x y (a.eval x) (a.eval y); binOp (bif false then .neq else .eql) t (a.eval x) (a.eval y)) (.bool (bif false then !r else r)) := by
      cases q
      case agg ks => exact pure_eqagg hx hy hr h3
      case bool => exact pure_eqbool hx hy hr h3
      all_goals
        simp only [Bool.and_eq_true] at h3
        exact pure_eqnil hx hy hr h3.1 (fun w => eqGuard_nil (nilEq_of hx hy hr) h3.2 w)
    exact PureOp.of1 key (fun w => vrun _ w)
  · -- !=
    rename_i t x y ty q ng x' y'
    simp only [Bool.and_eq_true] at hok
    obtain ⟨⟨⟨hng, h1⟩, h2⟩, h3⟩ := hok
    subst hng
    have hx := okOpd_rel hF h1
    have hy := okOpd_rel hF h2
    simp only [opS] at hv
    split at hv
    case h_2 => cases hv
    rename_i r hr
    simp only [Option.some.injEq, Prod.mk.injEq] at hv
    obtain ⟨rfl, rfl⟩ := hv
    refine ⟨rfl, ?_⟩
    have key : Pure1 P σ g (do eqGuard (bif true then .neq else .eql) t x y (a.eval x) (a.eval y); binOp (bif true then .neq else .eql) t (a.eval x) (a.eval y)) (.bool (bif true then !r else r)) := by
      cases q
      case agg ks => exact pure_eqagg hx hy hr h3
      case bool => exact pure_eqbool hx hy hr h3
      all_goals
        simp only [Bool.and_eq_true] at h3
        exact pure_eqnil hx hy hr h3.1 (fun w => eqGuard_nil (nilEq_of hx hy hr) h3.2 w)
    exact PureOp.of1 key (fun w => vrun _ w)
  · -- other binary operations
    rename_i op' x y x' y'
    simp only [Bool.and_eq_true, decide_eq_true_eq] at hok
    obtain ⟨⟨rfl, h1⟩, h2⟩ := hok
    simp only [opS] at hv
    split at hv
    case h_2 => cases hv
    rename_i r hr
    simp only [Option.some.injEq, Prod.mk.injEq] at hv
    obtain ⟨rfl, rfl⟩ := hv
    exact ⟨rfl, PureOp.of1 (pure_bin (okOpd_rel hF h1) (okOpd_rel hF h2) hr) (fun w => vrun _ w)⟩
  · -- unary
    rename_i op' _ x op'' y
    simp only [Bool.and_eq_true, decide_eq_true_eq] at hok
    obtain ⟨rfl, h1⟩ := hok
    simp only [opS] at hv
    split at hv
    case h_2 => cases hv
    rename_i r hr
    simp only [Option.some.injEq, Prod.mk.injEq] at hv
    obtain ⟨rfl, rfl⟩ := hv
    exact ⟨rfl, PureOp.of1 (pure_un (okOpd_rel hF h1) hr) (fun w => vrun _ w)⟩
  · -- convert to an integer
    rename_i src dst' x k y
    simp only [Bool.and_eq_true] at hok
    obtain ⟨⟨h1, h2⟩, h3⟩ := hok
    obtain ⟨d, hd, _⟩ := tyDesc_some h2
    obtain ⟨d', hd', h4⟩ := tyDesc_some h3
    have hd'' : P.underlying dst' = some (.int k) := by
      cases d' <;> simp at h4
      rw [hd', h4]
    simp only [opS] at hv
    cases hx : y.ev F <;> rw [hx] at hv <;> simp only [convV, reduceCtorEq, Option.some.injEq, Prod.mk.injEq] at hv
    obtain ⟨rfl, rfl⟩ := hv
    exact ⟨rfl, PureOp.of1 (pure_convii (okOpd_rel hF h1) hx hd hd'') (fun w => vrun _ w)⟩
  · -- string to string
    rename_i src dst' x y
    simp only [Bool.and_eq_true] at hok
    obtain ⟨⟨h1, h2⟩, h3⟩ := hok
    obtain ⟨d, hd, _⟩ := tyDesc_some h2
    simp only [opS] at hv
    cases hx : y.ev F <;> rw [hx] at hv <;> simp only [convV, reduceCtorEq, Option.some.injEq, Prod.mk.injEq] at hv
    obtain ⟨rfl, rfl⟩ := hv
    exact ⟨rfl, PureOp.of1 (pure_convss (okOpd_rel hF h1) hx hd (tyStr h3)) (fun w => vrun _ w)⟩
  · -- a function value
    rename_i f xs ys f' xs' ys'
    simp only [Bool.and_eq_true, Nat.beq_eq] at hok
    obtain ⟨⟨rfl, h1⟩, h2⟩ := hok
    simp only [opS, Option.some.injEq, Prod.mk.injEq] at hv
    obtain ⟨rfl, rfl⟩ := hv
    obtain ⟨l1, r1⟩ := okOpds_rel (a := a) hF h1
    obtain ⟨l2, r2⟩ := okOpds_rel (a := a) hF h2
    exact ⟨rfl, PureOp.of1 (pure_mkfn (P := P) (fs := xs.map a.eval) (cs := ys.map a.eval) (by simpa using l1) (by simpa using l2) (fun i v x h h' => r1 i v x (by simpa using h) h') (fun i v x h h' => r2 i v x (by simpa using h) h')) (fun w => vrun _ w)⟩
  · -- an interface value
    rename_i t x t' y
    simp only [Bool.and_eq_true, Nat.beq_eq] at hok
    obtain ⟨⟨rfl, h1⟩, h2⟩ := hok
    simp only [opS, Option.some.injEq, Prod.mk.injEq] at hv
    obtain ⟨rfl, rfl⟩ := hv
    obtain ⟨d, hd, h3⟩ := tyDesc_some h2
    exact ⟨rfl, PureOp.of1 (pure_mkifc (okOpd_rel hF h1) ⟨d, hd, fun ms e => by subst e; simp at h3⟩) (fun w => vrun _ w)⟩
  · -- a cut
    rename_i t x lo hi st k y lo' hi'
    simp only [Bool.and_eq_true] at hok
    obtain ⟨⟨⟨h1, h2⟩, h3⟩, h4⟩ := hok
    simp only [opS] at hv
    split at hv
    case isFalse => cases hv
    rename_i hst
    have hty : tyFor P k t (y.ev F) := by
      cases st
      · simp only [Bool.false_eq_true, if_false] at h4
        have := tySl_some h4
        cases hy : y.ev F <;> rw [hy] at hst <;> first | exact this | (simp [V.isStr] at hst)
      · simp only [if_true] at h4
        cases hy : y.ev F <;> rw [hy] at hst <;> first | exact tyStr h4 | (simp [V.isStr] at hst)
    obtain ⟨e1, e2⟩ := pure_slice (P := P) (s := s) (okOpd_rel hF h1) (okOpt_rel hF h2) (okOpt_rel hF h3) hv hty
    exact ⟨e1, PureOp.of1 e2 (fun w => vrun _ w)⟩
  · -- a field's address
    rename_i t x f off y
    simp only [Bool.and_eq_true] at hok
    obtain ⟨h1, h2⟩ := hok
    obtain ⟨fs, fd, hfs, hfd, h3⟩ := fieldOk_some h2
    simp only [Bool.and_eq_true, Nat.beq_eq] at h3
    obtain ⟨i, hi, h4⟩ := tyInfo_some h3.2
    simp only [opS] at hv
    split at hv
    case h_2 => cases hv
    rename_i r hr
    simp only [Option.some.injEq, Prod.mk.injEq] at hv
    obtain ⟨rfl, rfl⟩ := hv
    refine ⟨rfl, PureOp.of1 (pure_fld (okOpd_rel hF h1) hr hfs hfd h3.1 ⟨i, hi, fun e => ?_⟩) (fun w => vrun _ w)⟩
    rw [e] at h4; simp at h4
  · -- a field
    rename_i t x f off k ag y
    simp only [Bool.and_eq_true] at hok
    obtain ⟨h1, h2⟩ := hok
    obtain ⟨fs, fd, hfs, hfd, h3⟩ := fieldOk_some h2
    simp only [Bool.and_eq_true, Nat.beq_eq] at h3
    obtain ⟨d, i, hd, hag, hi, hs⟩ := tyK_some h3.2
    simp only [opS] at hv
    split at hv
    case h_2 => cases hv
    rename_i cs hy
    split at hv
    case h_2 => cases hv
    rename_i r hr
    simp only [Option.some.injEq, Prod.mk.injEq] at hv
    obtain ⟨rfl, rfl⟩ := hv
    have hx := okOpd_rel hF h1
    rw [hy] at hx
    exact ⟨rfl, PureOp.of1 (pure_getf hx (by simpa using hr) hfs hfd h3.1 hd hag hi hs) (fun w => vrun _ w)⟩
  · -- an element's address
    rename_i t x i k y j
    simp only [Bool.and_eq_true] at hok
    obtain ⟨⟨h1, h2⟩, h3⟩ := hok
    obtain ⟨e, ie, he, hie, hs⟩ := tySl_some h3
    simp only [opS] at hv
    split at hv
    case h_2 => cases hv
    rename_i r hr
    simp only [Option.some.injEq, Prod.mk.injEq] at hv
    obtain ⟨rfl, rfl⟩ := hv
    exact ⟨rfl, PureOp.of1 (pure_idx (okOpd_rel hF h1) (okOpd_rel hF h2) hr he hie hs) (fun w => vrun _ w)⟩
  · -- an array element's address
    rename_i t x i n k y j
    simp only [Bool.and_eq_true] at hok
    obtain ⟨⟨h1, h2⟩, h3⟩ := hok
    obtain ⟨e, he, h4⟩ := arrOk_some h3
    obtain ⟨ie, hie, h5⟩ := tyInfo_some h4
    simp only [opS] at hv
    split at hv
    case h_2 => cases hv
    rename_i r hr
    simp only [Option.some.injEq, Prod.mk.injEq] at hv
    obtain ⟨rfl, rfl⟩ := hv
    exact ⟨rfl, PureOp.of1 (pure_idxa (okOpd_rel hF h1) (okOpd_rel hF h2) hr he hie (by simpa using h5)) (fun w => vrun _ w)⟩
  · -- a byte of a string
    rename_i t x i y j
    simp only [Bool.and_eq_true] at hok
    obtain ⟨⟨h1, h2⟩, h3⟩ := hok
    simp only [opS] at hv
    split at hv
    case h_2 => cases hv
    rename_i r hr
    simp only [Option.some.injEq, Prod.mk.injEq] at hv
    obtain ⟨rfl, rfl⟩ := hv
    exact ⟨rfl, PureOp.of1 (pure_idxs (okOpd_rel hF h1) (okOpd_rel hF h2) hr (tyStr h3)) (fun w => vrun _ w)⟩
  · -- an element of an array
    rename_i t x i n k ag y j
    simp only [Bool.and_eq_true] at hok
    obtain ⟨⟨h1, h2⟩, h3⟩ := hok
    obtain ⟨e, he, h4⟩ := arrOk_some h3
    obtain ⟨d, ie, hd, hag, hi, hs⟩ := tyK_some h4
    simp only [opS] at hv
    split at hv
    case h_2 => cases hv
    rename_i r hr
    simp only [Option.some.injEq, Prod.mk.injEq] at hv
    obtain ⟨rfl, rfl⟩ := hv
    exact ⟨rfl, PureOp.of1 (pure_idxv (okOpd_rel hF h1) (okOpd_rel hF h2) hr he hd hag hi hs) (fun w => vrun _ w)⟩
  · -- a component
    rename_i x i y j
    simp only [Bool.and_eq_true, Nat.beq_eq] at hok
    obtain ⟨h1, rfl⟩ := hok
    simp only [opS] at hv
    split at hv
    case h_2 => cases hv
    rename_i vs hy
    split at hv
    case h_2 => cases hv
    rename_i r hr
    simp only [Option.some.injEq, Prod.mk.injEq] at hv
    obtain ⟨rfl, rfl⟩ := hv
    have hx := okOpd_rel hF h1
    rw [hy] at hx
    exact ⟨rfl, PureOp.of1 (pure_ext hx (by simpa using hr)) (fun w => vrun _ w)⟩
  · -- len
    rename_i args tys st y
    split at hok
    case h_2 => cases hok
    rename_i x t ha ht
    rw [toList1 ha, toList1 ht]
    simp only [Bool.and_eq_true] at hok
    obtain ⟨h1, h2⟩ := hok
    simp only [opS] at hv
    split at hv
    case isFalse => cases hv
    rename_i hst
    split at hv
    case h_2 => cases hv
    rename_i n hn
    simp only [Option.some.injEq, Prod.mk.injEq] at hv
    obtain ⟨rfl, rfl⟩ := hv
    have hty : lenTy P t (y.ev F) := by
      cases st
      · simp only [Bool.false_eq_true, if_false] at h2
        obtain ⟨d, hd, h3⟩ := tyDesc_some h2
        have : ∃ e, P.underlying t = some (.slice e) := by cases d <;> simp at h3; exact ⟨_, hd⟩
        cases hy : y.ev F <;> rw [hy] at hst <;> first | exact this | (simp [V.isStr] at hst)
      · simp only [if_true] at h2
        cases hy : y.ev F <;> rw [hy] at hst <;> first | exact tyStr h2 | (simp [V.isStr] at hst)
    obtain ⟨val, k1, k2⟩ := pure_len (P := P) (ty := type) (okOpd_rel hF h1) hn hty
    refine ⟨rfl, val, k1, fun w => ?_⟩
    simp [execOp, resolve, invoke, builtin, k2]
  · -- max
    rename_i args tys mx y z
    simp only [Bool.and_eq_true] at hok
    obtain ⟨rfl, h1⟩ := hok
    cases hargs : args.toList with
    | nil => rw [hargs] at h1; simp [all2] at h1
    | cons x l =>
      cases l with
      | nil => rw [hargs] at h1; simp [all2] at h1
      | cons x' l =>
        cases l with
        | cons => rw [hargs] at h1; simp [all2] at h1
        | nil =>
          rw [hargs] at h1
          simp only [all2, Bool.and_eq_true] at h1
          rw [toList2 hargs]
          simp only [opS] at hv
          split at hv
          case h_2 => cases hv
          rename_i r hr
          simp only [Option.some.injEq, Prod.mk.injEq] at hv
          obtain ⟨rfl, rfl⟩ := hv
          obtain ⟨val, k1, k2⟩ := pure_mm (P := P) (okOpd_rel (a := a) hF h1.1) (okOpd_rel (a := a) hF h1.2.1) hr
          refine ⟨rfl, val, k1, fun w => ?_⟩
          simp only [cond_true] at k2
          simp [execOp, resolve, invoke, builtin, Builtin.max_, k2]
  · -- min
    rename_i args tys mx y z
    simp only [Bool.and_eq_true, Bool.not_eq_true'] at hok
    obtain ⟨rfl, h1⟩ := hok
    cases hargs : args.toList with
    | nil => rw [hargs] at h1; simp [all2] at h1
    | cons x l =>
      cases l with
      | nil => rw [hargs] at h1; simp [all2] at h1
      | cons x' l =>
        cases l with
        | cons => rw [hargs] at h1; simp [all2] at h1
        | nil =>
          rw [hargs] at h1
          simp only [all2, Bool.and_eq_true] at h1
          rw [toList2 hargs]
          simp only [opS] at hv
          split at hv
          case h_2 => cases hv
          rename_i r hr
          simp only [Option.some.injEq, Prod.mk.injEq] at hv
          obtain ⟨rfl, rfl⟩ := hv
          obtain ⟨val, k1, k2⟩ := pure_mm (P := P) (okOpd_rel (a := a) hF h1.1) (okOpd_rel (a := a) hF h1.2.1) hr
          refine ⟨rfl, val, k1, fun w => ?_⟩
          simp only [cond_false] at k2
          simp [execOp, resolve, invoke, builtin, Builtin.min_, k2]
  · cases hok

end Go.VS
