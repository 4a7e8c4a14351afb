/-
  Part 33 of 43 of the proof of SubcorpusSetsSaid, by an abstract machine that stands in for the Go program: lemmas without conditions of their own.
-/
import Derived.Test.YtclfgmlnechmkaaGreatP30
import Derived.Test.YtclfgmlnechmkaaGreatP32
set_option linter.unusedSimpArgs false
set_option linter.unusedVariables false
namespace Go.VS

variable {P : Program} {σ : Nat → Nat} {g g' : G} {s s' : St} {w w' : World}

def appTyB (P : Program) (u : Nat) : Bool := match P.underlying u with | some (.slice _) => true | some .string => true | _ => false

theorem appTyB_ok {u : Nat} (h : appTyB P u = true) : appTy P u := by
  unfold appTyB at h
  split at h
  · rename_i e he; exact .inl ⟨e, he⟩
  · rename_i he; exact .inr he
  · cases h

/-- The operations with memory that are no call. -/
def okMem (P : Program) (σ : Nat → Nat) : Op → VOp → Bool
  | .load t a, .load k ag a' => okOpd σ a a' && tyK P t k ag
  | .store t a x, .store k a' x' => okOpd σ a a' && okOpd σ x x' && tyInfo P t (fun i => Nat.beq i.size k)
  | .alloc t, .alloc z => tyZero P t z
  | .box _ x, .box y => okOpd σ x y
  | .buildSlice t n ps, .mksl _ k z m qs => tyElem P t k z none && Nat.beq n m && Nat.ble (n * k) 16777216 && okPartsL σ ps.toList qs
  | .makeSlice t l c, .mkrow _ k by_ z l' c' => tyElem P t k z (some by_) && okOpd σ l l' && okOpd σ c c'
  | .slice t x lo hi (some m), .slice st k y lo' hi' (some m') => !st && okOpd σ x y && okOpt σ lo lo' && okOpt σ hi hi' && okOpd σ m m' && hi'.isSome && tySl P t k
  | .call ⟨.builtin .append, args, tys⟩, .append _ k by_ y z =>
    (match tys.toList with
      | [t, u] => all2 (okOpd σ) args.toList [y, z] && appTyB P u && (match P.underlying t with | some (.slice e) => tyInfo P e (fun i => Nat.beq i.size k && Nat.beq i.bytes by_ && (match i.zero with | some zv => Nat.beq zv.cells.size k | none => false)) | _ => false)
      | _ => false)
  | .call ⟨.builtin .copy, args, tys⟩, .copy k y z =>
    (match tys.toList with
      | [t, _] => all2 (okOpd σ) args.toList [y, z] && tySl P t k
      | _ => false)
  | .call ⟨.builtin .clear, args, tys⟩, .clear k z y =>
    (match tys.toList with
      | [t] => all2 (okOpd σ) args.toList [y] && tyElem P t k z none
      | _ => false)
  | .call ⟨.builtin .append, args, tys⟩, .appn k by_ y z =>
    (match tys.toList with
      | [t, u] => all2 (okOpd σ) args.toList [y, z] && tyDesc P u (fun d => match d with | .int _ => true | _ => false) && (match P.underlying t with | some (.slice e) => tyInfo P e (fun i => Nat.beq i.size k && Nat.beq i.bytes by_ && (match i.zero with | some zv => Nat.beq zv.cells.size k | none => false)) | _ => false)
      | _ => false)
  | .call ⟨.builtin .cap, args, tys⟩, .cap y =>
    (match tys.toList with
      | [t] => all2 (okOpd σ) args.toList [y] && tyDesc P t (fun d => match d with | .slice _ => true | _ => false)
      | _ => false)
  | .convert src dst x, .conv (.s2b _) y => okOpd σ x y && tyDesc P src (fun d => match d with | .string => true | _ => false) && (match P.underlying dst with | some (.slice e) => tyDesc P e (fun d => match d with | .int .u8 => true | _ => false) | _ => false)
  | .range t x, .rng y => okOpd σ x y && tyDesc P t (fun d => match d with | .string => true | _ => false)
  | .next x true, .nxt y => okOpd σ x y
  | _, _ => false

/-- What an operation comes to: a value, or nothing. -/
def OpRes (P : Program) (σ : Nat → Nat) (g : G) (w : World) (o : Oper) (a : Act) (v : V) (s' : St) : Prop :=
  ∃ val w' g', ((execOp a.eval o).run P w = .ok (.value val) w' ∨ ((execOp a.eval o).run P w = .ok .skip w' ∧ val = Go.undef)) ∧ VRel σ g' val v ∧ Keep g w g' w' ∧ Sim σ g' s' w'

theorem OpRes.of {o : Oper} {a : Act} {v : V} {r : Result Value} (h : Good σ g w r v s') (he : (execOp a.eval o).run P w = r.andThen fun x w' => .ok (.value x) w') : OpRes P σ g w o a v s' := by
  obtain ⟨val, w', g', h1, h2, h3, h4⟩ := h
  exact ⟨val, w', g', .inl (by rw [he, h1]; rfl), h2, h3, h4⟩

theorem args2 {args : Array Operand} {y z : Opd} (h : all2 (okOpd σ) args.toList [y, z] = true) : ∃ x x', args = #[x, x'] ∧ okOpd σ x y = true ∧ okOpd σ x' z = true := by
  cases hargs : args.toList with
  | nil => rw [hargs] at h; simp [all2] at h
  | cons x l =>
    cases l with
    | nil => rw [hargs] at h; simp [all2] at h
    | cons x' l =>
      cases l with
      | cons => rw [hargs] at h; simp [all2] at h
      | nil =>
        rw [hargs] at h
        simp only [all2, Bool.and_eq_true] at h
        exact ⟨x, x', toList2 hargs, h.1, h.2.1⟩

theorem args1 {args : Array Operand} {y : Opd} (h : all2 (okOpd σ) args.toList [y] = true) : ∃ x, args = #[x] ∧ okOpd σ x y = true := by
  cases hargs : args.toList with
  | nil => rw [hargs] at h; simp [all2] at h
  | cons x l =>
    cases l with
    | cons => rw [hargs] at h; simp [all2] at h
    | nil =>
      rw [hargs] at h
      simp only [all2, Bool.and_eq_true] at h
      exact ⟨x, toList1 hargs, h.1⟩

theorem mem_sound {o : Oper} {vo : VOp} {a : Act} {F : Frame} {v : V} (hok : okMem P σ o.op vo = true) (hF : FRel σ g a.tmps F) (h : Sim σ g s w) (hv : opS vo F s = some (v, s')) : OpRes P σ g w o a v s' := by
  obtain ⟨dst, op, type, pos, after, guard⟩ := o
  simp only at hok
  unfold okMem at hok
  split at hok
  · -- load
    simp only [Bool.and_eq_true] at hok
    obtain ⟨d, i, hd, hag, hi, hs⟩ := tyK_some hok.2
    simp only [opS] at hv
    split at hv
    case h_2 => cases hv
    rename_i r hr
    simp only [Option.some.injEq, Prod.mk.injEq] at hv
    obtain ⟨rfl, rfl⟩ := hv
    obtain ⟨val, h1, h2⟩ := load_ok (P := P) h (okOpd_rel hF hok.1) hr hd hag hi hs
    exact OpRes.of (r := .ok val w) ⟨val, w, g, rfl, h2, Keep.refl _ _, h⟩ (by rw [← h1]; exact vrun _ w)
  · -- store
    rename_i t ad x k ad' x'
    simp only [Bool.and_eq_true] at hok
    obtain ⟨⟨h1, h2⟩, h3⟩ := hok
    obtain ⟨i, hi, hs⟩ := tyInfo_some h3
    simp only [opS] at hv
    split at hv
    case h_2 => cases hv
    rename_i s1 hr
    simp only [Option.some.injEq, Prod.mk.injEq] at hv
    obtain ⟨rfl, rfl⟩ := hv
    obtain ⟨w', k1, k2, k3⟩ := store_ok (P := P) h (okOpd_rel hF h1) (okOpd_rel hF h2) hr hi (by simpa using hs)
    exact ⟨Go.undef, w', g, .inr ⟨by simp [execOp, k1], rfl⟩, VRel.undef _ _, k2, k3⟩
  · -- alloc
    obtain ⟨i, zv, hi, hz, hr⟩ := tyZero_some hok
    simp only [opS, Option.some.injEq, Prod.mk.injEq] at hv
    obtain ⟨rfl, rfl⟩ := hv
    exact OpRes.of (alloc_ok (P := P) h hi hz hr _) (vrun _ w)
  · -- box
    simp only [opS] at hv
    split at hv
    case isFalse => cases hv
    rename_i hn
    simp only [Option.some.injEq, Prod.mk.injEq] at hv
    obtain ⟨rfl, rfl⟩ := hv
    exact OpRes.of (box_ok (P := P) h (okOpd_rel hF hok) hn) (vrun _ w)
  · -- a slice's literal
    rename_i t n ps mt k z m qs
    simp only [Bool.and_eq_true, Nat.beq_eq, Nat.ble_eq] at hok
    obtain ⟨⟨⟨h1, rfl⟩, h3⟩, h4⟩ := hok
    obtain ⟨e, i, zv, he, hi, hk, hz, hzv, _⟩ := tyElem_some h1
    simp only [opS] at hv
    have hps : (ps.map fun p => (p.1, a.eval p.2)) = (ps.toList.map fun p => (p.1, a.eval p.2)).toArray := by apply Array.ext'; simp
    refine OpRes.of (mksl_ok (P := P) h he hi hk hz hzv h3 (okPartsL_rel hF h4) hv) ?_
    rw [← hps]
    exact vrun _ w
  · -- make
    simp only [Bool.and_eq_true] at hok
    obtain ⟨⟨h1, h2⟩, h3⟩ := hok
    obtain ⟨e, i, zv, he, hi, hk, hz, hzv, hb⟩ := tyElem_some h1
    simp only [opS] at hv
    exact OpRes.of (mkrow_ok (P := P) h he (okOpd_rel hF h2) (okOpd_rel hF h3) hi hk (hb _ rfl) hz hzv hv) (vrun _ w)
  · -- s[a:b:0]
    rename_i t x lo hi m st k y lo' hi' m'
    simp only [Bool.and_eq_true, Bool.not_eq_true'] at hok
    obtain ⟨⟨⟨⟨⟨⟨rfl, h1⟩, h2⟩, h3⟩, h4⟩, h5⟩, h6⟩ := hok
    simp only [opS] at hv
    split at hv
    case isFalse => cases hv
    rename_i hst
    have hty : tyFor P k t (y.ev F) := by
      have := tySl_some h6
      cases hy : y.ev F <;> rw [hy] at hst <;> first | exact this | (simp [V.isStr] at hst)
    have hm : OptRel σ g (some (a.eval m)) (some (m'.ev F)) := okOpd_rel hF h4
    refine OpRes.of (slice0_ok (P := P) h (okOpd_rel hF h1) (okOpt_rel hF h2) (okOpt_rel hF h3) hm (by simp) ?_ hv hty) (vrun _ w)
    cases hi' with
    | none => simp at h5
    | some q => simp
  · -- append
    rename_i args tys mt k by_ y z
    split at hok
    case h_2 => cases hok
    rename_i t u ht
    simp only [Bool.and_eq_true] at hok
    obtain ⟨⟨h1, h2⟩, h3⟩ := hok
    obtain ⟨x, x', rfl, h4, h5⟩ := args2 h1
    rw [toList2 ht]
    split at h3
    case h_2 => cases h3
    rename_i e he
    obtain ⟨i, hi, h6⟩ := tyInfo_some h3
    simp only [Bool.and_eq_true, Nat.beq_eq] at h6
    obtain ⟨⟨hk, hb⟩, h7⟩ := h6
    split at h7
    case h_2 => cases h7
    rename_i zv hz
    simp only [Nat.beq_eq] at h7
    simp only [opS] at hv
    refine OpRes.of (append_ok (P := P) (ty := type) h he (appTyB_ok h2) hi hk hb hz h7 (okOpd_rel hF h4) (okOpd_rel hF h5) hv) ?_
    simp only [execOp, resolve, invoke, builtin, List.map_toArray, List.map_cons, List.map_nil, Sem.run_bind, Sem.run_pure, Result.andThen_ok]
  · -- copy
    rename_i args tys k y z
    split at hok
    case h_2 => cases hok
    rename_i t u ht
    simp only [Bool.and_eq_true] at hok
    obtain ⟨h1, h2⟩ := hok
    obtain ⟨x, x', rfl, h4, h5⟩ := args2 h1
    rw [toList2 ht]
    obtain ⟨e, i, he, hi, hs⟩ := tySl_some h2
    simp only [opS] at hv
    refine OpRes.of (copy_ok (P := P) (u := u) (ty := type) h he hi hs (okOpd_rel hF h4) (okOpd_rel hF h5) hv) ?_
    simp only [execOp, resolve, invoke, builtin, List.map_toArray, List.map_cons, List.map_nil, Sem.run_bind, Sem.run_pure, Result.andThen_ok]
  · -- clear
    rename_i args tys k z y
    split at hok
    case h_2 => cases hok
    rename_i t ht
    simp only [Bool.and_eq_true] at hok
    obtain ⟨h1, h2⟩ := hok
    obtain ⟨x, rfl, h4⟩ := args1 h1
    rw [toList1 ht]
    obtain ⟨e, i, zv, he, hi, hk, hz, hzv, _⟩ := tyElem_some h2
    simp only [opS] at hv
    refine OpRes.of (clear_ok (P := P) (ty := type) h he hi hz hzv (okOpd_rel hF h4) hv) ?_
    simp only [execOp, resolve, invoke, builtin, List.map_toArray, List.map_cons, List.map_nil, Sem.run_bind, Sem.run_pure, Result.andThen_ok]
  · -- append, of a number of zero values
    rename_i args tys k by_ y z
    split at hok
    case h_2 => cases hok
    rename_i t u ht
    simp only [Bool.and_eq_true] at hok
    obtain ⟨⟨h1, h2⟩, h3⟩ := hok
    obtain ⟨x, x', rfl, h4, h5⟩ := args2 h1
    rw [toList2 ht]
    obtain ⟨d, hd, hdk⟩ := tyDesc_some h2
    have hu : ∃ ik, P.underlying u = some (.int ik) := by cases d <;> simp at hdk; exact ⟨_, hd⟩
    obtain ⟨ik, hu⟩ := hu
    split at h3
    case h_2 => cases h3
    rename_i e he
    obtain ⟨i, hi, h6⟩ := tyInfo_some h3
    simp only [Bool.and_eq_true, Nat.beq_eq] at h6
    obtain ⟨⟨hk, hb⟩, h7⟩ := h6
    split at h7
    case h_2 => cases h7
    rename_i zv hz
    simp only [Nat.beq_eq] at h7
    simp only [opS] at hv
    have hx := okOpd_rel hF h4
    have hn := okOpd_rel hF h5
    split at hv
    case h_2 => cases hv
    rename_i m hy1 hy2
    rw [hy1] at hx
    rw [hy2] at hn
    generalize hux : a.eval x = ux at hx
    generalize hun : a.eval x' = un at hn
    cases hx
    cases hn
    split at hv
    case isFalse => cases hv
    rename_i hcond
    simp only [Bool.and_eq_true, decide_eq_true_eq] at hcond
    simp only [Option.some.injEq, Prod.mk.injEq] at hv
    obtain ⟨rfl, rfl⟩ := hv
    have hm : m = ((m.toNat : Nat) : Int) := by omega
    have key := appn_ok (P := P) (m := m.toNat) (ty := type) h he hu hi hk hz h7 (by omega) (by omega) (by rw [hb]; exact hcond.2)
    rw [← hm] at key
    refine OpRes.of key ?_
    simp only [execOp, resolve, invoke, builtin, List.map_toArray, List.map_cons, List.map_nil, Sem.run_bind, Sem.run_pure, Result.andThen_ok, hux, hun]
  · -- cap, of nil
    rename_i args tys y
    split at hok
    case h_2 => cases hok
    rename_i t ht
    simp only [Bool.and_eq_true] at hok
    obtain ⟨h1, h2⟩ := hok
    obtain ⟨x, rfl, h4⟩ := args1 h1
    rw [toList1 ht]
    obtain ⟨d, hd, h3⟩ := tyDesc_some h2
    have hx := okOpd_rel hF h4
    simp only [opS] at hv
    split at hv
    case h_2 => cases hv
    rename_i hy
    simp only [Option.some.injEq, Prod.mk.injEq] at hv
    obtain ⟨rfl, rfl⟩ := hv
    rw [hy] at hx
    generalize hu : a.eval x = u at hx
    cases hx
    have : ∃ e, P.underlying t = some (.slice e) := by cases d <;> simp at h3; exact ⟨_, hd⟩
    obtain ⟨e, he⟩ := this
    refine ⟨.int .i64 0, w, g, .inl ?_, .int .i64 0, Keep.refl _ _, h⟩
    simp only [execOp, resolve, invoke, builtin, List.map_toArray, List.map_cons, List.map_nil, Sem.run_bind, Sem.run_pure, Result.andThen_ok, hu]
    simp [Builtin.cap_, run_underlying he, goInt]
  · -- bytes of a string
    rename_i src dst' x mt y
    simp only [Bool.and_eq_true] at hok
    obtain ⟨⟨h1, h2⟩, h3⟩ := hok
    split at h3
    case h_2 => cases h3
    rename_i e he
    obtain ⟨d, hd, h4⟩ := tyDesc_some h3
    have hd' : P.underlying e = some (.int .u8) := by
      split at h4
      · exact hd
      · cases h4
    simp only [opS] at hv
    exact OpRes.of (s2b_ok (P := P) h (okOpd_rel hF h1) (tyStr h2) he hd' hv) (vrun _ w)
  · -- range over a string
    rename_i t x y
    simp only [Bool.and_eq_true] at hok
    obtain ⟨h1, h2⟩ := hok
    have hx := okOpd_rel hF h1
    simp only [opS] at hv
    split at hv
    case h_2 => cases hv
    rename_i l hy
    rw [hy] at hx
    simp only [Option.some.injEq, Prod.mk.injEq] at hv
    obtain ⟨rfl, rfl⟩ := hv
    exact OpRes.of (rng_ok (P := P) h hx (tyStr h2)) (vrun _ w)
  · -- its next unit
    rename_i x y
    simp only [opS] at hv
    exact OpRes.of (nxt_ok (P := P) (ty := type) h (okOpd_rel hF hok) hv) (vrun _ w)
  · cases hok

end Go.VS
