/-
  Part 34 of 43 of the proof of SubcorpusSetsSaid, by an abstract machine that stands in for the Go program: lemmas without conditions of their own.
-/
import Derived.Test.YtclfgmlnechmkaaGreatP33
set_option linter.unusedSimpArgs false
set_option linter.unusedVariables false
namespace Go.VS

variable {P : Program} {σ : Nat → Nat} {g g' : G} {s s' : St} {w w' : World}

def ArgsRel (σ : Nat → Nat) (g : G) (vs : Array Value) (xs : List V) : Prop := vs.size = xs.length ∧ ∀ (i : Nat) v x, vs[i]? = some v → xs[i]? = some x → VRel σ g v x

/-- A call that ends well, as the model sees it. -/
def Enters (P : Program) (f : Nat) : Prop := ∃ gf c, P.funcs[f]? = some gf ∧ gf.body = some c ∧ (gf.name == "runtime.NumGoroutine") = false

def CallSound (P : Program) (σ : Nat → Nat) (f : Nat) (args : List V) (s : St) (K : V → St → Prop) : Prop :=
  Enters P (σ f) ∧ ∀ g w vargs, Sim σ g s w → ArgsRel σ g vargs args → Calls P (σ f) vargs w fun e w' => ∃ val v s' g', e = .returned val ∧ K v s' ∧ VRel σ g' val v ∧ Keep g w g' w' ∧ Sim σ g' s' w'

/-- The operations of a region, in the abstract machine's order; calls by what the model says of them. -/
def SOps (P : Program) (σ : Nat → Nat) : List Lo → Frame → St → (Frame → St → Prop) → Prop
  | [], F, s, K => K F s
  | l :: r, F, s, K =>
    if l.wanted F then
      match l.op with
      | .call f args => ∃ id fi ca R, f.ev F = .fn id fi ca ∧ CallSound P σ id (fi ++ args.map (Opd.ev F) ++ ca) s R ∧
          ∀ v s', R v s' → (∀ k ∈ l.chk, k.ok F s s') ∧ SOps P σ r (F.putO l.d v) s' K
      | .frz t => l.d = none ∧ ∃ v s', freezeV (F t) s = some (v, s') ∧ SOps P σ r (F.put t v) s' K
      | .frzc a d => l.d = none ∧ ∃ s', frzcV (a.ev F) d s = some s' ∧ SOps P σ r F s' K
      | op => ∃ v s', opS op F s = some (v, s') ∧ (∀ k ∈ l.chk, k.ok F s s') ∧ SOps P σ r (F.putO l.d v) s' K
    else SOps P σ r (F.putO l.d V.undef) s K

/-- What holds at the end of a piece of code. -/
def Res (σ : Nat → Nat) (n : Nat) (g : G) (w : World) (K : Frame → St → Prop) (a' : Act) (w' : World) : Prop :=
  ∃ F' s' g', K F' s' ∧ FRel σ g' a'.tmps F' ∧ a'.tmps.size = n ∧ a'.defers = [] ∧ Keep g w g' w' ∧ Sim σ g' s' w'

theorem Res.from {n : Nat} {K : Frame → St → Prop} {a' : Act} {g1 : G} {w1 : World} (h : Res σ n g1 w1 K a' w') (k : Keep g w g1 w1) : Res σ n g w K a' w' := by
  obtain ⟨F', s', g', h1, h2, h3, h4, h5, h6⟩ := h
  exact ⟨F', s', g', h1, h2, h3, h4, k.trans h5, h6⟩

theorem Res.mono {n : Nat} {K K' : Frame → St → Prop} {a' : Act} (h : Res σ n g w K a' w') (k : ∀ F s, K F s → K' F s) : Res σ n g w K' a' w' := by
  obtain ⟨F', s', g', h1, h2⟩ := h
  exact ⟨F', s', g', k _ _ h1, h2⟩

def ResE (σ : Nat → Nat) (n : Nat) (g : G) (w : World) (Q : Post) : Go.Exit → Act → World → Prop
  | .normal, a', w' => Res σ n g w (Q .normal) a' w'
  | .ret, a', w' => Res σ n g w (Q .ret) a' w'
  | .exit i, a', w' => Res σ n g w (Q (.exit i)) a' w'
  | _, _, _ => False

theorem ResE.mono {n : Nat} {Q Q' : Post} {e : Go.Exit} {a' : Act} (h : ResE σ n g w Q e a' w') (k : ∀ e F s, Q e F s → Q' e F s) : ResE σ n g w Q' e a' w' := by
  cases e <;> first | exact Res.mono h (k _) | exact h.elim
theorem ResE.from {n : Nat} {Q : Post} {e : Go.Exit} {a' : Act} {g1 : G} {w1 : World} (h : ResE σ n g1 w1 Q e a' w') (k : Keep g w g1 w1) : ResE σ n g w Q e a' w' := by
  cases e <;> first | exact Res.from h k | exact h.elim

/-! ### one operation of a region -/

/-- The guard's slot. -/
def okGuard (n : Nat) (ops : Array Oper) : Option (Nat × Bool) → Option (Nat × Bool) → Bool
  | none, none => true
  | some (j, b), some (t, c) => (match (ops[j]?).bind (·.dst) with | some d => Nat.beq d t && Nat.blt t n | none => false) && (b == c)
  | _, _ => false

def okDst (n : Nat) : Option Nat → Option Nat → Bool
  | none, none => true
  | some d, some d' => Nat.beq d d' && Nat.blt d n
  | _, _ => false

def VOp.isFail : VOp → Bool
  | .mv .. => false
  | .pick .. => false
  | .alloc .. => false
  | .box .. => false
  | .build .. => false
  | .mksl .. => false
  | .mkrow .. => false
  | .load .. => false
  | .store .. => false
  | .nilck .. => false
  | .bin .. => false
  | .eq .. => false
  | .un .. => false
  | .conv .. => false
  | .mkfn .. => false
  | .mkifc .. => false
  | .slice .. => false
  | .fld .. => false
  | .getf .. => false
  | .idx .. => false
  | .idxa .. => false
  | .idxs .. => false
  | .idxv .. => false
  | .ext .. => false
  | .len .. => false
  | .append .. => false
  | .copy .. => false
  | .clear .. => false
  | .mm .. => false
  | .frz .. => false
  | .frzc .. => false
  | .cap .. => false
  | .appn .. => false
  | .rng .. => false
  | .nxt .. => false
  | .fail .. => true
  | .call .. => false
def notSel : Op → Bool
  | .select .. => false
  | _ => true

def okOp (P : Program) (σ : Nat → Nat) : Op → VOp → Bool
  | .call ⟨.value f, args, _⟩, .call f' args' => okOpd σ f f' && all2 (okOpd σ) args.toList args'
  | op, vo => (vo.isFail && notSel op) || (okPure P σ op vo || okMem P σ op vo)

def okLo (P : Program) (σ : Nat → Nat) (n : Nat) (ops : Array Oper) (o : Oper) (l : Lo) : Bool := okDst n o.dst l.d && okGuard n ops o.guard l.gd && okOp P σ o.op l.op

theorem FRel.put {n : Nat} {a : Act} {F : Frame} {d d' : Option Nat} {v : Value} {x : V} (h : FRel σ g a.tmps F) (hs : a.tmps.size = n) (hd : okDst n d d' = true) (hv : VRel σ g v x) :
    FRel σ g (a.put d v).tmps (F.putO d' x) ∧ (a.put d v).tmps.size = n ∧ (a.put d v).defers = a.defers := by
  cases d <;> cases d' <;> simp only [okDst, Bool.false_eq_true] at hd
  · exact ⟨h, hs, rfl⟩
  · rename_i d d'
    simp only [Bool.and_eq_true, Nat.beq_eq] at hd
    obtain ⟨rfl, hlt⟩ := hd
    have hlt' : d < n := by simpa [Nat.blt_eq] using hlt
    refine ⟨fun i => ?_, by simp [Act.put, hs], rfl⟩
    simp only [Act.put, Frame.putO, Frame.put]
    by_cases e : i = d
    · subst e
      have : (a.tmps.setIfInBounds i v).getD i Go.undef = v := by
        simp [Array.getD_eq_getD_getElem?, hs, hlt']
      rw [this]
      simpa using hv
    · have : (a.tmps.setIfInBounds d v).getD i Go.undef = a.tmps.getD i Go.undef := by
        simp [Array.getD_eq_getD_getElem?, Array.getElem?_setIfInBounds_ne (Ne.symm e)]
      rw [this, beqf e]
      exact h i

theorem wanted_rel {n : Nat} {a : Act} {F : Frame} {ops : Array Oper} {o : Oper} {l : Lo} (h : FRel σ g a.tmps F) (hs : a.tmps.size = n) (hg : okGuard n ops o.guard l.gd = true) : Region.wanted o (yielded ops a.tmps) = l.wanted F := by
  unfold Region.wanted Lo.wanted
  cases ho : o.guard with
  | none =>
    cases hl : l.gd with
    | none => rfl
    | some p => rw [ho, hl] at hg; simp [okGuard] at hg
  | some p =>
    obtain ⟨j, b⟩ := p
    cases hl : l.gd with
    | none => rw [ho, hl] at hg; simp [okGuard] at hg
    | some q =>
      obtain ⟨t, c⟩ := q
      rw [ho, hl] at hg
      simp only [okGuard, Bool.and_eq_true, beq_iff_eq] at hg
      obtain ⟨h1, rfl⟩ := hg
      split at h1
      case h_2 => cases h1
      rename_i d hd
      simp only [Bool.and_eq_true, Nat.beq_eq] at h1
      obtain ⟨rfl, hlt⟩ := h1
      have hlt2 : d < a.tmps.size := by rw [hs]; simpa [Nat.blt_eq] using hlt
      have hg : a.tmps[d]? = some (a.tmps.getD d Go.undef) := by
        rw [Array.getD_eq_getD_getElem?, Array.getElem?_eq_getElem hlt2]; rfl
      have hr := h d
      simp only [yielded, hd, Option.bind_some, hg]
      generalize a.tmps.getD d Go.undef = u at hr
      generalize F d = x at hr
      cases hr <;> simp

theorem args_rel {xs : List Operand} {ys : List Opd} {a : Act} {F : Frame} (hF : FRel σ g a.tmps F) (h : all2 (okOpd σ) xs ys = true) : ArgsRel σ g (xs.map a.eval).toArray (ys.map (Opd.ev F)) := by
  obtain ⟨h1, h2⟩ := okOpds_rel (a := a) hF h
  exact ⟨by simpa using h1, fun i v x a1 a2 => h2 i v x (by simpa using a1) a2⟩

theorem ArgsRel.append {vs us : Array Value} {xs ys : List V} (h : ArgsRel σ g vs xs) (k : ArgsRel σ g us ys) : ArgsRel σ g (vs ++ us) (xs ++ ys) := by
  refine ⟨by simp [h.1, k.1], fun i v x a b => ?_⟩
  by_cases hi : i < vs.size
  · rw [Array.getElem?_append_left hi] at a
    rw [List.getElem?_append_left (by rw [← h.1]; exact hi)] at b
    exact h.2 i v x a b
  · rw [Array.getElem?_append_right (by omega)] at a
    rw [List.getElem?_append_right (by rw [← h.1]; omega), ← h.1] at b
    exact k.2 _ v x a b

/-- The state behind an operation. -/
def After (P : Program) (σ : Nat → Nat) (n : Nat) (g : G) (w : World) (r : List Lo) (K : Frame → St → Prop) (a' : Act) (w' : World) : Prop :=
  ∃ F' s' g', SOps P σ r F' s' K ∧ FRel σ g' a'.tmps F' ∧ a'.tmps.size = n ∧ a'.defers = [] ∧ Keep g w g' w' ∧ Sim σ g' s' w'

theorem call_wp {n : Nat} {o : Oper} {l : Lo} {a : Act} {F : Frame} {r : List Lo} {K : Frame → St → Prop} {Q : Go.Exit → Act → World → Prop} {next : Act → World → Prop} {f' : Opd} {args' : List Opd}
    {f : Operand} {args : Array Operand} {tys : Array TypeId} (ho : o.op = .call ⟨.value f, args, tys⟩) (hl : l.op = .call f' args') (h1 : okOpd σ f f' = true) (h2 : all2 (okOpd σ) args.toList args' = true)
    (hd : okDst n o.dst l.d = true) (hF : FRel σ g a.tmps F) (hs : a.tmps.size = n) (hdf : a.defers = []) (hsim : Sim σ g s w) (hw : l.wanted F = true) (hS : SOps P σ (l :: r) F s K)
    (hnext : ∀ a' w', After P σ n g w r K a' w' → next a' w') : o.wp P a w next Q := by
  simp only [SOps, hw, if_true, hl] at hS
  obtain ⟨id, fi, ca, R, hf, ⟨⟨gf, gc, hgf, hgc, hname⟩, hcall⟩, hr⟩ := hS
  have hfr := okOpd_rel hF h1
  rw [hf] at hfr
  generalize hfv : a.eval f = fv at hfr
  cases hfr with
  | fn hl1 hl2 hr1 hr2 =>
    rename_i fs cs
    have hargs : ArgsRel σ g (fs ++ args.map a.eval ++ cs) (fi ++ args'.map (Opd.ev F) ++ ca) := by
      have := args_rel (a := a) hF h2
      have e : (args.toList.map a.eval).toArray = args.map a.eval := by apply Array.ext'; simp
      rw [e] at this
      exact (ArgsRel.append ⟨hl1, hr1⟩ this).append ⟨hl2, hr2⟩
    have hrun : (execOp a.eval o).run P w = .ok (.enter (σ id) (fs ++ args.map a.eval ++ cs)) w := by
      have hname' : ¬ (gf.name = "runtime.NumGoroutine") := by simpa using hname
      simp [execOp, ho, resolve, hfv, Deferred.ofValue, invoke, callFunc, hgf, hgc, hname']
    unfold Oper.wp
    rw [hrun, Oper.upon_enter]
    refine (hcall g w _ hsim hargs).mono fun e w' he => ?_
    obtain ⟨val, v, s', g', rfl, hK, hv, hk, hsim'⟩ := he
    obtain ⟨_, hS'⟩ := hr v s' hK
    refine hnext _ _ ⟨_, s', g', hS', ?_⟩
    obtain ⟨p1, p2, p3⟩ := (hF.mono hk.le).put hs hd hv
    exact ⟨p1, p2, p3.trans hdf, hk, hsim'⟩

theorem simple_wp {n : Nat} {o : Oper} {l : Lo} {a : Act} {F : Frame} {r : List Lo} {K : Frame → St → Prop} {Q : Go.Exit → Act → World → Prop} {next : Act → World → Prop}
    (hok : okPure P σ o.op l.op = true ∨ okMem P σ o.op l.op = true) (hd : okDst n o.dst l.d = true) (hF : FRel σ g a.tmps F) (hs : a.tmps.size = n) (hdf : a.defers = []) (hsim : Sim σ g s w)
    {v : V} (hv : opS l.op F s = some (v, s')) (hS : SOps P σ r (F.putO l.d v) s' K) (hnext : ∀ a' w', After P σ n g w r K a' w' → next a' w') : o.wp P a w next Q := by
  rcases hok with hok | hok
  · obtain ⟨rfl, val, hrel, hrun⟩ := pure_sound (P := P) (a := a) hok hF hv
    unfold Oper.wp
    rw [hrun w, Oper.upon_value]
    obtain ⟨p1, p2, p3⟩ := hF.put hs hd hrel
    exact hnext _ _ ⟨_, s', g, hS, p1, p2, p3.trans hdf, Keep.refl _ _, hsim⟩
  · obtain ⟨val, w', g', hrun, hrel, hk, hsim'⟩ := mem_sound (P := P) (a := a) hok hF hsim hv
    obtain ⟨p1, p2, p3⟩ := (hF.mono hk.le).put hs hd hrel
    unfold Oper.wp
    rcases hrun with hrun | ⟨hrun, rfl⟩
    · rw [hrun, Oper.upon_value]
      exact hnext _ _ ⟨_, s', g', hS, p1, p2, p3.trans hdf, hk, hsim'⟩
    · rw [hrun, Oper.upon_skip]
      exact hnext _ _ ⟨_, s', g', hS, p1, p2, p3.trans hdf, hk, hsim'⟩

theorem okOp_cases {op : Op} {vo : VOp} (h : okOp P σ op vo = true) :
    (∃ f args tys f' args', op = .call ⟨.value f, args, tys⟩ ∧ vo = .call f' args' ∧ okOpd σ f f' = true ∧ all2 (okOpd σ) args.toList args' = true) ∨
    (vo = .fail ∧ notSel op = true) ∨ ((okPure P σ op vo = true ∨ okMem P σ op vo = true) ∧ (∀ f args, vo ≠ .call f args) ∧ (∀ t, vo ≠ .frz t) ∧ (∀ t d, vo ≠ .frzc t d)) := by
  unfold okOp at h
  split at h
  · simp only [Bool.and_eq_true] at h
    exact .inl ⟨_, _, _, _, _, rfl, rfl, h.1, h.2⟩
  · simp only [Bool.or_eq_true, Bool.and_eq_true] at h
    rcases h with ⟨h, h'⟩ | h
    · exact .inr (.inl ⟨(by cases vo <;> first | rfl | cases h), h'⟩)
    refine .inr (.inr ⟨h, fun f args e => ?_, fun t e => ?_, fun t d e => ?_⟩)
    · subst e
      rcases h with h | h
      · unfold okPure at h; split at h <;> simp_all
      · unfold okMem at h; split at h <;> simp_all
    · subst e
      rcases h with h | h
      · unfold okPure at h; split at h <;> simp_all
      · unfold okMem at h; split at h <;> simp_all
    · subst e
      rcases h with h | h
      · unfold okPure at h; split at h <;> simp_all
      · unfold okMem at h; split at h <;> simp_all

/-! ### regions in the order of the text -/

/-- It is a slot of the frame. -/
def isTmp : Opd → Bool
  | .t _ => true
  | .c _ => false

theorem isTmp_rel {a : Opd} {tmps : Array Value} {F : Frame} (hF : FRel σ g tmps F) (h : isTmp a = true) : ∃ v, VRel σ g v (a.ev F) := by
  cases a with
  | t n => exact ⟨_, hF n⟩
  | c => cases h

def okOps (P : Program) (σ : Nat → Nat) (n : Nat) (all : Array Oper) : List Lo → List Oper → Bool
  | [], os => os.isEmpty
  | l :: ls, os =>
    match l.op with
    | .frz t => l.d.isNone && l.gd.isNone && Nat.blt t n && okOps P σ n all ls os
    | .frzc a _ => l.d.isNone && l.gd.isNone && isTmp a && okOps P σ n all ls os
    | _ => match os with
      | o :: os => okLo P σ n all o l && okOps P σ n all ls os
      | [] => false

theorem seq_sound {n : Nat} {all : Array Oper} {Q : Go.Exit → Act → World → Prop} : ∀ (ls : List Lo) (os : List Oper) (a : Act) (w : World) (g : G) (F : Frame) (s : St) (K : Frame → St → Prop), okOps P σ n all ls os = true →
    SOps P σ ls F s K → FRel σ g a.tmps F → a.tmps.size = n → a.defers = [] → Sim σ g s w → (∀ a' w', Res σ n g w K a' w' → Q .normal a' w') → wpList P all Q os a w
  | [], os, a, w, g, F, s, K, hok, hS, hF, hs, hdf, hsim, hQ => by
    cases os with
    | nil => exact wpList_nil (hQ a w ⟨F, s, g, hS, hF, hs, hdf, Keep.refl _ _, hsim⟩)
    | cons => simp [okOps] at hok
  | l :: ls, os, a, w, g, F, s, K, hok, hS, hF, hs, hdf, hsim, hQ => by
    rw [okOps.eq_def] at hok
    dsimp only at hok
    split at hok
    · -- a ghost
      rename_i t hlo
      simp only [Bool.and_eq_true, Option.isNone_iff_eq_none] at hok
      obtain ⟨⟨⟨hd, hg⟩, _⟩, hrest⟩ := hok
      have hw : l.wanted F = true := by simp [Lo.wanted, hg]
      simp only [SOps, hw, if_true, hlo] at hS
      obtain ⟨_, v, s', hf, hS'⟩ := hS
      obtain ⟨g', h1, h2, h3⟩ := freeze_ok hsim (hF t) hf
      refine seq_sound ls os a w g' (F.put t v) s' K hrest hS' (fun i => ?_) hs hdf h3 (fun a' w' hr => hQ a' w' (hr.from h2))
      simp only [Frame.put]
      by_cases e : i = t
      · subst e; simpa using h1
      · rw [beqf e]; exact (hF.mono h2.le) i
    · -- a ghost over a cell
      rename_i c cd hlo
      simp only [Bool.and_eq_true, Option.isNone_iff_eq_none] at hok
      obtain ⟨⟨⟨hd, hg⟩, ht⟩, hrest⟩ := hok
      have hw : l.wanted F = true := by simp [Lo.wanted, hg]
      simp only [SOps, hw, if_true, hlo] at hS
      obtain ⟨_, s', hf, hS'⟩ := hS
      obtain ⟨v, hv⟩ := isTmp_rel hF ht
      obtain ⟨g', h2, h3⟩ := frzc_ok hsim hv hf
      exact seq_sound ls os a w g' F s' K hrest hS' (hF.mono h2.le) hs hdf h3 (fun a' w' hr => hQ a' w' (hr.from h2))
    · rename_i hnf hnfc
      cases os with
      | nil => cases hok
      | cons o os =>
      simp only [Bool.and_eq_true, okLo] at hok
      obtain ⟨⟨⟨hd, hg⟩, hop⟩, hrest⟩ := hok
      have hwr := wanted_rel (σ := σ) (g := g) (l := l) hF hs hg
      have key : ∀ next : Act → World → Prop, (∀ a' w', After P σ n g w ls K a' w' → next a' w') → l.wanted F = true → o.wp P a w next Q := by
        intro next hnext hw
        rcases okOp_cases hop with ⟨f, args, tys, f', args', e1, e2, h1, h2⟩ | ⟨hfl, _⟩ | ⟨hpm, hnc, hnfz, hnfzc⟩
        · exact call_wp e1 e2 h1 h2 hd hF hs hdf hsim hw hS hnext
        · simp only [SOps, hw, if_true, hfl] at hS
          obtain ⟨v, s', h1, _⟩ := hS
          cases h1
        · have : ∃ v s', opS l.op F s = some (v, s') ∧ SOps P σ ls (F.putO l.d v) s' K := by
            simp only [SOps, hw, if_true] at hS
            obtain ⟨v, s', h1, _, h2⟩ := hS
            exact ⟨v, s', h1, h2⟩
          obtain ⟨v, s', hv, hS'⟩ := this
          exact simple_wp hpm hd hF hs hdf hsim hv hS' hnext
      refine wpList_step fun K' hK' => ?_
      rw [hwr]
      by_cases hw : l.wanted F = true
      · rw [if_pos hw]
        refine key K' (fun a' w' ⟨F', s', g', k1, k2, k3, k4, k5, k6⟩ => hK' a' w' ?_) hw
        exact seq_sound ls os a' w' g' F' s' K hrest k1 k2 k3 k4 k6 (fun a'' w'' hr => hQ a'' w'' (hr.from k5))
      · rw [if_neg hw]
        refine hK' _ _ ?_
        simp only [SOps, hw, if_false] at hS
        obtain ⟨p1, p2, p3⟩ := hF.put hs hd (VRel.undef σ g)
        exact seq_sound ls os _ w g _ s K hrest (by simpa using hS) p1 p2 (p3.trans hdf) hsim hQ

end Go.VS
