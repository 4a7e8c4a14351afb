/-
  Part 35 of 43 of the proof of SubcorpusSetsSaid, by an abstract machine that stands in for the Go program: lemmas without conditions of their own.
-/
import Derived.Test.YtclfgmlnechmkaaGreatP34
import Derived.Orders
set_option linter.unusedSimpArgs false
set_option linter.unusedVariables false
namespace Go.VS

variable {P : Program} {σ : Nat → Nat} {g g' : G} {s s' : St} {w w' : World}

/-! ### one operation, read in the frame b, carried out in the frame a -/

theorem op_wp2 {o : Oper} {l : Lo} {a b : Act} {F : Frame} {r : List Lo} {K : Frame → St → Prop} {Q : Go.Exit → Act → World → Prop} {next : Act → World → Prop}
    (hop : okOp P σ o.op l.op = true) (hF : FRel σ g b.tmps F) (hcg : execOp a.eval o = execOp b.eval o) (hsim : Sim σ g s w) (hw : l.wanted F = true) (hS : SOps P σ (l :: r) F s K)
    (hnext : ∀ val v w' g' s', VRel σ g' val v → Keep g w g' w' → Sim σ g' s' w' → SOps P σ r (F.putO l.d v) s' K → (∀ k ∈ l.chk, k.ok F s s') → next (a.put o.dst val) w') : o.wp P a w next Q := by
  rcases okOp_cases hop with ⟨f, args, tys, f', args', ho, hl, h1, h2⟩ | ⟨hfl, _⟩ | ⟨hpm, hnc, hnfz, hnfzc⟩
  · simp only [SOps, hw, if_true, hl] at hS
    obtain ⟨id, fi, ca, R, hf, ⟨⟨gf, gc, hgf, hgc, hname⟩, hcall⟩, hr⟩ := hS
    have hfr := okOpd_rel hF h1
    rw [hf] at hfr
    generalize hfv : b.eval f = fv at hfr
    cases hfr with
    | fn hl1 hl2 hr1 hr2 =>
      rename_i fs cs
      have hargs : ArgsRel σ g (fs ++ args.map b.eval ++ cs) (fi ++ args'.map (Opd.ev F) ++ ca) := by
        have := args_rel (a := b) hF h2
        have e : (args.toList.map b.eval).toArray = args.map b.eval := by apply Array.ext'; simp
        rw [e] at this
        exact (ArgsRel.append ⟨hl1, hr1⟩ this).append ⟨hl2, hr2⟩
      have hname' : ¬ (gf.name = "runtime.NumGoroutine") := by simpa using hname
      have hrun : (execOp b.eval o).run P w = .ok (.enter (σ id) (fs ++ args.map b.eval ++ cs)) w := by
        simp [execOp, ho, resolve, hfv, Deferred.ofValue, invoke, callFunc, hgf, hgc, hname']
      unfold Oper.wp
      rw [hcg, hrun, Oper.upon_enter]
      refine (hcall g w _ hsim hargs).mono fun e w' he => ?_
      obtain ⟨val, v, s', g', rfl, hK, hv, hk, hsim'⟩ := he
      obtain ⟨hc, hS'⟩ := hr v s' hK
      exact hnext _ _ _ _ _ hv hk hsim' hS' hc
  · simp only [SOps, hw, if_true, hfl] at hS
    obtain ⟨v, s', h1, _⟩ := hS
    cases h1
  · have : ∃ v s', opS l.op F s = some (v, s') ∧ (∀ k ∈ l.chk, k.ok F s s') ∧ SOps P σ r (F.putO l.d v) s' K := by
      simp only [SOps, hw, if_true] at hS
      exact hS
    obtain ⟨v, s', hv, hc, hS'⟩ := this
    unfold Oper.wp
    rw [hcg]
    rcases hpm with hok | hok
    · obtain ⟨rfl, val, hrel, hrun⟩ := pure_sound (P := P) (a := b) hok hF hv
      rw [hrun w, Oper.upon_value]
      exact hnext _ _ _ _ _ hrel (Keep.refl _ _) hsim hS' hc
    · obtain ⟨val, w', g', hrun, hrel, hk, hsim'⟩ := mem_sound (P := P) (a := b) hok hF hsim hv
      rcases hrun with hrun | ⟨hrun, rfl⟩
      · rw [hrun, Oper.upon_value]
        exact hnext _ _ _ _ _ hrel hk hsim' hS' hc
      · rw [hrun, Oper.upon_skip]
        exact hnext _ _ _ _ _ hrel hk hsim' hS' hc

/-! ### what an operation reads -/

def Opd.rd : Opd → List Nat
  | .t n => [n]
  | .c _ => []
def optRd : Option Opd → List Nat
  | some x => x.rd
  | none => []

def ConvK.quiet : ConvK → Bool
  | .ii _ => true
  | .ss => true
  | .i2s => false
  | .b2s => false
  | .r2s => false
  | .s2b _ => false
  | .s2r _ => false

/-- It yields one value, whatever the store is. -/
def VOp.quiet : VOp → Bool
  | .mv .. => true
  | .pick .. => true
  | .alloc .. => false
  | .box .. => false
  | .build .. => true
  | .mksl .. => false
  | .mkrow .. => false
  | .load .. => false
  | .store .. => false
  | .nilck .. => true
  | .bin .. => true
  | .eq .. => true
  | .un .. => true
  | .conv c _ => c.quiet
  | .mkfn .. => true
  | .mkifc .. => true
  | .slice _ _ _ _ _ mx => mx.isNone
  | .fld .. => true
  | .getf .. => true
  | .idx .. => true
  | .idxa .. => true
  | .idxs .. => true
  | .idxv .. => true
  | .ext .. => true
  | .len .. => true
  | .append .. => false
  | .copy .. => false
  | .clear .. => false
  | .mm .. => true
  | .frz .. => false
  | .frzc .. => false
  | .cap .. => false
  | .appn .. => false
  | .rng .. => false
  | .nxt .. => false
  | .fail .. => false
  | .call .. => false

def VOp.isLoad : VOp → Bool
  | .mv .. => false
  | .pick .. => false
  | .alloc .. => false
  | .box .. => false
  | .build .. => false
  | .mksl .. => false
  | .mkrow .. => false
  | .load .. => true
  | .store .. => false
  | .nilck .. => false
  | .bin .. => false
  | .eq .. => false
  | .un .. => false
  | .conv .. => false
  | .mkfn .. => false
  | .mkifc .. => false
  | .slice .. => false
  | .fld .. => false
  | .getf .. => false
  | .idx .. => false
  | .idxa .. => false
  | .idxs .. => false
  | .idxv .. => false
  | .ext .. => false
  | .len .. => false
  | .append .. => false
  | .copy .. => false
  | .clear .. => false
  | .mm .. => false
  | .frz .. => false
  | .frzc .. => false
  | .cap .. => false
  | .appn .. => false
  | .rng .. => false
  | .nxt .. => false
  | .fail .. => false
  | .call .. => false


/-- What it reads, if it is quiet or a load. -/
def VOp.rd : VOp → List Nat
  | .mv x | .nilck x | .un _ x | .conv _ x | .mkifc _ x | .fld _ x | .getf _ _ _ x | .ext x _ | .len _ x | .load _ _ x => x.rd
  | .pick c a b => c.rd ++ a.rd ++ b.rd
  | .build _ ps => ps.flatMap fun p => p.2.2.rd
  | .bin _ x y | .eq _ _ x y | .idx _ x y | .idxa _ _ x y | .idxs x y | .idxv _ _ _ x y | .mm _ x y => x.rd ++ y.rd
  | .mkfn _ a b => a.flatMap Opd.rd ++ b.flatMap Opd.rd
  | .slice _ _ x lo hi _ => x.rd ++ optRd lo ++ optRd hi
  | _ => []

def Lo.rd (l : Lo) : List Nat := l.op.rd ++ (match l.gd with | some (t, _) => [t] | none => [])

theorem Opd.ev_congr {x : Opd} {F F' : Frame} (h : ∀ t ∈ x.rd, F t = F' t) : x.ev F = x.ev F' := by
  cases x with
  | t n => exact h n (by simp [Opd.rd])
  | c v => rfl
theorem optRd_congr {x : Option Opd} {F F' : Frame} (h : ∀ t ∈ optRd x, F t = F' t) : x.map (Opd.ev F) = x.map (Opd.ev F') := by
  cases x with
  | none => rfl
  | some x => exact congrArg some (Opd.ev_congr h)
theorem opds_congr {xs : List Opd} {F F' : Frame} (h : ∀ t ∈ xs.flatMap Opd.rd, F t = F' t) : xs.map (Opd.ev F) = xs.map (Opd.ev F') :=
  List.map_congr_left fun x hx => Opd.ev_congr fun t ht => h t (List.mem_flatMap.2 ⟨x, hx, ht⟩)

theorem quiet_still {op : VOp} {F : Frame} {v : V} (hq : op.quiet = true) (h : opS op F s = some (v, s')) : s' = s ∧ ∀ s2, opS op F s2 = some (v, s2) := by
  cases op <;> simp only [VOp.quiet, Bool.false_eq_true] at hq
  case conv c x =>
    simp only [opS] at h ⊢
    cases c <;> simp only [ConvK.quiet, Bool.false_eq_true] at hq <;> cases hx : x.ev F <;> rw [hx] at h <;> simp only [convV, Option.some.injEq, Prod.mk.injEq, reduceCtorEq] at h <;>
      obtain ⟨rfl, rfl⟩ := h <;> exact ⟨rfl, fun _ => rfl⟩
  case slice st k x lo hi mx =>
    cases mx with
    | some => simp at hq
    | none =>
      simp only [opS, Option.map_none] at h ⊢
      split at h
      case isFalse => cases h
      rename_i h0
      have key : s' = s ∧ ∀ s2, sliceV k (x.ev F) (lo.map (Opd.ev F)) (hi.map (Opd.ev F)) none s2 = some (v, s2) := by
        dsimp only [sliceV] at h ⊢
        (repeat' split at h) <;> first | (cases h; done) | (simp only [Option.some.injEq, Prod.mk.injEq] at h; obtain ⟨rfl, rfl⟩ := h; exact ⟨rfl, fun _ => by simp_all⟩)
      exact ⟨key.1, fun s2 => by rw [if_pos h0]; exact key.2 s2⟩
  all_goals
    simp only [opS] at h ⊢
    first
    | (simp only [Option.some.injEq, Prod.mk.injEq] at h; obtain ⟨rfl, rfl⟩ := h; exact ⟨rfl, fun _ => rfl⟩)
    | (repeat' split at h) <;> first | (cases h; done) | (simp only [Option.some.injEq, Prod.mk.injEq] at h; obtain ⟨rfl, rfl⟩ := h; exact ⟨rfl, fun _ => by simp only [*, if_true]⟩) | (simp only [Option.some.injEq, Prod.mk.injEq] at h; obtain ⟨rfl, rfl⟩ := h; exact ⟨rfl, fun _ => by simp [*]⟩)

theorem opS_congr {op : VOp} {F F' : Frame} (hq : op.quiet = true ∨ op.isLoad = true) (h : ∀ t ∈ op.rd, F t = F' t) : opS op F s = opS op F' s := by
  cases op <;> simp only [VOp.quiet, VOp.isLoad, Bool.false_eq_true, or_self] at hq <;> simp only [VOp.rd, List.mem_append, or_imp, forall_and] at h
  case build z ps =>
    simp only [opS]
    have : ps.map (fun p => (p.1, p.2.1, p.2.2.ev F)) = ps.map (fun p => (p.1, p.2.1, p.2.2.ev F')) :=
      List.map_congr_left fun p hp => by rw [Opd.ev_congr fun t ht => h t (List.mem_flatMap.2 ⟨p, hp, ht⟩)]
    rw [this]
  case mkfn f a b => simp only [opS, opds_congr h.1, opds_congr h.2]
  case slice st k x lo hi mx =>
    cases mx with
    | some => simp at hq
    | none => simp only [opS, Opd.ev_congr h.1.1, optRd_congr h.1.2, optRd_congr h.2, Option.map_none]
  case pick c a b => simp only [opS, Opd.ev_congr h.1.1, Opd.ev_congr h.1.2, Opd.ev_congr h.2]
  case bin => simp only [opS, Opd.ev_congr h.1, Opd.ev_congr h.2]
  case eq => simp only [opS, Opd.ev_congr h.1, Opd.ev_congr h.2]
  case idx => simp only [opS, Opd.ev_congr h.1, Opd.ev_congr h.2]
  case idxa => simp only [opS, Opd.ev_congr h.1, Opd.ev_congr h.2]
  case idxs => simp only [opS, Opd.ev_congr h.1, Opd.ev_congr h.2]
  case idxv => simp only [opS, Opd.ev_congr h.1, Opd.ev_congr h.2]
  case mm => simp only [opS, Opd.ev_congr h.1, Opd.ev_congr h.2]
  all_goals simp only [opS, Opd.ev_congr h]

theorem okMem_loud {op : Op} {vo : VOp} (h : okMem P σ op vo = true) : vo.quiet = false := by
  unfold okMem at h
  split at h <;> first | rfl | cases h

theorem load_sound {o : Oper} {k : Nat} {ag : Bool} {x : Opd} {a : Act} {F : Frame} {v : V} (hok : okOp P σ o.op (.load k ag x) = true) (hF : FRel σ g a.tmps F) (h : Sim σ g s w)
    (hv : opS (.load k ag x) F s = some (v, s')) : s' = s ∧ ∃ val, VRel σ g val v ∧ (execOp a.eval o).run P w = .ok (.value val) w := by
  obtain ⟨dst, op, type, pos, after, guard⟩ := o
  simp only [opS] at hv
  split at hv
  case h_2 => cases hv
  rename_i u hu
  simp only [Option.some.injEq, Prod.mk.injEq] at hv
  obtain ⟨rfl, rfl⟩ := hv
  have hok : ∃ t y, op = .load t y ∧ okOpd σ y x = true ∧ tyK P t k ag = true := by
    cases op <;> simp [okOp, okPure, okMem, VOp.isFail] at hok
    exact ⟨_, _, rfl, hok.1, hok.2⟩
  obtain ⟨t, y, rfl, hox⟩ := hok
  obtain ⟨d, i, hd, hag, hi, hs⟩ := tyK_some hox.2
  obtain ⟨val, h1, h2⟩ := load_ok (P := P) h (okOpd_rel hF hox.1) hu hd hag hi hs
  refine ⟨rfl, val, h2, ?_⟩
  simp [execOp, h1]

/-- Quiet, or a load: it yields a value and leaves the world alone. -/
theorem virt_sound {o : Oper} {op : VOp} {a : Act} {F : Frame} {v : V} (hq : op.quiet = true ∨ op.isLoad = true) (hok : okOp P σ o.op op = true) (hF : FRel σ g a.tmps F) (h : Sim σ g s w)
    (hv : opS op F s = some (v, s')) : s' = s ∧ ∃ val, VRel σ g val v ∧ (execOp a.eval o).run P w = .ok (.value val) w := by
  rcases hq with hq | hq
  · rcases okOp_cases hok with ⟨f, args, tys, f', args', ho, hl, h1, h2⟩ | ⟨hfl, _⟩ | ⟨hpm | hpm, hnc, hnfz, hnfzc⟩
    · subst hl; simp [VOp.quiet] at hq
    · subst hfl; simp [VOp.quiet] at hq
    · obtain ⟨h1, val, h2, h3⟩ := pure_sound (P := P) (a := a) hpm hF hv
      exact ⟨h1, val, h2, h3 w⟩
    · rw [okMem_loud hpm] at hq; cases hq
  · cases op <;> simp only [VOp.isLoad, Bool.false_eq_true] at hq
    exact load_sound hok hF h hv

theorem okOp_noSelect {op : Op} {vo : VOp} (h : okOp P σ op vo = true) (cs : Array SelectCase) (b : Bool) : op ≠ .select cs b := by
  rintro rfl
  unfold okOp at h
  split at h
  case h_1 => rename_i e; cases e
  simp [okPure, okMem, notSel] at h

end Go.VS
