/-
  Part 36 of 43 of the proof of SubcorpusSetsSaid, by an abstract machine that stands in for the Go program: lemmas without conditions of their own.
-/
import Derived.Test.YtclfgmlnechmkaaGreatP35
set_option linter.unusedSimpArgs false
set_option linter.unusedVariables false
namespace Go.VS

variable {P : Program} {σ : Nat → Nat} {g g' : G} {s s' : St} {w w' : World}

def mem (i : Nat) (l : List Nat) : Bool := l.any (Nat.beq i)
theorem mem_iff {i : Nat} {l : List Nat} : mem i l = true ↔ i ∈ l := by
  simp only [mem, List.any_eq_true, Nat.beq_eq]
  exact ⟨fun ⟨x, h1, h2⟩ => h2 ▸ h1, fun h => ⟨i, h, rfl⟩⟩
theorem mem_false {i : Nat} {l : List Nat} : mem i l = false ↔ i ∉ l := by
  rw [← mem_iff]; simp

def edge (ops : Array Oper) (j i : Nat) : Bool := match ops[j]? with | some o => o.after.toList.any (fun e => Region.binds .any e && Nat.beq e.on i) | none => false
def depsIn (o : Oper) (done : List Nat) : Bool := o.after.toList.all (fun e => !Region.binds .any e || mem e.on done)

theorem depsIn_iff {o : Oper} {done : List Nat} : depsIn o done = true ↔ ∀ e ∈ o.after, Region.binds .any e = true → e.on ∈ done := by
  simp only [depsIn, List.all_eq_true, Bool.or_eq_true, Bool.not_eq_true', mem_iff, Array.mem_toList_iff]
  constructor
  · intro h e he hb; exact (h e he).resolve_left (by simp [hb])
  · intro h e he
    cases hb : Region.binds .any e
    · exact .inl rfl
    · exact .inr (h e he hb)

theorem edge_iff {ops : Array Oper} {o : Oper} {j i : Nat} (ho : ops[j]? = some o) : edge ops j i = true ↔ ∃ e ∈ o.after, Region.binds .any e = true ∧ e.on = i := by
  simp only [edge, ho, List.any_eq_true, Bool.and_eq_true, Nat.beq_eq, Array.mem_toList_iff]

def noD (d : Nat) : Option Nat → Bool
  | some t => !(Nat.beq t d)
  | none => true

def virtOk (ops : Array Oper) (i : Nat) (o : Oper) (l : Lo) (pn : List (Nat × Lo)) : Bool :=
  (l.op.quiet || l.op.isLoad) && l.chk.isEmpty &&
  (match l.d with
    | none => false
    | some d => !(mem d l.rd) && !(mem d (o.looksAt ops)) && pn.all fun q => noD d q.2.d && !(mem d q.2.rd) && (match ops[q.1]? with | some oq => !(mem d (oq.looksAt ops)) | none => false)) &&
  pn.all fun q => match q.2.d with
    | some t => !(mem t (o.looksAt ops)) || edge ops i q.1
    | none => true

def chkHas (chk : List Chk) (k : Nat) (ag : Bool) (x : Nat) : Bool := chk.any fun c => match c with | .ld k' ag' (.t x') => Nat.beq k' k && (ag' == ag) && Nat.beq x' x | _ => false

def effOk (ops : Array Oper) (i : Nat) (o : Oper) (l : Lo) (pn : List (Nat × Lo)) : Bool :=
  pn.all fun q => edge ops i q.1 ||
    ((match q.2.d with | some t => !(mem t (o.looksAt ops)) && noD t l.d | none => true) && (match l.d with | some d => !(mem d q.2.rd) | none => true) &&
      (match q.2.op with | .load k ag (.t x) => chkHas l.chk k ag x | .load .. => false | _ => true))

def okAt (P : Program) (σ : Nat → Nat) (n : Nat) (ops : Array Oper) (i : Nat) (l : Lo) : Bool := match ops[i]? with | some o => okLo P σ n ops o l | none => false

/-- Nothing may come up but these. -/
def readyIn (ops : Array Oper) (hs done : List Nat) : Bool := (List.range ops.size).all fun j => mem j done || mem j hs || (match ops[j]? with | some oj => !(depsIn oj done) | none => true)

def findIx (P : Program) (σ : Nat → Nat) (n : Nat) (ops : Array Oper) (l : Lo) (done : List Nat) : Option Nat := (List.range ops.size).find? fun i => !(mem i done) && okAt P σ n ops i l

def heads (P : Program) (σ : Nat → Nat) (n : Nat) (ops : Array Oper) : Tree → List Nat → List Nat
  | .nil, _ => []
  | .cons l _, done => match findIx P σ n ops l done with | some i => [i] | none => []
  | .fork a b, done => heads P σ n ops a done ++ heads P σ n ops b done

def okPar (P : Program) (σ : Nat → Nat) (n : Nat) (ops : Array Oper) : Tree → List Nat → List (Nat × Lo) → Bool → Bool
  | .nil, done, _, fk => !fk && (List.range ops.size).all fun j => mem j done
  | .cons l r, done, pn, fk =>
    match findIx P σ n ops l done with
    | none => false
    | some i => match ops[i]? with
      | none => false
      | some o => depsIn o done && (bif !fk && virtOk ops i o l pn then okPar P σ n ops r (i :: done) (pn ++ [(i, l)]) false else effOk ops i o l pn && (fk || readyIn ops [i] done) && okPar P σ n ops r (i :: done) pn false)
  | .fork a b, done, pn, fk => (fk || readyIn ops (heads P σ n ops (.fork a b) done) done) && okPar P σ n ops a done pn true && okPar P σ n ops b done pn true

theorem okPar_cons {n : Nat} {ops : Array Oper} {l : Lo} {r : Tree} {done : List Nat} {pn : List (Nat × Lo)} {fk : Bool} (h : okPar P σ n ops (.cons l r) done pn fk = true) :
    ∃ i o, findIx P σ n ops l done = some i ∧ i ∉ done ∧ ops[i]? = some o ∧ okLo P σ n ops o l = true ∧ depsIn o done = true ∧
      ((fk = false ∧ virtOk ops i o l pn = true ∧ okPar P σ n ops r (i :: done) (pn ++ [(i, l)]) false = true) ∨ (effOk ops i o l pn = true ∧ (fk = true ∨ readyIn ops [i] done = true) ∧ okPar P σ n ops r (i :: done) pn false = true)) := by
  simp only [okPar] at h
  split at h
  · cases h
  rename_i i hi
  have h1 := List.find?_some hi
  simp only [Bool.and_eq_true, Bool.not_eq_true', mem_false, okAt] at h1
  split at h
  · cases h
  rename_i o ho
  rw [ho] at h1
  simp only [Bool.and_eq_true] at h
  refine ⟨i, o, hi, h1.1, ho, h1.2, h.1, ?_⟩
  have h2 := h.2
  cases hv : (!fk && virtOk ops i o l pn)
  · rw [hv, cond_false, Bool.and_eq_true, Bool.and_eq_true, Bool.or_eq_true] at h2; exact .inr ⟨h2.1.1, h2.1.2, h2.2⟩
  · rw [hv, cond_true] at h2
    simp only [Bool.and_eq_true, Bool.not_eq_true'] at hv
    exact .inl ⟨hv.1, hv.2, h2⟩

def STree (P : Program) (σ : Nat → Nat) : Tree → Frame → St → (Frame → St → Prop) → Prop
  | .nil, F, s, K => K F s
  | .cons l r, F, s, K => SOps P σ [l] F s (fun F s => STree P σ r F s K)
  | .fork a b, F, s, K => STree P σ a F s K ∧ STree P σ b F s K

/-- What may come up at a fork has a branch. -/
theorem okPar_choose {n : Nat} {ops : Array Oper} {F : Frame} {s : St} {K : Frame → St → Prop} {done : List Nat} {pn : List (Nat × Lo)} {j : Nat} : ∀ (t : Tree), okPar P σ n ops t done pn true = true → STree P σ t F s K → j ∈ heads P σ n ops t done →
    ∃ l r o, j ∉ done ∧ ops[j]? = some o ∧ okLo P σ n ops o l = true ∧ depsIn o done = true ∧ effOk ops j o l pn = true ∧ okPar P σ n ops r (j :: done) pn false = true ∧ STree P σ (.cons l r) F s K
  | .nil, _, _, hj => by simp [heads] at hj
  | .cons l r, hok, hS, hj => by
    obtain ⟨i, o, hf, h1, h2, h3, h4, ⟨h5, _⟩ | ⟨h5, _, h6⟩⟩ := okPar_cons hok
    · cases h5
    · simp only [heads, hf, List.mem_singleton] at hj
      subst hj
      exact ⟨l, r, o, h1, h2, h3, h4, h5, h6, hS⟩
  | .fork a b, hok, hS, hj => by
    simp only [okPar, Bool.and_eq_true] at hok
    simp only [heads, List.mem_append] at hj
    rcases hj with hj | hj
    · exact okPar_choose a hok.1.2 hS.1 hj
    · exact okPar_choose b hok.2 hS.2 hj

theorem heads_some {n : Nat} {ops : Array Oper} {done : List Nat} {pn : List (Nat × Lo)} : ∀ (t : Tree), okPar P σ n ops t done pn true = true → ∃ j, j ∈ heads P σ n ops t done
  | .nil, hok => by simp [okPar] at hok
  | .cons l r, hok => by
    obtain ⟨i, o, hf, _⟩ := okPar_cons hok
    exact ⟨i, by simp [heads, hf]⟩
  | .fork a b, hok => by
    simp only [okPar, Bool.and_eq_true] at hok
    obtain ⟨j, hj⟩ := heads_some a hok.1.2
    exact ⟨j, by simp [heads, hj]⟩

/-- What stands behind an operation that the abstract machine has done ahead of the model. -/
def Ahead (l : Lo) (F : Frame) (s : St) : Prop :=
  ∃ d, l.d = some d ∧ (l.wanted F = true → opS l.op F s = some (F d, s)) ∧ (l.wanted F = false → F d = V.undef)

theorem wanted_congr {l : Lo} {F F' : Frame} (h : ∀ t ∈ l.rd, F t = F' t) : l.wanted F = l.wanted F' := by
  unfold Lo.wanted
  cases hg : l.gd with
  | none => rfl
  | some p => simp only [h p.1 (by simp [Lo.rd, hg])]

theorem Ahead.congr {l : Lo} {F F' : Frame} (hq : l.op.quiet = true ∨ l.op.isLoad = true) (h : ∀ t ∈ l.rd, F t = F' t) (hd : ∀ d, l.d = some d → F d = F' d) (k : Ahead l F s) : Ahead l F' s := by
  obtain ⟨d, h1, h2, h3⟩ := k
  refine ⟨d, h1, fun hw => ?_, fun hw => ?_⟩
  · rw [← hd d h1, ← opS_congr hq fun t ht => h t (by simp [Lo.rd, ht])]
    exact h2 (by rw [wanted_congr h]; exact hw)
  · rw [← hd d h1]
    exact h3 (by rw [wanted_congr h]; exact hw)

/-- Two frames that hold the same at what an operation looks at. -/
theorem same_op {ops : Array Oper} {o : Oper} {a b : Act} (hs : ∀ cs b, o.op ≠ .select cs b) (hz : a.tmps.size = b.tmps.size) (h : ∀ t ∈ o.looksAt ops, a.tmps.getD t Go.undef = b.tmps.getD t Go.undef) :
    execOp a.eval o = execOp b.eval o ∧ Region.wanted o (yielded ops a.tmps) = Region.wanted o (yielded ops b.tmps) := by
  constructor
  · refine execOp_congr o hs fun x hx => ?_
    cases x with
    | tmp t => exact h t (List.mem_append_left _ (List.mem_filterMap.2 ⟨.tmp t, by simpa using hx, rfl⟩))
    | _ => rfl
  · unfold Region.wanted
    cases hg : o.guard with
    | none => rfl
    | some gw =>
      obtain ⟨j, want⟩ := gw
      have hy : yielded ops a.tmps j = yielded ops b.tmps j := by
        unfold yielded
        cases ht : (ops[j]?).bind (·.dst) with
        | none => rfl
        | some t =>
          have := h t (by simp [Oper.looksAt, hg, ht])
          by_cases hlt : t < a.tmps.size
          · have hlt' : t < b.tmps.size := by rw [← hz]; exact hlt
            have e1 : a.tmps[t]? = some (a.tmps.getD t Go.undef) := by rw [Array.getD_eq_getD_getElem?, Array.getElem?_eq_getElem hlt]; rfl
            have e2 : b.tmps[t]? = some (b.tmps.getD t Go.undef) := by rw [Array.getD_eq_getD_getElem?, Array.getElem?_eq_getElem hlt']; rfl
            simp only [Option.bind_some, e1, e2, this]
          · simp only [Option.bind_some, Array.getElem?_eq_none (Nat.le_of_not_lt hlt), Array.getElem?_eq_none (show b.tmps.size ≤ t by rw [← hz]; exact Nat.le_of_not_lt hlt)]
      simp only [hy]

structure Inv (P : Program) (σ : Nat → Nat) (n : Nat) (ops : Array Oper) (ls : Tree) (F : Frame) (s : St) (K : Frame → St → Prop) (g : G) (w : World) (a b : Act) (listed : Array Bool) (done : List Nat)
    (pn pend : List (Nat × Lo)) : Prop where
  go : okPar P σ n ops ls done pn false = true
  so : STree P σ ls F s K
  sim : Sim σ g s w
  rel : FRel σ g b.tmps F
  sa : a.tmps.size = n
  sb : b.tmps.size = n
  df : a.defers = []
  same : ∀ t, (∀ p ∈ pend, p.2.d ≠ some t) → a.tmps.getD t Go.undef = b.tmps.getD t Go.undef
  lsz : listed.size = ops.size
  dn : ∀ j ∈ done, j < ops.size
  lst : ∀ j, j < ops.size → (listed.getD j false = true ↔ (j ∈ done ∧ ∀ p ∈ pend, p.1 ≠ j))
  ord : pend.Pairwise fun p q => edge ops p.1 q.1 = false
  inpn : ∀ p ∈ pend, p ∈ pn
  indn : ∀ p ∈ pend, p.1 ∈ done
  virt : ∀ p ∈ pend, p.2.op.quiet = true ∨ p.2.op.isLoad = true
  ok : ∀ p ∈ pend, ∃ o, ops[p.1]? = some o ∧ okLo P σ n ops o p.2 = true ∧ (∀ q ∈ pend, ∀ t, q.2.d = some t → t ∈ o.looksAt ops → edge ops p.1 q.1 = true) ∧
    ∀ e ∈ o.after, Region.binds .any e = true → e.on ∈ done ∧ e.on ≠ p.1
  ahead : ∀ p ∈ pend, Ahead p.2 F s

theorem getD_flip {l : Array Bool} {j : Nat} (h : j < l.size) : l.getD j true = l.getD j false := by simp [Array.getD_eq_getD_getElem?, h]

section
variable {n : Nat} {ops : Array Oper} {ls : Tree} {F : Frame} {K : Frame → St → Prop} {a b : Act} {listed : Array Bool} {done : List Nat} {pn pend : List (Nat × Lo)}

theorem lt_of_get {i : Nat} {o : Oper} (h : ops[i]? = some o) : i < ops.size := (Array.getElem?_eq_some_iff.1 h).1

/-- Where something is pending, something is ready. -/
theorem Inv.some_ready (I : Inv P σ n ops ls F s K g w a b listed done pn pend) {p : Nat × Lo} {rest : List (Nat × Lo)} (hp : pend = p :: rest) : p.1 ∈ Region.ready .any ops listed := by
  subst hp
  obtain ⟨o, ho, _, _, he⟩ := I.ok p (by simp)
  have hlt := lt_of_get ho
  rw [mem_ready]
  refine ⟨?_, o, ho, fun e h1 h2 => ?_⟩
  · rw [getD_flip (by rw [I.lsz]; exact hlt)]
    cases hl : listed.getD p.1 false with
    | false => rfl
    | true => exact absurd rfl (((I.lst _ hlt).1 hl).2 p (by simp))
  · obtain ⟨h3, h4⟩ := he e h1 h2
    rw [I.lst _ (I.dn _ h3)]
    refine ⟨h3, fun q hq => ?_⟩
    rcases List.mem_cons.1 hq with rfl | hq
    · exact Ne.symm h4
    · have h5 := (List.pairwise_cons.1 I.ord).1 q hq
      intro he
      rw [(edge_iff ho).2 ⟨e, h1, h2, he.symm⟩] at h5
      cases h5

/-- The abstract machine goes ahead by one. -/
theorem Inv.forth {l : Lo} {r : Tree} (I : Inv P σ n ops (.cons l r) F s K g w a b listed done pn pend) {i : Nat} {o : Oper} (hi : i ∉ done) (ho : ops[i]? = some o) (hok : okLo P σ n ops o l = true) (hdep : depsIn o done = true)
    (hv : virtOk ops i o l pn = true) (hgo : okPar P σ n ops r (i :: done) (pn ++ [(i, l)]) false = true) :
    ∃ F' b', Inv P σ n ops r F' s K g w a b' listed (i :: done) (pn ++ [(i, l)]) (pend ++ [(i, l)]) := by
  simp only [virtOk, Bool.and_eq_true, Bool.or_eq_true, List.all_eq_true] at hv
  obtain ⟨⟨⟨hq, hchk⟩, hd⟩, hlook⟩ := hv
  split at hd
  · cases hd
  rename_i d hld
  simp only [Bool.and_eq_true, Bool.not_eq_true', mem_false, List.all_eq_true] at hd
  obtain ⟨⟨hd1, hd2⟩, hd3⟩ := hd
  simp only [okLo, Bool.and_eq_true] at hok
  obtain ⟨⟨hdst, hgd⟩, hop⟩ := hok
  have hwr := wanted_rel (σ := σ) (g := g) (l := l) I.rel I.sb hgd
  have hso := I.so
  -- the value
  have key : ∃ v val, VRel σ g val v ∧ STree P σ r (F.putO l.d v) s K ∧ (l.wanted F = true → opS l.op F s = some (v, s)) ∧ (l.wanted F = false → v = V.undef) := by
    by_cases hw : l.wanted F = true
    · have : ∃ v s', opS l.op F s = some (v, s') ∧ STree P σ r (F.putO l.d v) s' K := by
        simp only [STree, SOps, hw, if_true] at hso
        split at hso
        · rename_i e; rw [e] at hq; simp [VOp.quiet, VOp.isLoad] at hq
        · rename_i e; rw [e] at hq; simp [VOp.quiet, VOp.isLoad] at hq
        · rename_i e; rw [e] at hq; simp [VOp.quiet, VOp.isLoad] at hq
        · obtain ⟨v, s', h1, _, h2⟩ := hso; exact ⟨v, s', h1, h2⟩
      obtain ⟨v, s', h1, h2⟩ := this
      obtain ⟨rfl, val, h3, _⟩ := virt_sound (P := P) (o := o) hq hop I.rel I.sim h1
      exact ⟨v, val, h3, h2, fun _ => h1, fun h => by rw [h] at hw; cases hw⟩
    · simp only [STree, SOps, hw] at hso
      exact ⟨V.undef, Go.undef, VRel.undef σ g, hso, fun h => absurd h hw, fun _ => rfl⟩
  obtain ⟨v, val, hrel, hso', hk1, hk2⟩ := key
  obtain ⟨p1, p2, p3⟩ := I.rel.put (v := val) (x := v) I.sb hdst hrel
  have hod : o.dst = some d := by
    rw [hld] at hdst
    cases h : o.dst with
    | none => rw [h] at hdst; simp [okDst] at hdst
    | some d0 => rw [h] at hdst; simp only [okDst, Bool.and_eq_true, Nat.beq_eq] at hdst; rw [hdst.1]
  have hF : ∀ t, t ≠ d → (F.putO l.d v) t = F t := by
    intro t ht
    rw [hld]
    simp only [Frame.putO, Frame.put]
    rw [beqf ht]
    rfl
  have hFd : (F.putO l.d v) d = v := by rw [hld]; simp [Frame.putO, Frame.put]
  refine ⟨F.putO l.d v, b.put o.dst val, ⟨hgo, hso', I.sim, p1, I.sa, p2, I.df, fun t ht => ?_, I.lsz, ?_, fun j hj => ?_, ?_, ?_, ?_, ?_, ?_, ?_⟩⟩
  · have htd : t ≠ d := fun e => ht (i, l) (by simp) (by rw [hld, e])
    rw [I.same t (fun p hp => ht p (by simp [hp])), hod]
    simp [Act.put, Array.getD_eq_getD_getElem?, Array.getElem?_setIfInBounds_ne (Ne.symm htd)]
  · intro j hj
    rcases List.mem_cons.1 hj with rfl | hj
    · exact lt_of_get ho
    · exact I.dn j hj
  · rw [I.lst j hj]
    constructor
    · rintro ⟨h1, h2⟩
      refine ⟨by simp [h1], fun p hp => ?_⟩
      rcases List.mem_append.1 hp with hp | hp
      · exact h2 p hp
      · simp only [List.mem_singleton] at hp; subst hp; rintro rfl; exact hi h1
    · rintro ⟨h1, h2⟩
      have hne : i ≠ j := h2 (i, l) (by simp)
      refine ⟨(List.mem_cons.1 h1).resolve_left (Ne.symm hne), fun p hp => h2 p (by simp [hp])⟩
  · rw [List.pairwise_append]
    refine ⟨I.ord, by simp, fun p hp q hq => ?_⟩
    simp only [List.mem_singleton] at hq
    subst hq
    obtain ⟨op, hop', _, _, he⟩ := I.ok p hp
    cases h : edge ops p.1 i with
    | false => rfl
    | true =>
      obtain ⟨e, h1, h2, h3⟩ := (edge_iff hop').1 h
      exact absurd (h3 ▸ (he e h1 h2).1) hi
  · intro p hp
    rcases List.mem_append.1 hp with hp | hp
    · simp [I.inpn p hp]
    · simp [hp]
  · intro p hp
    rcases List.mem_append.1 hp with hp | hp
    · simp [I.indn p hp]
    · simp only [List.mem_singleton] at hp; subst hp; simp
  · intro p hp
    rcases List.mem_append.1 hp with hp | hp
    · exact I.virt p hp
    · simp only [List.mem_singleton] at hp; subst hp; exact hq
  · intro p hp
    rcases List.mem_append.1 hp with hp | hp
    · obtain ⟨op, e1, e2, e3, e4⟩ := I.ok p hp
      refine ⟨op, e1, e2, fun q hq t ht htl => ?_, fun e h1 h2 => ⟨by simp [(e4 e h1 h2).1], (e4 e h1 h2).2⟩⟩
      rcases List.mem_append.1 hq with hq | hq
      · exact e3 q hq t ht htl
      · simp only [List.mem_singleton] at hq
        subst hq
        rw [hld] at ht
        injection ht with ht
        subst ht
        have := (hd3 p (I.inpn p hp)).2
        rw [e1] at this
        simp only [Bool.not_eq_true', mem_false] at this
        exact absurd htl this
    · simp only [List.mem_singleton] at hp
      subst hp
      refine ⟨o, ho, by simp only [okLo, Bool.and_eq_true]; exact ⟨⟨hdst, hgd⟩, hop⟩, fun q hq t ht htl => ?_, fun e h1 h2 => ?_⟩
      · rcases List.mem_append.1 hq with hq | hq
        · have := hlook q (I.inpn q hq)
          rw [ht] at this
          simp only [Bool.or_eq_true, Bool.not_eq_true', mem_false] at this
          exact this.resolve_left (fun h => h htl)
        · simp only [List.mem_singleton] at hq
          subst hq
          rw [hld] at ht
          injection ht with ht
          subst ht
          exact absurd htl hd2
      · have := depsIn_iff.1 hdep e h1 h2
        exact ⟨by simp [this], fun h => hi (by have h : e.on = i := h; rw [← h]; exact this)⟩
  · intro p hp
    rcases List.mem_append.1 hp with hp | hp
    · have h1 := hd3 p (I.inpn p hp)
      refine (I.ahead p hp).congr (I.virt p hp) (fun t ht => (hF t (fun e => h1.1.2 (e ▸ ht))).symm) (fun t ht => (hF t (fun e => ?_)).symm)
      have h2 := h1.1.1
      rw [ht, e] at h2
      simp [noD] at h2
    · simp only [List.mem_singleton] at hp
      subst hp
      have hsame : ∀ t ∈ l.rd, F t = (F.putO l.d v) t := fun t ht => (hF t (fun e => hd1 (e ▸ ht))).symm
      refine ⟨d, hld, fun hw => ?_, fun hw => ?_⟩
      · rw [hFd, ← opS_congr hq fun t ht => hsame t (by simp [Lo.rd, ht])]
        exact hk1 (by rw [wanted_congr hsame]; exact hw)
      · rw [hFd]
        exact hk2 (by rw [wanted_congr hsame]; exact hw)


theorem count_set {l : Array Bool} {i : Nat} {k : Nat} (h : i < l.size) (hf : l.getD i true = false) (hc : l.toList.count false = k + 1) : (l.setIfInBounds i true).toList.count false = k := by
  rw [Array.toList_setIfInBounds, List.count_set (by simpa using h)]
  have : l.toList[i]'(by simpa using h) = false := by simpa [Array.getD_eq_getD_getElem?, h] using hf
  simp [this, hc]

theorem no_false {l : Array Bool} (hc : l.toList.count false = 0) (i : Nat) (h : i < l.size) : l.getD i true = true := by
  have := List.count_eq_zero.1 hc
  cases hl : l[i] with
  | true => simp [Array.getD_eq_getD_getElem?, h, hl]
  | false => exact absurd (hl ▸ Array.getElem_mem_toList h) this

/-- A pending operation comes up. -/
theorem Inv.pick (I : Inv P σ n ops ls F s K g w a b listed done pn pend) {p : Nat × Lo} (hp : p ∈ pend) (hr : p.1 ∈ Region.ready .any ops listed) {Q : Go.Exit → Act → World → Prop} {next : Act → World → Prop}
    (hnext : ∀ a' b', Inv P σ n ops ls F s K g w a' b' (listed.setIfInBounds p.1 true) done pn (pend.filter fun q => !(Nat.beq q.1 p.1)) → next a' w) : wpOp P ops Q p.1 next a w := by
  obtain ⟨o, ho, hok, hlook, hedge⟩ := I.ok p hp
  obtain ⟨_, o', ho', hready⟩ := mem_ready.1 hr
  rw [ho] at ho'
  injection ho' with ho'
  subst ho'
  simp only [okLo, Bool.and_eq_true] at hok
  obtain ⟨⟨hdst, hgd⟩, hop⟩ := hok
  have hnp : ∀ q ∈ pend, edge ops p.1 q.1 = false := fun q hq => by
    cases h : edge ops p.1 q.1 with
    | false => rfl
    | true =>
      obtain ⟨e, h1, h2, h3⟩ := (edge_iff ho).1 h
      have h4 := hready e h1 h2
      have h5 := (I.lst e.on (I.dn _ (hedge e h1 h2).1)).1 h4
      exact absurd h3.symm (h5.2 q hq)
  have hsame := same_op (ops := ops) (o := o) (a := a) (b := b) (okOp_noSelect hop) (by rw [I.sa, I.sb]) (fun t ht => I.same t fun q hq e => by
    have h1 := hlook q hq t e ht
    rw [hnp q hq] at h1
    cases h1)
  have hwr := wanted_rel (σ := σ) (g := g) (l := p.2) I.rel I.sb hgd
  obtain ⟨d, hld, ha1, ha2⟩ := I.ahead p hp
  have hod : o.dst = some d := by
    rw [hld] at hdst
    cases h : o.dst with
    | none => rw [h] at hdst; simp [okDst] at hdst
    | some d0 => rw [h] at hdst; simp only [okDst, Bool.and_eq_true, Nat.beq_eq] at hdst; rw [hdst.1]
  have step : ∀ val, VRel σ g val (F d) → next (a.put o.dst val) w := fun val hrel => by
    obtain ⟨p1, p2, p3⟩ := I.rel.put (v := val) (x := F d) I.sb hdst hrel
    have hFF : F.putO p.2.d (F d) = F := by
      rw [hld]
      funext t
      simp only [Frame.putO, Frame.put]
      by_cases e : t = d
      · subst e; simp
      · rw [beqf e]; rfl
    rw [hFF] at p1
    have hplt := lt_of_get ho
    have hfil : ∀ q, q ∈ pend.filter (fun q => !(Nat.beq q.1 p.1)) ↔ q ∈ pend ∧ q.1 ≠ p.1 := fun q => by
      rw [List.mem_filter]
      simp only [Bool.not_eq_true']
      constructor
      · rintro ⟨h1, h2⟩; exact ⟨h1, fun e => by rw [e] at h2; simp at h2⟩
      · rintro ⟨h1, h2⟩; exact ⟨h1, beqf h2⟩
    refine hnext _ (b.put o.dst val) ⟨I.go, I.so, I.sim, p1, by simp [hod, Act.put, I.sa], p2, by simp [hod, Act.put, I.df], fun t ht => ?_, by simp [I.lsz], I.dn, fun j hj => ?_,
      I.ord.sublist List.filter_sublist, fun q hq => I.inpn q ((hfil q).1 hq).1, fun q hq => I.indn q ((hfil q).1 hq).1, fun q hq => I.virt q ((hfil q).1 hq).1, fun q hq => ?_, fun q hq => I.ahead q ((hfil q).1 hq).1⟩
    · by_cases e : t = d
      · subst e
        have hlt : t < n := by
          rw [hld] at hdst; rw [hod] at hdst
          simp only [okDst, Bool.and_eq_true] at hdst
          simpa [Nat.blt_eq] using hdst.2
        have e1 : t < a.tmps.size := by rw [I.sa]; exact hlt
        have e2 : t < b.tmps.size := by rw [I.sb]; exact hlt
        simp [hod, Act.put, Array.getD_eq_getD_getElem?, e1, e2]
      · have h1 : ∀ q ∈ pend, q.2.d ≠ some t := fun q hq => by
          by_cases hq1 : q.1 = p.1
          · -- the same index: the same slot
            obtain ⟨oq, k1, k2, _, _⟩ := I.ok q hq
            rw [hq1, ho] at k1
            injection k1 with k1
            subst k1
            simp only [okLo, Bool.and_eq_true] at k2
            intro h
            have k3 := k2.1.1
            rw [hod, h] at k3
            simp only [okDst, Bool.and_eq_true, Nat.beq_eq] at k3
            exact e k3.1.symm
          · exact ht q ((hfil q).2 ⟨hq, hq1⟩)
        have h2 := I.same t h1
        simp only [hod, Act.put, Array.getD_eq_getD_getElem?] at h2 ⊢
        rw [Array.getElem?_setIfInBounds_ne (Ne.symm e), Array.getElem?_setIfInBounds_ne (Ne.symm e)]
        exact h2
    · by_cases e : j = p.1
      · subst e
        have : (listed.setIfInBounds p.1 true).getD p.1 false = true := by
          have : p.1 < listed.size := by rw [I.lsz]; exact hplt
          simp [Array.getD_eq_getD_getElem?, this]
        simp only [this, true_iff]
        exact ⟨I.indn p hp, fun q hq => ((hfil q).1 hq).2⟩
      · rw [getD_set_ne false (Ne.symm e), I.lst j hj]
        constructor
        · rintro ⟨h1, h2⟩; exact ⟨h1, fun q hq => h2 q ((hfil q).1 hq).1⟩
        · rintro ⟨h1, h2⟩
          refine ⟨h1, fun q hq => ?_⟩
          by_cases hq1 : q.1 = p.1
          · rw [hq1]; exact Ne.symm e
          · exact h2 q ((hfil q).2 ⟨hq, hq1⟩)
    · obtain ⟨oq, k1, k2, k3, k4⟩ := I.ok q ((hfil q).1 hq).1
      exact ⟨oq, k1, k2, fun q' hq' => k3 q' ((hfil q').1 hq').1, k4⟩
  unfold wpOp
  simp only [ho]
  rw [hsame.2, hwr]
  by_cases hw : p.2.wanted F = true
  · rw [if_pos hw]
    refine .inl ?_
    obtain ⟨_, val, hrel, hrun⟩ := virt_sound (P := P) (o := o) (I.virt p hp) hop I.rel I.sim (ha1 hw)
    unfold Oper.wp
    rw [hsame.1, hrun, Oper.upon_value]
    exact step val hrel
  · rw [if_neg hw]
    refine step Go.undef ?_
    rw [ha2 (by simpa using hw)]
    exact VRel.undef σ g

theorem chkHas_ok {chk : List Chk} {k x : Nat} {ag : Bool} (h : chkHas chk k ag x = true) : Chk.ld k ag (.t x) ∈ chk := by
  simp only [chkHas, List.any_eq_true] at h
  obtain ⟨c, h1, h2⟩ := h
  split at h2
  · simp only [Bool.and_eq_true, Nat.beq_eq, beq_iff_eq] at h2
    obtain ⟨⟨rfl, rfl⟩, rfl⟩ := h2
    exact h1
  · cases h2

/-- The next operation of the abstract machine comes up. -/
theorem Inv.eff {l : Lo} {r : Tree} (I : Inv P σ n ops ls F s K g w a b listed done pn pend) {i : Nat} {o : Oper} (hi : i ∉ done) (ho : ops[i]? = some o) (hok : okLo P σ n ops o l = true)
    (hv : effOk ops i o l pn = true) (hgo : okPar P σ n ops r (i :: done) pn false = true) (hso : STree P σ (.cons l r) F s K) (hr : i ∈ Region.ready .any ops listed) {Q : Go.Exit → Act → World → Prop} {next : Act → World → Prop}
    (hnext : ∀ a' b' w' g' s' F', Keep g w g' w' → Inv P σ n ops r F' s' K g' w' a' b' (listed.setIfInBounds i true) (i :: done) pn pend → next a' w') : wpOp P ops Q i next a w := by
  obtain ⟨_, o', ho', hready⟩ := mem_ready.1 hr
  rw [ho] at ho'
  injection ho' with ho'
  subst ho'
  simp only [okLo, Bool.and_eq_true] at hok
  obtain ⟨⟨hdst, hgd⟩, hop⟩ := hok
  simp only [effOk, List.all_eq_true] at hv
  have hap := hv
  have hilt := lt_of_get ho
  have hdep : ∀ e ∈ o.after, Region.binds .any e = true → e.on ∈ done ∧ ∀ q ∈ pend, q.1 ≠ e.on := fun e h1 h2 => by
    have h3 := hready e h1 h2
    by_cases hlt : e.on < ops.size
    · exact (I.lst _ hlt).1 h3
    · rw [Array.getD_eq_getD_getElem?, Array.getElem?_eq_none (by rw [I.lsz]; omega)] at h3
      cases h3
  have hnp : ∀ q ∈ pend, edge ops i q.1 = false := fun q hq => by
    cases h : edge ops i q.1 with
    | false => rfl
    | true =>
      obtain ⟨e, h1, h2, h3⟩ := (edge_iff ho).1 h
      exact absurd h3.symm ((hdep e h1 h2).2 q hq)
  have hap' : ∀ q ∈ pend, (∀ t, q.2.d = some t → t ∉ o.looksAt ops ∧ noD t l.d = true) ∧ (∀ d, l.d = some d → d ∉ q.2.rd) ∧
      (∀ k ag x, q.2.op = .load k ag x → ∃ t, x = .t t ∧ Chk.ld k ag (.t t) ∈ l.chk) := fun q hq => by
    have h := hap q (I.inpn q hq)
    rw [hnp q hq, Bool.false_or] at h
    simp only [Bool.and_eq_true] at h
    obtain ⟨⟨h1, h2⟩, h3⟩ := h
    refine ⟨fun t ht => ?_, fun d hd => ?_, fun k ag x hx => ?_⟩
    · rw [ht] at h1
      simp only [Bool.and_eq_true, Bool.not_eq_true', mem_false] at h1
      exact h1
    · rw [hd] at h2
      simpa [mem_false] using h2
    · rw [hx] at h3
      cases x with
      | t t => exact ⟨t, rfl, chkHas_ok h3⟩
      | c => cases h3
  have hsame := same_op (ops := ops) (o := o) (a := a) (b := b) (okOp_noSelect hop) (by rw [I.sa, I.sb]) (fun t ht => I.same t fun q hq e => ((hap' q hq).1 t e).1 ht)
  have hwr := wanted_rel (σ := σ) (g := g) (l := l) I.rel I.sb hgd
  have step : ∀ val v w' g' s', VRel σ g' val v → Keep g w g' w' → Sim σ g' s' w' → STree P σ r (F.putO l.d v) s' K → (∀ k ∈ l.chk, k.ok F s s') ∨ s' = s → next (a.put o.dst val) w' := fun val v w' g' s' hrel hk hsim' hS' hc => by
    obtain ⟨p1, p2, p3⟩ := (I.rel.mono hk.le).put (v := val) (x := v) I.sb hdst hrel
    refine hnext _ (b.put o.dst val) w' g' s' _ hk ⟨hgo, hS', hsim', p1, ?_, p2, ?_, fun t ht => ?_, by simp [I.lsz], ?_, fun j hj => ?_, I.ord, I.inpn, fun q hq => by simp [I.indn q hq], I.virt, fun q hq => ?_, fun q hq => ?_⟩
    · cases o.dst <;> simp [Act.put, I.sa]
    · cases o.dst <;> simp [Act.put, I.df]
    · have h2 := I.same t ht
      cases hod : o.dst with
      | none => exact h2
      | some d =>
        by_cases e : t = d
        · subst e
          have hlt : t < n := by
            cases hld : l.d with
            | none => rw [hod, hld] at hdst; simp [okDst] at hdst
            | some d' =>
              rw [hod, hld] at hdst
              simp only [okDst, Bool.and_eq_true] at hdst
              simpa [Nat.blt_eq] using hdst.2
          have e1 : t < a.tmps.size := by rw [I.sa]; exact hlt
          have e2 : t < b.tmps.size := by rw [I.sb]; exact hlt
          simp [Act.put, Array.getD_eq_getD_getElem?, e1, e2]
        · simp only [Act.put, Array.getD_eq_getD_getElem?] at h2 ⊢
          rw [Array.getElem?_setIfInBounds_ne (Ne.symm e), Array.getElem?_setIfInBounds_ne (Ne.symm e)]
          exact h2
    · intro j hj
      rcases List.mem_cons.1 hj with rfl | hj
      · exact hilt
      · exact I.dn j hj
    · by_cases e : j = i
      · subst e
        have : (listed.setIfInBounds j true).getD j false = true := by
          have : j < listed.size := by rw [I.lsz]; exact hj
          simp [Array.getD_eq_getD_getElem?, this]
        simp only [this, true_iff]
        exact ⟨by simp, fun q hq h => hi (h ▸ I.indn q hq)⟩
      · rw [getD_set_ne false (Ne.symm e), I.lst j hj]
        simp [e]
    · obtain ⟨oq, k1, k2, k3, k4⟩ := I.ok q hq
      exact ⟨oq, k1, k2, k3, fun e h1 h2 => ⟨by simp [(k4 e h1 h2).1], (k4 e h1 h2).2⟩⟩
    · obtain ⟨c1, c2, c3⟩ := hap' q hq
      have hF : ∀ t, l.d ≠ some t → (F.putO l.d v) t = F t := fun t ht => by
        cases hld : l.d with
        | none => rfl
        | some d =>
          simp only [Frame.putO, Frame.put]
          rw [beqf (fun e => ht (by rw [hld, e]))]
          rfl
      have hA : Ahead q.2 F s' := by
        obtain ⟨d, a1, a2, a3⟩ := I.ahead q hq
        refine ⟨d, a1, fun hw => ?_, a3⟩
        have h := a2 hw
        rcases I.virt q hq with hv | hv
        · exact (quiet_still hv h).2 s'
        · cases hop' : q.2.op <;> rw [hop'] at hv <;> simp only [VOp.isLoad, Bool.false_eq_true] at hv
          rename_i k ag x
          rw [hop'] at h
          have hld : loadV k ag (x.ev F) s' = loadV k ag (x.ev F) s := by
            rcases hc with hc | rfl
            · obtain ⟨t, rfl, hm⟩ := c3 k ag x hop'
              exact hc _ hm
            · rfl
          simp only [opS] at h ⊢
          rw [hld]
          split at h
          · rename_i u hu
            simp only [Option.some.injEq, Prod.mk.injEq] at h
            simp [hu, h.1]
          · cases h
      refine hA.congr (I.virt q hq) (fun t ht => (hF t fun e => c2 t e ht).symm) (fun d hd => (hF d fun e => ?_).symm)
      have h1 := (c1 d hd).2
      rw [e] at h1
      simp [noD] at h1
  unfold wpOp
  simp only [ho]
  rw [hsame.2, hwr]
  by_cases hw : l.wanted F = true
  · rw [if_pos hw]
    refine .inl ?_
    exact op_wp2 hop I.rel hsame.1 I.sim hw hso fun val v w' g' s' h1 h2 h3 h4 h5 => step val v w' g' s' h1 h2 h3 h4 (.inl h5)
  · rw [if_neg hw]
    simp only [STree, SOps, hw] at hso
    exact step Go.undef V.undef w g s (VRel.undef σ g) (Keep.refl _ _) I.sim hso (.inr rfl)

theorem Inv.finish (I : Inv P σ n ops .nil F s K g w a b listed done pn pend) (hr : Region.ready .any ops listed = []) : Res σ n g w K a w := by
  cases hp : pend with
  | cons p rest =>
    have := I.some_ready hp
    rw [hr] at this
    cases this
  | nil =>
    refine ⟨F, s, g, I.so, fun i => ?_, I.sa, I.df, Keep.refl _ _, I.sim⟩
    rw [I.same i (by rw [hp]; simp)]
    exact I.rel i

theorem Inv.cases (I : Inv P σ n ops ls F s K g w a b listed done pn pend) {i : Nat} (hr : i ∈ Region.ready .any ops listed) : (∃ p ∈ pend, p.1 = i) ∨ i ∉ done := by
  obtain ⟨h1, o, ho, _⟩ := mem_ready.1 hr
  have hlt := lt_of_get ho
  rw [getD_flip (by rw [I.lsz]; exact hlt)] at h1
  by_cases hd : i ∈ done
  · by_cases hp : ∃ p ∈ pend, p.1 = i
    · exact .inl hp
    · rw [(I.lst i hlt).2 ⟨hd, fun p h e => hp ⟨p, h, e⟩⟩] at h1
      cases h1
  · exact .inr hd

theorem Inv.head_ready (I : Inv P σ n ops ls F s K g w a b listed done pn pend) {i : Nat} {o : Oper} (hi : i ∉ done) (ho : ops[i]? = some o) (hdep : depsIn o done = true) : Region.ready .any ops listed ≠ [] := by
  intro hr
  cases hp : pend with
  | cons p rest =>
    have := I.some_ready hp
    rw [hr] at this
    cases this
  | nil =>
    have : i ∈ Region.ready .any ops listed := by
      have hlt := lt_of_get ho
      rw [mem_ready]
      refine ⟨?_, o, ho, fun e h1 h2 => ?_⟩
      · rw [getD_flip (by rw [I.lsz]; exact hlt)]
        cases hl : listed.getD i false with
        | false => rfl
        | true => exact absurd ((I.lst i hlt).1 hl).1 hi
      · have h3 := depsIn_iff.1 hdep e h1 h2
        exact (I.lst _ (I.dn _ h3)).2 ⟨h3, by rw [hp]; simp⟩
    rw [hr] at this
    cases this

theorem Inv.eff_only (I : Inv P σ n ops ls F s K g w a b listed done pn pend) {hs : List Nat} {j : Nat} (hv : readyIn ops hs done = true) (hr : j ∈ Region.ready .any ops listed) (hj : j ∉ done) : j ∈ hs := by
  obtain ⟨h1, oj, hoj, hready⟩ := mem_ready.1 hr
  simp only [readyIn, List.all_eq_true, List.mem_range] at hv
  have h := hv j (lt_of_get hoj)
  rw [hoj] at h
  simp only [Bool.or_eq_true, mem_iff, Bool.not_eq_true'] at h
  rcases h with (h | h) | h
  · exact absurd h hj
  · exact h
  · have : depsIn oj done = true := depsIn_iff.2 fun e h1 h2 => by
      have h3 := hready e h1 h2
      by_cases hlt : e.on < ops.size
      · exact ((I.lst _ hlt).1 h3).1
      · rw [Array.getD_eq_getD_getElem?, Array.getElem?_eq_none (by rw [I.lsz]; omega)] at h3
        cases h3
    rw [this] at h
    cases h

/-- A node where something that counts comes up. -/
theorem Inv.choice {Q : Go.Exit → Act → World → Prop} {fuel : Nat} (I : Inv P σ n ops ls F s K g w a b listed done pn pend) (hc : listed.toList.count false = fuel) (hs : List Nat) (hne : ∃ j, j ∈ hs) (hready : readyIn ops hs done = true)
    (hch : ∀ j ∈ hs, ∃ l r o, j ∉ done ∧ ops[j]? = some o ∧ okLo P σ n ops o l = true ∧ depsIn o done = true ∧ effOk ops j o l pn = true ∧ okPar P σ n ops r (j :: done) pn false = true ∧ STree P σ (.cons l r) F s K)
    (hQ : ∀ a' w', Res σ n g w K a' w' → Q .normal a' w')
    (ihf : ∀ fuel', fuel = fuel' + 1 → ∀ (ls : Tree) (F : Frame) (s : St) (g : G) (w : World) (a b : Act) (listed : Array Bool) (done : List Nat) (pn pend : List (Nat × Lo)),
      Inv P σ n ops ls F s K g w a b listed done pn pend → listed.toList.count false = fuel' → (∀ a' w', Res σ n g w K a' w' → Q .normal a' w') → wpAny P .any ops Q fuel' listed a w) : wpAny P .any ops Q fuel listed a w := by
  obtain ⟨i, hi⟩ := hne
  obtain ⟨l0, r0, o0, hd0, ho0, _, hdep0, _⟩ := hch i hi
  cases fuel with
  | zero =>
    have hlt := lt_of_get ho0
    have h1 := no_false hc i (by rw [I.lsz]; exact hlt)
    rw [getD_flip (by rw [I.lsz]; exact hlt), I.lst i hlt] at h1
    exact absurd h1.1 hd0
  | succ fuel =>
    refine ⟨fun hr => absurd hr (I.head_ready hd0 ho0 hdep0), fun j hj => ?_⟩
    obtain ⟨h1, oj, hoj, _⟩ := mem_ready.1 hj
    have hlt : j < listed.size := by rw [I.lsz]; exact lt_of_get hoj
    rcases I.cases hj with ⟨p, hp, rfl⟩ | hd
    · exact I.pick hp hj fun a' b' I' => ihf fuel rfl _ _ _ _ _ _ _ _ _ _ _ I' (count_set hlt h1 hc) hQ
    · obtain ⟨l, r, o, k1, k2, k3, k4, k5, k6, k7⟩ := hch j (I.eff_only hready hj hd)
      exact I.eff k1 k2 k3 k5 k6 k7 hj fun a' b' w' g' s' F' hk I' => ihf fuel rfl _ _ _ _ _ _ _ _ _ _ _ I' (count_set hlt h1 hc) fun a'' w'' hres => hQ _ _ (hres.from hk)

theorem par_main {Q : Go.Exit → Act → World → Prop} : ∀ (fuel : Nat) (ls : Tree) (F : Frame) (s : St) (g : G) (w : World) (a b : Act) (listed : Array Bool) (done : List Nat) (pn pend : List (Nat × Lo)),
    Inv P σ n ops ls F s K g w a b listed done pn pend → listed.toList.count false = fuel → (∀ a' w', Res σ n g w K a' w' → Q .normal a' w') → wpAny P .any ops Q fuel listed a w := by
  intro fuel
  induction fuel with
  | zero =>
    intro ls
    induction ls with
    | nil =>
      intro F s g w a b listed done pn pend I hc hQ
      have hr : Region.ready .any ops listed = [] := by
        cases h : Region.ready .any ops listed with
        | nil => rfl
        | cons i l =>
          obtain ⟨h1, o, ho, _⟩ := mem_ready.1 (show i ∈ Region.ready .any ops listed by rw [h]; simp)
          rw [no_false hc i (by rw [I.lsz]; exact lt_of_get ho)] at h1
          cases h1
      exact ⟨hr, hQ _ _ (I.finish hr)⟩
    | cons l r ih =>
      intro F s g w a b listed done pn pend I hc hQ
      obtain ⟨i, o, hf, hi, ho, hok, hdep, ⟨_, hv, hgo⟩ | ⟨hv, hrd, hgo⟩⟩ := okPar_cons I.go
      · obtain ⟨F', b', I'⟩ := I.forth hi ho hok hdep hv hgo
        exact ih _ _ _ _ _ _ _ _ _ _ I' hc hQ
      · refine I.choice hc [i] ⟨i, by simp⟩ (hrd.resolve_left (by simp)) (fun j hj => ?_) hQ (fun _ h => by cases h)
        simp only [List.mem_singleton] at hj
        subst hj
        exact ⟨l, r, o, hi, ho, hok, hdep, hv, hgo, I.so⟩
    | fork x y _ _ =>
      intro F s g w a b listed done pn pend I hc hQ
      have hgo := I.go
      simp only [okPar, Bool.false_or, Bool.and_eq_true] at hgo
      have hfk : okPar P σ n ops (.fork x y) done pn true = true := by simp [okPar, hgo.1.2, hgo.2]
      exact I.choice hc _ (heads_some _ hfk) hgo.1.1 (fun j hj => okPar_choose _ hfk I.so hj) hQ (fun _ h => by cases h)
  | succ fuel ihf =>
    intro ls
    induction ls with
    | nil =>
      intro F s g w a b listed done pn pend I hc hQ
      refine ⟨fun hr => hQ _ _ (I.finish hr), fun i hi => ?_⟩
      obtain ⟨h1, o, ho, _⟩ := mem_ready.1 hi
      have hlt : i < listed.size := by rw [I.lsz]; exact lt_of_get ho
      rcases I.cases hi with ⟨p, hp, rfl⟩ | hd
      · exact I.pick hp hi fun a' b' I' => ihf _ _ _ _ _ _ _ _ _ _ _ I' (count_set hlt h1 hc) hQ
      · have hg := I.go
        simp only [okPar, Bool.and_eq_true, List.all_eq_true, List.mem_range, mem_iff] at hg
        exact absurd (hg.2 i (lt_of_get ho)) hd
    | cons l r ih =>
      intro F s g w a b listed done pn pend I hc hQ
      obtain ⟨i, o, hf, hi, ho, hok, hdep, ⟨_, hv, hgo⟩ | ⟨hv, hrd, hgo⟩⟩ := okPar_cons I.go
      · obtain ⟨F', b', I'⟩ := I.forth hi ho hok hdep hv hgo
        exact ih _ _ _ _ _ _ _ _ _ _ I' hc hQ
      · refine I.choice hc [i] ⟨i, by simp⟩ (hrd.resolve_left (by simp)) (fun j hj => ?_) hQ (fun fuel' h => by injection h with h; subst h; exact ihf)
        simp only [List.mem_singleton] at hj
        subst hj
        exact ⟨l, r, o, hi, ho, hok, hdep, hv, hgo, I.so⟩
    | fork x y _ _ =>
      intro F s g w a b listed done pn pend I hc hQ
      have hgo := I.go
      simp only [okPar, Bool.false_or, Bool.and_eq_true] at hgo
      have hfk : okPar P σ n ops (.fork x y) done pn true = true := by simp [okPar, hgo.1.2, hgo.2]
      exact I.choice hc _ (heads_some _ hfk) hgo.1.1 (fun j hj => okPar_choose _ hfk I.so hj) hQ (fun fuel' h => by injection h with h; subst h; exact ihf)

theorem par_sound {id : Nat} {Q : Go.Exit → Act → World → Prop} (hm : P.follows .mixedOrders = true) (hok : okPar P σ n ops ls [] [] false = true) (hS : STree P σ ls F s K) (hF : FRel σ g a.tmps F) (hs : a.tmps.size = n) (hdf : a.defers = [])
    (hsim : Sim σ g s w) (hQ : ∀ a' w', Res σ n g w K a' w' → Q .normal a' w') : (Go.Code.region id ops true).wp P Q a w := by
  have hk := Keep.draws g w (w.drawn + 1) (Nat.le_succ _)
  have hsim' := hsim.drawn (w.drawn + 1)
  refine wp_region_any hm (par_main ops.size ls F s g _ a a _ [] [] [] ⟨hok, hS, hsim', hF, hs, hs, hdf, fun _ _ => rfl, by simp, by simp, fun j hj => ?_, by simp, by simp, by simp, by simp, by simp, by simp⟩ ?_ fun a' w' hr => hQ _ _ (hr.from hk))
  · simp [Array.getD_eq_getD_getElem?, hj]
  · simp

def ofLos (l : List Lo) : Tree := Tree.app l .nil

theorem STree.of {P : Program} {σ : Nat → Nat} : ∀ (l : List Lo) (F : Frame) (s : St) (K : Frame → St → Prop), SOps P σ l F s K → STree P σ (ofLos l) F s K
  | [], _, _, _, h => h
  | l :: r, F, s, K, h => by
    have ih := fun F s => STree.of (P := P) (σ := σ) r F s K
    simp only [ofLos, Tree.app, STree, SOps] at h ⊢
    split
    · rename_i hw
      simp only [hw, if_true] at h
      split at h
      · obtain ⟨id, fi, ca, R, h1, h2, h3⟩ := h
        exact ⟨id, fi, ca, R, h1, h2, fun v s' hR => ⟨(h3 v s' hR).1, ih _ _ (h3 v s' hR).2⟩⟩
      · obtain ⟨h1, v, s', h2, h3⟩ := h
        exact ⟨h1, v, s', h2, ih _ _ h3⟩
      · obtain ⟨h1, s', h2, h3⟩ := h
        exact ⟨h1, s', h2, ih _ _ h3⟩
      · obtain ⟨v, s', h1, h2, h3⟩ := h
        exact ⟨v, s', h1, h2, ih _ _ h3⟩
    · rename_i hw
      simp only [hw] at h
      exact ih _ _ h

end
end Go.VS
