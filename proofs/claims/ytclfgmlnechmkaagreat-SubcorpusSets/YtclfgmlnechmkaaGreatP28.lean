/-
  Part 28 of 43 of the proof of SubcorpusSetsSaid, by an abstract machine that stands in for the Go program: lemmas without conditions of their own.
-/
import Derived.Test.YtclfgmlnechmkaaGreatP27
set_option linter.unusedSimpArgs false
set_option linter.unusedVariables false
namespace Go.VS

variable {P : Program} {σ : Nat → Nat} {g g' : G} {s s' : St} {w w' : World}

def all2 {α β : Type} (f : α → β → Bool) : List α → List β → Bool
  | [], [] => true
  | a :: as, b :: bs => f a b && all2 f as bs
  | _, _ => false

theorem all2_get {α β : Type} {f : α → β → Bool} : ∀ {as : List α} {bs : List β}, all2 f as bs = true → as.length = bs.length ∧ ∀ (i : Nat) a b, as[i]? = some a → bs[i]? = some b → f a b = true
  | [], [], _ => ⟨rfl, fun i a b h => by simp at h⟩
  | a :: as, b :: bs, h => by
    simp only [all2, Bool.and_eq_true] at h
    obtain ⟨h1, h2⟩ := all2_get h.2
    refine ⟨by simp [h1], fun i x y hx hy => ?_⟩
    cases i with
    | zero => simp only [List.getElem?_cons_zero, Option.some.injEq] at hx hy; rw [← hx, ← hy]; exact h.1
    | succ i => exact h2 i x y hx hy
  | [], _ :: _, h => by simp [all2] at h
  | _ :: _, [], h => by simp [all2] at h

def cvScalar : Value → V → Bool
  | .int k n, .int k' m => decide (k = k') && decide (n = m)
  | .bool a, .bool b => a == b
  | .string t, .str l => (t.data.toList.map UInt8.toNat) == l
  | .slice none n m, .nilsl => Nat.beq n 0 && Nat.beq m 0
  | .pointer none, .nilptr => true
  | .map none, .nilmap => true
  | .nilFunc, .nilfn => true
  | .nilIface, .niliface => true
  | _, _ => false

theorem cvScalar_rel {v : Value} {x : V} (h : cvScalar v x = true) : VRel σ g v x ∧ x.isCell = true := by
  unfold cvScalar at h
  split at h
  · simp only [Bool.and_eq_true, decide_eq_true_eq] at h; obtain ⟨rfl, rfl⟩ := h; exact ⟨.int _ _, rfl⟩
  · simp only [beq_iff_eq] at h; subst h; exact ⟨.bool _, rfl⟩
  · simp only [beq_iff_eq] at h; exact ⟨.str h, rfl⟩
  · simp only [Bool.and_eq_true, Nat.beq_eq] at h; obtain ⟨rfl, rfl⟩ := h; exact ⟨.nilsl, rfl⟩
  · exact ⟨.nilptr, rfl⟩
  · exact ⟨.nilmap, rfl⟩
  · exact ⟨.nilfn, rfl⟩
  · exact ⟨.niliface, rfl⟩
  · cases h

def cvOk : Value → V → Bool
  | .agg cs, .agg xs => all2 cvScalar cs.toList xs
  | .tuple vs, .tup xs => vs.toList.isEmpty && xs.isEmpty
  | v, x => cvScalar v x

theorem cvOk_rel {v : Value} {x : V} (h : cvOk v x = true) : VRel σ g v x := by
  unfold cvOk at h
  split at h
  · obtain ⟨h1, h2⟩ := all2_get h
    refine .agg (by simpa using h1) (fun y hy => ?_) (fun i v x a b => (cvScalar_rel (h2 i v x (by simpa using a) b)).1)
    obtain ⟨i, hi⟩ := List.getElem?_of_mem hy
    have hlt : i < _ := (List.getElem?_eq_some_iff.1 hi).1
    rw [← h1] at hlt
    exact (cvScalar_rel (σ := id) (g := ⟨fun _ _ => none, fun _ _ => none, fun _ => none⟩) (h2 i _ y (List.getElem?_eq_getElem hlt) hi)).2
  · rename_i vs xs
    simp only [Bool.and_eq_true, List.isEmpty_iff] at h
    obtain ⟨h1, rfl⟩ := h
    have : vs = #[] := by apply Array.ext'; simpa using h1
    subst this
    exact VRel.undef _ _
  · exact (cvScalar_rel h).1

def zeroOk (zc : Array Value) (z : List V) : Bool := all2 cvScalar zc.toList z

theorem zeroOk_rel {zc : Array Value} {z : List V} (h : zeroOk zc z = true) : ZeroRel zc z := by
  obtain ⟨h1, h2⟩ := all2_get h
  refine ⟨by simpa using h1, fun y hy => ?_, fun σ g i u y a b => (cvScalar_rel (h2 i u y (by simpa using a) b)).1⟩
  obtain ⟨i, hi⟩ := List.getElem?_of_mem hy
  have hlt : i < _ := (List.getElem?_eq_some_iff.1 hi).1
  rw [← h1] at hlt
  exact (cvScalar_rel (σ := id) (g := ⟨fun _ _ => none, fun _ _ => none, fun _ => none⟩) (h2 i _ y (List.getElem?_eq_getElem hlt) hi)).2

/-! ### operands -/

def okOpd (σ : Nat → Nat) : Operand → Opd → Bool
  | .tmp t, .t u => Nat.beq t u
  | .const v, .c x => cvOk v x
  | .func f, .c (.fn F [] []) => Nat.beq (σ F) f
  | _, _ => false

def FRel (σ : Nat → Nat) (g : G) (tmps : Array Value) (F : Frame) : Prop := ∀ i, VRel σ g (tmps.getD i Go.undef) (F i)

theorem FRel.mono {tmps : Array Value} {F : Frame} (hg : G.Le g g') (h : FRel σ g tmps F) : FRel σ g' tmps F := fun i => (h i).mono hg

theorem okOpd_rel {a : Act} {F : Frame} {x : Operand} {y : Opd} (hF : FRel σ g a.tmps F) (h : okOpd σ x y = true) : VRel σ g (a.eval x) (y.ev F) := by
  unfold okOpd at h
  split at h
  · simp only [Nat.beq_eq] at h; subst h; exact hF _
  · exact cvOk_rel h
  · simp only [Nat.beq_eq] at h; subst h
    exact .fn rfl rfl (fun i v x h => by simp at h) (fun i v x h => by simp at h)
  · cases h

theorem okOpds_rel {a : Act} {F : Frame} {xs : List Operand} {ys : List Opd} (hF : FRel σ g a.tmps F) (h : all2 (okOpd σ) xs ys = true) :
    (xs.map a.eval).length = (ys.map (Opd.ev F)).length ∧ ∀ (i : Nat) v x, (xs.map a.eval)[i]? = some v → (ys.map (Opd.ev F))[i]? = some x → VRel σ g v x := by
  obtain ⟨h1, h2⟩ := all2_get h
  refine ⟨by simpa using h1, fun i v x a1 a2 => ?_⟩
  rw [List.getElem?_map] at a1 a2
  cases e1 : xs[i]? with
  | none => rw [e1] at a1; cases a1
  | some o =>
    cases e2 : ys[i]? with
    | none => rw [e2] at a2; cases a2
    | some p =>
      rw [e1] at a1; rw [e2] at a2
      simp only [Option.map_some, Option.some.injEq] at a1 a2
      rw [← a1, ← a2]
      exact okOpd_rel hF (h2 i o p e1 e2)

def okOpt (σ : Nat → Nat) : Option Operand → Option Opd → Bool
  | none, none => true
  | some x, some y => okOpd σ x y
  | _, _ => false

theorem okOpt_rel {a : Act} {F : Frame} {x : Option Operand} {y : Option Opd} (hF : FRel σ g a.tmps F) (h : okOpt σ x y = true) : OptRel σ g (x.map a.eval) (y.map (Opd.ev F)) := by
  cases x <;> cases y <;> simp only [okOpt, Bool.false_eq_true] at h
  · trivial
  · exact okOpd_rel hF h

/-! ### types -/

def tyInfo (P : Program) (t : Nat) (f : TypeInfo → Bool) : Bool := match P.info? t with | some i => f i | none => false

theorem tyInfo_some {t : Nat} {f : TypeInfo → Bool} (h : tyInfo P t f = true) : ∃ i, P.info? t = some i ∧ f i = true := by
  unfold tyInfo at h
  cases hi : P.info? t with
  | none => rw [hi] at h; cases h
  | some i => rw [hi] at h; exact ⟨i, rfl, h⟩

def tyDesc (P : Program) (t : Nat) (f : TypeDesc → Bool) : Bool := match P.underlying t with | some d => f d | none => false

theorem tyDesc_some {t : Nat} {f : TypeDesc → Bool} (h : tyDesc P t f = true) : ∃ d, P.underlying t = some d ∧ f d = true := by
  unfold tyDesc at h
  cases hi : P.underlying t with
  | none => rw [hi] at h; cases h
  | some d => rw [hi] at h; exact ⟨d, rfl, h⟩

/-- A type of k cells, a struct or array just where ag says so. -/
def tyK (P : Program) (t k : Nat) (ag : Bool) : Bool := tyDesc P t (fun d => aggDesc d == ag) && tyInfo P t (fun i => Nat.beq i.size k)

theorem tyK_some {t k : Nat} {ag : Bool} (h : tyK P t k ag = true) : ∃ d i, P.underlying t = some d ∧ aggDesc d = ag ∧ P.info? t = some i ∧ i.size = k := by
  simp only [tyK, Bool.and_eq_true] at h
  obtain ⟨d, h1, h2⟩ := tyDesc_some h.1
  obtain ⟨i, h3, h4⟩ := tyInfo_some h.2
  exact ⟨d, i, h1, by simpa using h2, h3, by simpa using h4⟩

/-- A slice type whose elements have k cells. -/
def tySl (P : Program) (t k : Nat) : Bool := match P.underlying t with | some (.slice e) => tyInfo P e (fun i => Nat.beq i.size k) | _ => false

theorem tySl_some {t k : Nat} (h : tySl P t k = true) : ∃ e i, P.underlying t = some (.slice e) ∧ P.info? e = some i ∧ i.size = k := by
  unfold tySl at h
  split at h
  · rename_i e he
    obtain ⟨i, h1, h2⟩ := tyInfo_some h
    exact ⟨e, i, he, h1, by simpa using h2⟩
  · cases h

def fieldOk (P : Program) (t f : Nat) (p : Field → Bool) : Bool :=
  match P.underlying t with
  | some (.struct fs) => match fs[f]? with | some fd => p fd | none => false
  | _ => false

theorem fieldOk_some {t f : Nat} {p : Field → Bool} (h : fieldOk P t f p = true) : ∃ fs fd, P.underlying t = some (.struct fs) ∧ fs[f]? = some fd ∧ p fd = true := by
  unfold fieldOk at h
  split at h
  · rename_i fs hfs
    split at h
    · rename_i fd hfd; exact ⟨fs, fd, hfs, hfd, h⟩
    · cases h
  · cases h

def arrOk (P : Program) (t n : Nat) (p : Nat → Bool) : Bool := match P.underlying t with | some (.array m e) => Nat.beq m n && p e | _ => false

theorem arrOk_some {t n : Nat} {p : Nat → Bool} (h : arrOk P t n p = true) : ∃ e, P.underlying t = some (.array n e) ∧ p e = true := by
  unfold arrOk at h
  split at h
  · rename_i m e he
    simp only [Bool.and_eq_true, Nat.beq_eq] at h
    obtain ⟨rfl, h⟩ := h
    exact ⟨e, he, h⟩
  · cases h

/-- A type with these zero cells. -/
def tyZero (P : Program) (t : Nat) (z : List V) : Bool := tyInfo P t (fun i => match i.zero with | some zv => zeroOk zv.cells z | none => false)

theorem tyZero_some {t : Nat} {z : List V} (h : tyZero P t z = true) : ∃ i zv, P.info? t = some i ∧ i.zero = some zv ∧ ZeroRel zv.cells z := by
  obtain ⟨i, h1, h2⟩ := tyInfo_some h
  split at h2
  · rename_i zv hz; exact ⟨i, zv, h1, hz, zeroOk_rel h2⟩
  · cases h2

def zeroVOk (z : V) (k : Nat) : Bool := Nat.beq z.cells.length k && z.notTup

/-- The elements of a slice type: k cells, these zero cells, so many bytes. -/
def tyElem (P : Program) (t k : Nat) (z : V) (by_ : Option Nat) : Bool :=
  match P.underlying t with
  | some (.slice e) => tyZero P e z.cells && zeroVOk z k && tyInfo P e (fun i => Nat.beq i.size k && (match by_ with | some b => Nat.beq i.bytes b | none => true))
  | _ => false

theorem tyElem_some {t k : Nat} {z : V} {by_ : Option Nat} (h : tyElem P t k z by_ = true) :
    ∃ e i zv, P.underlying t = some (.slice e) ∧ P.info? e = some i ∧ i.size = k ∧ i.zero = some zv ∧ ZeroV zv.cells z k ∧ (∀ b, by_ = some b → i.bytes = b) := by
  unfold tyElem at h
  split at h
  · rename_i e he
    simp only [Bool.and_eq_true, zeroVOk, Nat.beq_eq] at h
    obtain ⟨⟨h1, h2, h3⟩, h4⟩ := h
    obtain ⟨i, zv, a1, a2, a3⟩ := tyZero_some h1
    obtain ⟨i', b1, b2⟩ := tyInfo_some h4
    rw [a1] at b1; cases b1
    simp only [Bool.and_eq_true, Nat.beq_eq] at b2
    refine ⟨e, i, zv, he, a1, b2.1, a2, ⟨a3, h2, h3⟩, fun b hb => ?_⟩
    subst hb
    simpa using b2.2
  · cases h

end Go.VS
