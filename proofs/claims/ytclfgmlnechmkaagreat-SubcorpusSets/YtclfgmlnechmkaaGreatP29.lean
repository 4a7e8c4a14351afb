/-
  Part 29 of 43 of the proof of SubcorpusSetsSaid, by an abstract machine that stands in for the Go program: lemmas without conditions of their own.
-/
import Derived.Test.YtclfgmlnechmkaaGreatP28
set_option linter.unusedSimpArgs false
set_option linter.unusedVariables false
namespace Go.VS

variable {P : Program} {σ : Nat → Nat} {g g' : G} {s s' : St} {w w' : World}

def isC : Operand → Bool
  | .const _ => true
  | _ => false

def ifcC (q : EqK) (x y : Operand) : Bool :=
  match q with
  | .ifc => isC x || isC y
  | _ => true

theorem eqGuard_nil {q : EqK} {op : BinOp} {t : Nat} {ox oy : Operand} {a b : Value} {r : Bool} (hv : nilEq (valNil q a) (valNil q b) = some r)
    (hc : ifcC q ox oy = true) (w : World) : (eqGuard op t ox oy a b).run P w = .ok () w := by
  cases a <;> cases q <;> simp only [valNil, nilEq, reduceCtorEq] at hv
  all_goals first
    | (rw [eqGuard_at_pointer]; rfl)
    | (rw [eqGuard_at_slice]; rfl)
    | (rw [eqGuard_at_map]; rfl)
    | (rw [eqGuard_at_func]; rfl)
    | (rw [eqGuard_at_nilFunc]; rfl)
    | (rw [eqGuard_at_iface]; rfl)
    | skip
  cases b <;> simp only [reduceCtorEq] at hv
  · rw [eqGuard_nil_iface]; rfl
  · simp only [ifcC, Bool.or_eq_true] at hc
    rcases hc with hc | hc
    · cases ox <;> simp only [isC, Bool.false_eq_true] at hc; rw [eqGuard_nil_constL]; rfl
    · cases oy <;> simp only [isC, Bool.false_eq_true] at hc; rw [eqGuard_nil_constR]; rfl

def okParts (P : Program) (σ : Nat → Nat) (place : Nat → Option (Nat × Nat)) : List (Nat × Operand) → List (Nat × Nat × Opd) → Bool
  | [], [] => true
  | (i, x) :: ps, (off, k, y) :: qs => (match place i with | some (a, b) => Nat.beq a off && Nat.beq b k | none => false) && okOpd σ x y && okParts P σ place ps qs
  | _, _ => false

theorem okParts_rel {place : Nat → Option (Nat × Nat)} {a : Act} {F : Frame} (hF : FRel σ g a.tmps F) : ∀ {ps : List (Nat × Operand)} {qs : List (Nat × Nat × Opd)}, okParts P σ place ps qs = true →
    PartsRel σ g place (ps.map fun p => (p.1, a.eval p.2)) (qs.map fun p => (p.1, p.2.1, p.2.2.ev F))
  | [], [], _ => trivial
  | (i, x) :: ps, (off, k, y) :: qs, h => by
    simp only [okParts, Bool.and_eq_true] at h
    obtain ⟨⟨h1, h2⟩, h3⟩ := h
    refine ⟨?_, okOpd_rel hF h2, okParts_rel hF h3⟩
    split at h1
    · rename_i c d hcd
      simp only [Bool.and_eq_true, Nat.beq_eq] at h1
      obtain ⟨rfl, rfl⟩ := h1
      exact hcd
    · cases h1
  | [], _ :: _, h => by simp [okParts] at h
  | _ :: _, [], h => by simp [okParts] at h

def okPartsL (σ : Nat → Nat) : List (Nat × Operand) → List (Nat × Opd) → Bool
  | [], [] => true
  | (i, x) :: ps, (j, y) :: qs => Nat.beq i j && okOpd σ x y && okPartsL σ ps qs
  | _, _ => false

theorem okPartsL_rel {a : Act} {F : Frame} (hF : FRel σ g a.tmps F) : ∀ {ps : List (Nat × Operand)} {qs : List (Nat × Opd)}, okPartsL σ ps qs = true →
    PartsRelL σ g (ps.map fun p => (p.1, a.eval p.2)) (qs.map fun p => (p.1, p.2.ev F))
  | [], [], _ => trivial
  | (i, x) :: ps, (j, y) :: qs, h => by
    simp only [okPartsL, Bool.and_eq_true, Nat.beq_eq] at h
    obtain ⟨⟨h1, h2⟩, h3⟩ := h
    exact ⟨h1, okOpd_rel hF h2, okPartsL_rel hF h3⟩
  | [], _ :: _, h => by simp [okPartsL] at h
  | _ :: _, [], h => by simp [okPartsL] at h

/-- The operations that only compute. -/
def okPure (P : Program) (σ : Nat → Nat) : Op → VOp → Bool
  | .move x, .mv y => okOpd σ x y
  | .assign x, .mv y => okOpd σ x y
  | .pick c a b, .pick c' a' b' => okOpd σ c c' && okOpd σ a a' && okOpd σ b b'
  | .build t ps, .build z qs =>
    tyZero P t z && (match P.underlying t with
      | some (.struct fs) => fs.toList.all (fun f => (P.info? f.type).isSome) && okParts P σ (fun (j : Nat) => (placesOf P fs.toList)[j]?) ps.toList qs
      | some (.array _ e) => tyInfo P e (fun i => okParts P σ (fun j => some (j * i.size, i.size)) ps.toList qs)
      | _ => false)
  | .nilCheck x, .nilck y => okOpd σ x y
  | .binOp .eql t x y _, .eq q ng x' y' => !ng && okOpd σ x x' && okOpd σ y y' && (match q with | .agg ks => aggTypeOk P ks t | .bool => eqTypeOk P .bool t | q => eqTypeOk P q t && ifcC q x y)
  | .binOp .neq t x y _, .eq q ng x' y' => ng && okOpd σ x x' && okOpd σ y y' && (match q with | .agg ks => aggTypeOk P ks t | .bool => eqTypeOk P .bool t | q => eqTypeOk P q t && ifcC q x y)
  | .binOp op _ x y _, .bin op' x' y' => decide (op = op') && okOpd σ x x' && okOpd σ y y'
  | .unOp op _ x, .un op' y => decide (op = op') && okOpd σ x y
  | .convert src dst x, .conv (.ii k) y => okOpd σ x y && tyDesc P src (fun _ => true) && tyDesc P dst (fun d => match d with | .int k' => decide (k' = k) | _ => false)
  | .convert src dst x, .conv .ss y => okOpd σ x y && tyDesc P src (fun _ => true) && tyDesc P dst (fun d => match d with | .string => true | _ => false)
  | .makeFunc (.func f) xs ys, .mkfn F xs' ys' => Nat.beq (σ F) f && all2 (okOpd σ) xs.toList xs' && all2 (okOpd σ) ys.toList ys'
  | .makeInterface t x, .mkifc t' y => Nat.beq t t' && okOpd σ x y && tyDesc P t (fun d => match d with | .interface _ => false | _ => true)
  | .slice t x lo hi none, .slice st k y lo' hi' none => okOpd σ x y && okOpt σ lo lo' && okOpt σ hi hi' && (if st then tyDesc P t (fun d => match d with | .string => true | _ => false) else tySl P t k)
  | .fieldAddr t x f, .fld off y => okOpd σ x y && fieldOk P t f (fun fd => Nat.beq fd.offset off && tyInfo P fd.type (fun i => !Nat.beq i.size 0))
  | .field t x f, .getf off k ag y => okOpd σ x y && fieldOk P t f (fun fd => Nat.beq fd.offset off && tyK P fd.type k ag)
  | .indexAddr t x i, .idx k y j => okOpd σ x y && okOpd σ i j && tySl P t k
  | .indexAddr t x i, .idxa n k y j => okOpd σ x y && okOpd σ i j && arrOk P t n (fun e => tyInfo P e (fun i => Nat.beq i.size k))
  | .index t x i, .idxs y j => okOpd σ x y && okOpd σ i j && tyDesc P t (fun d => match d with | .string => true | _ => false)
  | .index t x i, .idxv n k ag y j => okOpd σ x y && okOpd σ i j && arrOk P t n (fun e => tyK P e k ag)
  | .extract x i, .ext y j => okOpd σ x y && Nat.beq i j
  | .call ⟨.builtin .len, args, tys⟩, .len st y =>
    (match args.toList, tys.toList with
      | [x], [t] => okOpd σ x y && (if st then tyDesc P t (fun d => match d with | .string => true | _ => false) else tyDesc P t (fun d => match d with | .slice _ => true | _ => false))
      | _, _ => false)
  | .call ⟨.builtin .max, args, _⟩, .mm mx y z => mx && all2 (okOpd σ) args.toList [y, z]
  | .call ⟨.builtin .min, args, _⟩, .mm mx y z => !mx && all2 (okOpd σ) args.toList [y, z]
  | _, _ => false

theorem tyStr {t : Nat} (h : tyDesc P t (fun d => match d with | .string => true | _ => false) = true) : P.underlying t = some .string := by
  obtain ⟨d, h1, h2⟩ := tyDesc_some h
  cases d <;> simp at h2
  exact h1

theorem toList1 {α : Type} {a : Array α} {x : α} (h : a.toList = [x]) : a = #[x] := by apply Array.ext'; simpa using h
theorem toList2 {α : Type} {a : Array α} {x y : α} (h : a.toList = [x, y]) : a = #[x, y] := by apply Array.ext'; simpa using h

/-- It yields one value, whatever the world. -/
def PureOp (P : Program) (σ : Nat → Nat) (g : G) (o : Oper) (a : Act) (v : V) : Prop := ∃ val, VRel σ g val v ∧ ∀ w, (execOp a.eval o).run P w = .ok (.value val) w

theorem vrun (sem : Sem Value) (w : World) : (do pure (Next.value (← sem)) : Sem Next).run P w = (sem.run P w).andThen fun x w' => .ok (.value x) w' := Sem.run_bind' P sem _ w

theorem PureOp.of1 {o : Oper} {a : Act} {v : V} {sem : Sem Value} (h : Pure1 P σ g sem v) (he : ∀ w, (execOp a.eval o).run P w = (sem.run P w).andThen fun x w' => .ok (.value x) w') : PureOp P σ g o a v := by
  obtain ⟨val, h1, h2⟩ := h
  exact ⟨val, h1, fun w => by rw [he, h2]; rfl⟩

end Go.VS
