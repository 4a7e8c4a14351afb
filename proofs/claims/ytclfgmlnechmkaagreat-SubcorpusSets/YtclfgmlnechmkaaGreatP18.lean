/-
  Part 18 of 43 of the proof of SubcorpusSetsSaid, by an abstract machine that stands in for the Go program: lemmas without conditions of their own.
-/
import Derived.Test.YtclfgmlnechmkaaGreatP17
set_option linter.unusedSimpArgs false
set_option linter.unusedVariables false
namespace Go.VS

variable {P : Program} {σ : Nat → Nat} {g : G}

theorem bytes_beq (a b : ByteArray) : (a.toList == b.toList) = (bytesOf a == bytesOf b) := by
  rw [ByteArray.toList_eq, ByteArray.toList_eq]
  unfold bytesOf
  generalize a.data.toList = x; generalize b.data.toList = y
  induction x generalizing y with
  | nil => cases y <;> rfl
  | cons u x ih =>
    cases y with
    | nil => rfl
    | cons v y =>
      simp only [List.map_cons, List.cons_beq_cons, ih]
      congr 1
      rw [Bool.eq_iff_iff]; simp [UInt8.toNat_inj]

theorem bytes_less (a b : ByteArray) : Op.bytesLess a.toList b.toList = lessN (bytesOf a) (bytesOf b) := by
  rw [ByteArray.toList_eq, ByteArray.toList_eq]
  unfold bytesOf
  generalize a.data.toList = x; generalize b.data.toList = y
  induction x generalizing y with
  | nil => cases y <;> rfl
  | cons u x ih =>
    cases y with
    | nil => rfl
    | cons v y =>
      simp only [List.map_cons, Op.bytesLess, lessN, ih]
      congr 1
      · rw [Bool.eq_iff_iff]; simp [UInt8.lt_iff_toNat_lt, Nat.blt_eq]
      · congr 1
        rw [Bool.eq_iff_iff]; simp [UInt8.toNat_inj, Nat.beq_eq]

theorem bytesOf_append (a b : ByteArray) : bytesOf (a ++ b) = bytesOf a ++ bytesOf b := by
  unfold bytesOf
  rw [ByteArray.data_append]; simp

theorem pure_bin {op : BinOp} {a b : Value} {x y v : V} {t : Nat} {ox oy : Operand} (ha : VRel σ g a x) (hb : VRel σ g b y) (hv : binV op x y = some v) :
    Pure1 P σ g (do eqGuard op t ox oy a b; binOp op t a b) v := by
  cases ha
  case int k m =>
    cases hb
    case int k' n =>
      cases op <;> simp only [binV, shiftV, binInt] at hv
      case shl =>
        split at hv
        · simp at hv
        · rename_i hn
          simp only [Option.some.injEq] at hv; subst hv
          exact .of _ (.int _ _) (fun w => by simp [eqGuard_at_int, binOp_shl, Op.shift, hn])
      case shr =>
        split at hv
        · simp at hv
        · rename_i hn
          simp only [Option.some.injEq] at hv; subst hv
          exact .of _ (.int _ _) (fun w => by simp [eqGuard_at_int, binOp_shr, Op.shift, hn])
      all_goals
        split at hv
        · rename_i hk; subst hk
          try simp only [Option.some.injEq] at hv
          first
            | (subst hv; exact .of _ (.int _ _) (fun w => by simp [eqGuard_at_int, binOp_add, binOp_sub, binOp_mul, binOp_and, binOp_or, binOp_xor, binOp_andNot, Op.intArith, Op.intBits]))
            | (subst hv; exact .of _ (.bool _) (fun w => by simp [eqGuard_at_int, binOp_eql, binOp_neq, binOp_lss, binOp_leq, binOp_gtr, binOp_geq]))
            | (split at hv
               · simp at hv
               · rename_i hz; simp only [Option.some.injEq] at hv; subst hv
                 exact .of _ (.int _ _) (fun w => by simp [eqGuard_at_int, binOp_quo, binOp_rem, Op.intDiv, hz]))
        · simp at hv
    all_goals (cases op <;> simp [binV] at hv)
  case str s1 l1 h1 =>
    cases hb
    case str s2 l2 h2 =>
      subst h1; subst h2
      cases op <;> simp only [binV, binStr, Option.some.injEq, reduceCtorEq] at hv
      case add =>
        split at hv
        · rename_i hle
          simp only [Option.some.injEq] at hv; subst hv
          rw [bytesOf_length, bytesOf_length] at hle
          unfold most at hle
          have hlt : ¬ ((s1.size : Int) + (s2.size : Int) > 9223372036854775807) := by omega
          refine .of (.string (s1 ++ s2)) (.str (bytesOf_append _ _)) (fun w => ?_)
          simp only [Sem.run_bind, eqGuard_at_string, Sem.run_pure, Result.andThen_ok, binOp, Op.stringOp, IntKind.max_i64, Int.natCast_add, Sem.run_ite]
          rw [if_neg hlt]
        · simp at hv
      all_goals
        subst hv
        exact .of _ (.bool _) (fun w => by simp [eqGuard_at_string, binOp, Op.stringOp, bytes_beq, bytes_less])
    all_goals (cases op <;> simp [binV] at hv)
  all_goals (cases op <;> simp [binV] at hv)

/-! ### '==' against nil, on bools, on structs of plain cells -/

def eqTypeOk (P : Program) (q : EqK) (t : Nat) : Bool :=
  match q, P.underlying t with
  | .bool, some .bool => true
  | .sl, some (.slice _) => true
  | .ptr, some (.pointer _) => true
  | .map, some (.map _ _) => true
  | .fn, some (.func _ _ _) => true
  | .ifc, some (.interface _) => true
  | _, _ => false

def ekOk (P : Program) (k : EK) (t : Nat) : Bool :=
  match k, P.underlying t with | .i, some (.int _) => true | .s, some .string => true | .b, some .bool => true | _, _ => false

def fieldsFlat (P : Program) : List EK → List Field → Nat → Bool
  | [], [], _ => true
  | k :: ks, f :: fs, off =>
    f.name != "_" && f.offset == off && ekOk P k f.type && fieldsFlat P ks fs (off + 1)
  | _, _, _ => false

theorem ekOk_desc {k : EK} {t : Nat} (h : ekOk P k t = true) : ∃ d, P.underlying t = some d ∧ aggDesc d = false ∧ (match k with | .i => ∃ q, d = .int q | .s => d = .string | .b => d = .bool) := by
  unfold ekOk at h
  cases hu : P.underlying t with
  | none => rw [hu] at h; cases k <;> simp at h
  | some d =>
    rw [hu] at h
    cases k <;> cases d <;> simp at h <;> first | exact ⟨_, rfl, rfl, _, rfl⟩ | exact ⟨_, rfl, rfl, rfl⟩

theorem scalar_run {k : EK} {a b : Value} {x y : V} {r : Bool} {d t : Nat} (ha : VRel σ g a x) (hb : VRel σ g b y) (hv : scalarEq k x y = some r)
    (ht : ekOk P k t = true) (w : World) : (Op.equalIn (d + 1) t a b).run P w = .ok r w := by
  obtain ⟨q, hu, _, hq⟩ := ekOk_desc ht
  cases k <;> cases ha <;> simp only [scalarEq, reduceCtorEq] at hv <;> cases hb <;> simp only [reduceCtorEq] at hv
  · obtain ⟨q, rfl⟩ := hq
    split at hv
    · rename_i hk; subst hk; simp only [Option.some.injEq] at hv; subst hv
      simp [Op.equalIn, run_underlying hu]
    · simp at hv
  · rename_i h1 _ _ h2
    subst h1; subst h2; subst hq
    simp only [Option.some.injEq] at hv; subst hv
    rw [run_equalIn_string w d t _ _ hu, bytes_beq]
  · simp only [Option.some.injEq] at hv; subst hv; subst hq
    simp [Op.equalIn, run_underlying hu]

theorem scalar_part {k : EK} {t off : Nat} {vs : Array Value} {a : Value} (hv : vs[off]? = some a) (ht : ekOk P k t = true) (w : World) :
    (part t vs off).run P w = .ok a w := by
  obtain ⟨d, hd, hag, _⟩ := ekOk_desc ht
  simp [part, run_isAgg hd, hag, hv]

theorem fields_run {d : Nat} {vs us : Array Value} : ∀ (ks : List EK) (fs : List Field) (off : Nat) (xs ys : List V) (r : Bool) (w : World),
    fieldsFlat P ks fs off = true → cellsEq ks xs ys = some r →
    (∀ (i : Nat) x, xs[i]? = some x → ∃ v, vs[off + i]? = some v ∧ VRel σ g v x) → (∀ (i : Nat) x, ys[i]? = some x → ∃ v, us[off + i]? = some v ∧ VRel σ g v x) →
    (Op.eqFields (d + 1) vs us fs).run P w = .ok r w
  | [], [], off, xs, ys, r, w, hf, hc, _, _ => by
    cases xs <;> cases ys <;> simp [cellsEq] at hc
    subst hc; rfl
  | k :: ks, f :: fs, off, xs, ys, r, w, hf, hc, h1, h2 => by
    simp only [fieldsFlat, Bool.and_eq_true, bne_iff_ne, beq_iff_eq] at hf
    obtain ⟨⟨⟨hn, ho⟩, ht⟩, hr⟩ := hf
    cases xs with
    | nil => cases ys <;> simp [cellsEq] at hc
    | cons x xs =>
      cases ys with
      | nil => simp [cellsEq] at hc
      | cons y ys =>
        obtain ⟨a, ha1, ha2⟩ := h1 0 x rfl
        obtain ⟨b, hb1, hb2⟩ := h2 0 y rfl
        rw [Nat.add_zero] at ha1 hb1
        simp only [cellsEq] at hc
        cases hs : scalarEq k x y with
        | none => rw [hs] at hc; simp at hc
        | some q =>
          rw [hs] at hc
          simp only [Op.eqFields, ne_eq, hn, not_false_eq_true, if_true, Sem.run_bind]
          rw [ho, scalar_part ha1 ht, Result.andThen_ok, scalar_part hb1 ht, Result.andThen_ok, scalar_run ha2 hb2 hs ht, Result.andThen_ok]
          cases q with
          | true =>
            simp only [Bool.not_true, Bool.false_eq_true, if_false]
            refine fields_run ks fs (off + 1) xs ys r w hr hc (fun i x hx => ?_) (fun i x hx => ?_)
            · have := h1 (i + 1) x hx; rwa [show off + (i + 1) = off + 1 + i from by omega] at this
            · have := h2 (i + 1) x hx; rwa [show off + (i + 1) = off + 1 + i from by omega] at this
          | false =>
            simp only [Option.some.injEq] at hc
            subst hc
            simp
  | [], _ :: _, _, _, _, _, _, hf, _, _, _ => by simp [fieldsFlat] at hf
  | _ :: _, [], _, _, _, _, _, hf, _, _, _ => by simp [fieldsFlat] at hf

def aggTypeOk (P : Program) (ks : List EK) (t : Nat) : Bool :=
  match P.underlying t with
  | some (.struct fs) => fieldsFlat P ks fs.toList 0 && !P.stoodInHeld t && !P.eqGuardType P.depth t
  | _ => false

theorem pure_eqagg {neg : Bool} {a b : Value} {x y : V} {r : Bool} {t : Nat} {ks : List EK} {ox oy : Operand} (ha : VRel σ g a x) (hb : VRel σ g b y)
    (hv : eqV (.agg ks) x y = some r) (ht : aggTypeOk P ks t = true) :
    Pure1 P σ g (do eqGuard (bif neg then .neq else .eql) t ox oy a b; binOp (bif neg then .neq else .eql) t a b) (.bool (bif neg then !r else r)) := by
  simp only [eqV] at hv
  cases ha <;> (try simp only [reduceCtorEq] at hv)
  case agg vs xs hl hc h =>
    cases hb <;> (try simp only [reduceCtorEq] at hv)
    case agg us ys hl' hc' h' =>
      unfold aggTypeOk at ht
      split at ht
      · rename_i fs hu
        simp only [Bool.and_eq_true, Bool.not_eq_true'] at ht
        obtain ⟨⟨hf, hst⟩, hgd⟩ := ht
        have hu' : P.underlying t = some (.struct (P.fieldsOf t)) := by simp [Program.fieldsOf, hu]
        have hfs : P.fieldsOf t = fs := by simp [Program.fieldsOf, hu]
        have run : ∀ w, (Op.equalIn 10000 t (.agg vs) (.agg us)).run P w = .ok r w := by
          intro w
          rw [run_equalIn_struct w 9999 t vs us hu' hst, hfs]
          refine fields_run (σ := σ) (g := g) ks fs.toList 0 xs ys r w hf hv (fun i x hx => ?_) (fun i x hx => ?_)
          · have hlt := (List.getElem?_eq_some_iff.1 hx).1
            have hg : vs[i]? = some vs[i] := Array.getElem?_eq_getElem (by omega)
            exact ⟨vs[i], by rw [Nat.zero_add]; exact hg, h _ _ _ hg hx⟩
          · have hlt := (List.getElem?_eq_some_iff.1 hx).1
            have hg : us[i]? = some us[i] := Array.getElem?_eq_getElem (by omega)
            exact ⟨us[i], by rw [Nat.zero_add]; exact hg, h' _ _ _ hg hx⟩
        refine .of _ (.bool _) (fun w => ?_)
        rw [Sem.run_bind, run_eqGuard_agg w _ t ox oy vs us hgd, Result.andThen_ok]
        cases neg
        · simp only [cond_false]; rw [run_eql_struct, run]; rfl
        · simp only [cond_true]; rw [run_neq_struct, run]; rfl
      · simp at ht

def nilEq : Option Bool → Option Bool → Option Bool
  | some true, some b => some b
  | some false, some true => some false
  | _, _ => none

def valNil (q : EqK) (a : Value) : Option Bool :=
  match q, a with
  | .sl, .slice p _ _ => some p.isNone
  | .ptr, .pointer p => some p.isNone
  | .map, .map r => some r.isNone
  | .fn, .nilFunc => some true
  | .fn, .func _ _ _ => some false
  | .ifc, .nilIface => some true
  | .ifc, .iface _ _ => some false
  | _, _ => none

theorem valNil_of {q : EqK} {a : Value} {x : V} {b : Bool} (h : VRel σ g a x) (hx : isNil q x = some b) : valNil q a = some b := by
  cases h <;> cases q <;> simp only [isNil, reduceCtorEq, Option.some.injEq] at hx <;> subst hx <;> rfl

theorem equalIn_val {q : EqK} {a b : Value} {r : Bool} {t d : Nat} (hv : nilEq (valNil q a) (valNil q b) = some r) (ht : eqTypeOk P q t = true) (w : World) :
    (Op.equalIn (d + 1) t a b).run P w = .ok r w := by
  unfold eqTypeOk at ht
  cases hu : P.underlying t with
  | none => rw [hu] at ht; cases q <;> simp at ht
  | some ds =>
    rw [hu] at ht
    cases q
    case sl =>
      cases ds <;> simp only [Bool.false_eq_true] at ht
      cases a <;> simp only [valNil, nilEq, reduceCtorEq] at hv
      rename_i p _ _
      cases p <;> simp only [Option.isNone_none, Option.isNone_some] at hv <;> cases b <;> simp only [reduceCtorEq] at hv
      · simp only [Option.some.injEq] at hv; subst hv; simp [Op.equalIn, run_underlying hu]
      · rename_i q _ _
        cases q <;> simp only [Option.isNone_none, Option.isNone_some, reduceCtorEq, Option.some.injEq] at hv
        subst hv; simp [Op.equalIn, run_underlying hu]
    case ptr =>
      cases ds <;> simp only [Bool.false_eq_true] at ht
      cases a <;> simp only [valNil, nilEq, reduceCtorEq] at hv
      rename_i p
      cases p <;> simp only [Option.isNone_none, Option.isNone_some] at hv <;> cases b <;> simp only [reduceCtorEq] at hv
      · simp only [Option.some.injEq] at hv; subst hv; simp [Op.equalIn, run_underlying hu]
      · rename_i q
        cases q <;> simp only [Option.isNone_none, Option.isNone_some, reduceCtorEq, Option.some.injEq] at hv
        subst hv; simp [Op.equalIn, run_underlying hu]
    case map =>
      cases ds <;> simp only [Bool.false_eq_true] at ht
      cases a <;> simp only [valNil, nilEq, reduceCtorEq] at hv
      rename_i p
      cases p <;> simp only [Option.isNone_none, Option.isNone_some] at hv <;> cases b <;> simp only [reduceCtorEq] at hv
      · simp only [Option.some.injEq] at hv; subst hv; simp [Op.equalIn, run_underlying hu]
      · rename_i q
        cases q <;> simp only [Option.isNone_none, Option.isNone_some, reduceCtorEq, Option.some.injEq] at hv
        subst hv; simp [Op.equalIn, run_underlying hu]
    case fn =>
      cases ds <;> simp only [Bool.false_eq_true] at ht
      cases a <;> simp only [valNil, nilEq, reduceCtorEq] at hv <;> cases b <;> simp only [reduceCtorEq, Option.some.injEq] at hv <;> subst hv <;> simp [Op.equalIn, run_underlying hu]
    case ifc =>
      cases ds <;> simp only [Bool.false_eq_true] at ht
      cases a <;> simp only [valNil, nilEq, reduceCtorEq] at hv <;> cases b <;> simp only [reduceCtorEq, Option.some.injEq] at hv <;> subst hv <;> simp [Op.equalIn, run_underlying hu]
    all_goals (cases a <;> simp [valNil, nilEq] at hv)

theorem nilEq_of {q : EqK} {a b : Value} {x y : V} {r : Bool} (ha : VRel σ g a x) (hb : VRel σ g b y) (hv : nilEq (isNil q x) (isNil q y) = some r) :
    nilEq (valNil q a) (valNil q b) = some r := by
  cases h1 : isNil q x with
  | none => rw [h1] at hv; simp [nilEq] at hv
  | some u =>
    cases h2 : isNil q y with
    | none => rw [h1, h2] at hv; cases u <;> simp [nilEq] at hv
    | some v => rw [valNil_of ha h1, valNil_of hb h2]; rw [h1, h2] at hv; exact hv

theorem binOp_eq_other {neg : Bool} {a b : Value} {t : Nat} {r : Bool} {w : World} (h1 : (Op.equalIn 10000 t a b).run P w = .ok r w)
    (hn : ∀ k n, a ≠ .int k n) (hs : ∀ s, a ≠ .string s) (hf : ∀ k n, a ≠ .float k n) (hc : ∀ k n m, a ≠ .complex k n m) :
    (binOp (bif neg then .neq else .eql) t a b).run P w = .ok (.bool (bif neg then !r else r)) w := by
  have e : Op.equal t a b = Op.equalIn 10000 t a b := rfl
  cases neg
  · simp only [cond_false]
    cases a <;> first
      | exact absurd rfl (hn _ _) | exact absurd rfl (hs _) | exact absurd rfl (hf _ _) | exact absurd rfl (hc _ _ _)
      | simp only [binOp, e, Sem.run_bind, h1, Result.andThen_ok, Sem.run_pure]
  · simp only [cond_true]
    cases a <;> first
      | exact absurd rfl (hn _ _) | exact absurd rfl (hs _) | exact absurd rfl (hf _ _) | exact absurd rfl (hc _ _ _)
      | simp only [binOp, e, Sem.run_bind, h1, Result.andThen_ok, Sem.run_pure]

theorem pure_eqnil {q : EqK} {neg : Bool} {a b : Value} {x y : V} {r : Bool} {t : Nat} {ox oy : Operand} (ha : VRel σ g a x) (hb : VRel σ g b y)
    (hv : nilEq (isNil q x) (isNil q y) = some r) (ht : eqTypeOk P q t = true) (hg : ∀ w, (eqGuard (bif neg then .neq else .eql) t ox oy a b).run P w = .ok () w) :
    Pure1 P σ g (do eqGuard (bif neg then .neq else .eql) t ox oy a b; binOp (bif neg then .neq else .eql) t a b) (.bool (bif neg then !r else r)) := by
  have h0 := nilEq_of ha hb hv
  refine .of _ (.bool _) (fun w => ?_)
  rw [Sem.run_bind, hg, Result.andThen_ok]
  refine binOp_eq_other (equalIn_val h0 ht w) ?_ ?_ ?_ ?_ <;> intros <;> rintro rfl <;> cases q <;> simp [valNil, nilEq] at h0

theorem pure_eqbool {neg : Bool} {a b : Value} {x y : V} {r : Bool} {t : Nat} {ox oy : Operand} (ha : VRel σ g a x) (hb : VRel σ g b y)
    (hv : eqV .bool x y = some r) (ht : eqTypeOk P .bool t = true) :
    Pure1 P σ g (do eqGuard (bif neg then .neq else .eql) t ox oy a b; binOp (bif neg then .neq else .eql) t a b) (.bool (bif neg then !r else r)) := by
  simp only [eqV] at hv
  cases ha <;> (try simp only [reduceCtorEq] at hv) <;> cases hb <;> simp only [reduceCtorEq, Option.some.injEq] at hv
  subst hv
  unfold eqTypeOk at ht
  cases hu : P.underlying t with
  | none => rw [hu] at ht; simp at ht
  | some ds =>
    rw [hu] at ht
    cases ds <;> simp only [Bool.false_eq_true] at ht
    refine .of _ (.bool _) (fun w => ?_)
    rw [Sem.run_bind, eqGuard_at_bool, Sem.run_pure, Result.andThen_ok]
    exact binOp_eq_other (run_equalIn_bool' w 9999 t _ _ hu) (by simp) (by simp) (by simp) (by simp)

end Go.VS
