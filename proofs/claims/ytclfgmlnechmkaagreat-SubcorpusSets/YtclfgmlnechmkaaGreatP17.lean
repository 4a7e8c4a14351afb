/-
  Part 17 of 43 of the proof of SubcorpusSetsSaid, by an abstract machine that stands in for the Go program: lemmas without conditions of their own.
-/
import Derived.Test.YtclfgmlnechmkaaGreatP15
import Derived.WalkLawsBesides
set_option linter.unusedSimpArgs false
set_option linter.unusedVariables false
namespace Go.VS

variable {P : Program} {σ : Nat → Nat} {g : G}

/-- It yields one value, in every world, and leaves the world alone. -/
def Pure1 (P : Program) (σ : Nat → Nat) (g : G) (sem : Sem Value) (v : V) : Prop := ∃ val, VRel σ g val v ∧ ∀ w, sem.run P w = .ok val w

theorem Pure1.of {sem : Sem Value} {v : V} (val : Value) (h : VRel σ g val v) (hr : ∀ w, sem.run P w = .ok val w) : Pure1 P σ g sem v := ⟨val, h, hr⟩

theorem VRel.eq_int {v : Value} {k n} (h : VRel σ g v (.int k n)) : v = .int k n := by cases h; rfl
theorem VRel.eq_bool {v : Value} {b} (h : VRel σ g v (.bool b)) : v = .bool b := by cases h; rfl

theorem add_lit (b p n : Nat) : Addr.add ⟨b, p, none⟩ n = ⟨b, p + n, none⟩ := by
  unfold Addr.add; split <;> simp_all

/-! ### fields and elements -/

theorem pure_fld {a : Value} {x v : V} {off t f : Nat} {fs : Array Field} {fd : Field} (ha : VRel σ g a x) (hv : fldV off x = some v)
    (ht : P.underlying t = some (.struct fs)) (hf : fs[f]? = some fd) (ho : fd.offset = off) (hz : ∃ i, P.info? fd.type = some i ∧ i.size ≠ 0) :
    Pure1 P σ g (Instr.fieldAt t a f) v := by
  obtain ⟨i, hi, hz⟩ := hz
  have run : ∀ (b p : Nat) (w : World), (Instr.fieldAt t (.pointer (some ⟨b, p, none⟩)) f).run P w = .ok (.pointer (some ⟨b, p + off, none⟩)) w := by
    intro b p w
    simp [Instr.fieldAt, run_underlying ht, hf, Instr.sureAddr, fieldPlace, sizeOf, typeInfo, hi, hz, ho, add_lit]
  cases ha <;> simp only [fldV, Option.some.injEq, reduceCtorEq] at hv <;> subst hv
  case ptr b k lim o p h => exact .of _ (.ptr h) (run _ _)
  case eptr b base k lim r j p h =>
    exact .of _ (VRel.eptr (k := k) (i := j) (p := p + off) h) (fun w => by rw [run]; simp [Nat.add_assoc])
  case cptr b p c gn j o cells vals hc hfix hrel hpos =>
    obtain ⟨base, k, lim, h1, h2⟩ := hpos
    refine .of _ (VRel.cptr (fun q => vals (off + q)) (fun y hy => hc y (List.mem_of_mem_drop hy)) (fun q y hq => ?_) (fun q y hq => ?_) ⟨base, k, lim, h1, by omega⟩) (run _ _)
    · rw [List.getElem?_drop] at hq; have := hfix _ _ hq; rwa [← Nat.add_assoc] at this
    · rw [List.getElem?_drop] at hq; exact hrel _ _ hq

theorem asIdx_some {x : V} {i : Nat} (h : asIdx x = some i) : ∃ k, x = .int k (i : Int) := by
  unfold asIdx at h
  split at h
  · rename_i k n
    split at h
    · simp only [Option.some.injEq] at h; exact ⟨k, by congr 1; omega⟩
    · simp at h
  · simp at h

theorem pure_idx {a ix : Value} {x y v : V} {k t e : Nat} {i : TypeInfo} (ha : VRel σ g a x) (hi : VRel σ g ix y) (hv : idxV k x y = some v)
    (ht : P.underlying t = some (.slice e)) (he : P.info? e = some i) (hs : i.size = k) : Pure1 P σ g (Instr.indexAt t a ix) v := by
  unfold idxV at hv
  cases hy : asIdx y with
  | none => rw [hy] at hv; simp at hv
  | some n =>
    obtain ⟨kk, rfl⟩ := asIdx_some hy
    obtain rfl := hi.eq_int
    rw [hy] at hv
    have run : ∀ (b p len cap : Nat), n < len → ∀ w : World, (Instr.indexAt t (.slice (some ⟨b, p, none⟩) len cap) (.int kk n)).run P w = .ok (.pointer (some ⟨b, p + n * k, none⟩)) w := by
      intro b p len cap hl w
      simp [Instr.indexAt, run_underlying ht, asIntOf, sizeOf, typeInfo, he, hs, add_lit, hl]
    cases ha <;> simp only [reduceCtorEq] at hv
    case sl b p len cap c gn off xs kw vals hlen hcap hk hc hfix hrel hpos =>
      split at hv
      · rename_i x hx
        split at hv
        · rename_i hw
          simp only [Option.some.injEq] at hv
          subst hv
          have hm : x ∈ xs := List.mem_of_getElem? hx
          have hkk : kw = k := by rw [← hk x hm, hw]
          subst hkk
          have hn : n < xs.length := (List.getElem?_eq_some_iff.1 hx).1
          rcases hpos with h0 | ⟨base, lim, h1, h2, h3⟩
          · omega
          · refine .of _ (VRel.cptr (vals n) (hc x hm).2 (fun j y hj => hfix n j x y hx hj) (fun j y hj => hrel n j x y hx hj) ⟨base, kw, lim, h1, ?_⟩) (run _ _ _ _ (by omega))
            rw [h2, Nat.add_mul]; omega
        · simp at hv
      · simp at hv
    case row b p len cap r kw off hcap hpos =>
      split at hv
      · rename_i hc
        simp only [Bool.and_eq_true, decide_eq_true_eq, Nat.beq_eq] at hc
        simp only [Option.some.injEq] at hv
        subst hv
        obtain ⟨hl, rfl⟩ := hc
        rcases hpos with h0 | ⟨base, lim, h1, h2, h3⟩
        · omega
        · refine .of _ (VRel.eptr (i := off + n) (p := 0) h1) (fun w => ?_)
          rw [run _ _ _ _ hl, h2, Nat.add_mul]
          simp [Nat.add_assoc]
      · simp at hv

theorem pure_idxa {a ix : Value} {x y v : V} {n k t e : Nat} {i : TypeInfo} (ha : VRel σ g a x) (hi : VRel σ g ix y) (hv : idxaV n k x y = some v)
    (ht : P.underlying t = some (.array n e)) (he : P.info? e = some i) (hs : i.size = k) : Pure1 P σ g (Instr.indexAt t a ix) v := by
  unfold idxaV at hv
  cases hy : asIdx y with
  | none => rw [hy] at hv; simp at hv
  | some m =>
    obtain ⟨kk, rfl⟩ := asIdx_some hy
    obtain rfl := hi.eq_int
    rw [hy] at hv
    simp only [] at hv
    split at hv
    · rename_i hm
      have run : ∀ (b p : Nat) (w : World), (Instr.indexAt t (.pointer (some ⟨b, p, none⟩)) (.int kk m)).run P w = .ok (.pointer (some ⟨b, p + m * k, none⟩)) w := by
        intro b p w
        simp [Instr.indexAt, run_underlying ht, asIntOf, sizeOf, typeInfo, he, hs, add_lit, hm, Instr.sureAddr]
      cases ha <;> simp only [Option.some.injEq, reduceCtorEq] at hv <;> subst hv
      case ptr b kq lim o p h => exact .of _ (.ptr h) (run _ _)
      case eptr b base kq lim r j p h => exact .of _ (VRel.eptr (k := kq) (i := j) (p := p + m * k) h) (fun w => by rw [run]; simp [Nat.add_assoc])
      case cptr b p c gn j o cells vals hc hfix hrel hpos =>
        obtain ⟨base, kq, lim, h1, h2⟩ := hpos
        refine .of _ (VRel.cptr (fun q => vals (m * k + q)) (fun y hy => hc y (List.mem_of_mem_drop hy)) (fun q y hq => ?_) (fun q y hq => ?_) ⟨base, kq, lim, h1, by omega⟩) (run _ _)
        · rw [List.getElem?_drop] at hq; have := hfix _ _ hq; rwa [← Nat.add_assoc] at this
        · rw [List.getElem?_drop] at hq; exact hrel _ _ hq
    · simp at hv

/-! ### parts of values -/

def aggDesc : TypeDesc → Bool
  | .struct _ => true
  | .array _ _ => true
  | _ => false

theorem run_isAgg {t : Nat} {d : TypeDesc} (h : P.underlying t = some d) (w : World) : (isAgg t).run P w = .ok (aggDesc d) w := by
  unfold isAgg; simp only [Sem.run_bind, run_underlying h, Result.andThen_ok]
  cases d <;> rfl

theorem part_run {cs : Array Value} {xs : List V} {off k t : Nat} {ag : Bool} {v : V} (hl : cs.size = xs.length) (hc : ∀ y ∈ xs, y.isCell = true)
    (h : ∀ (i : Nat) u x, cs[i]? = some u → xs[i]? = some x → VRel σ g u x) (hv : getCells xs off k ag = some v)
    {d : TypeDesc} {i : TypeInfo} (hd : P.underlying t = some d) (hag : aggDesc d = ag)
    (hi : P.info? t = some i) (hs : i.size = k) : Pure1 P σ g (part t cs off) v := by
  unfold getCells at hv
  cases ag with
  | true =>
    simp only [if_true] at hv
    split at hv
    · rename_i hle
      simp only [Option.some.injEq] at hv
      subst hv
      refine .of (.agg (cs.extract off (off + k))) (.agg ?_ (fun y hy => hc y (List.mem_of_mem_drop (List.mem_of_mem_take hy))) ?_) (fun w => ?_)
      · simp; omega
      · intro q u x h1 h2
        rw [Array.getElem?_extract] at h1
        split at h1
        · rw [List.getElem?_take] at h2
          split at h2
          · rw [List.getElem?_drop] at h2
            exact h _ _ _ h1 h2
          · simp at h2
        · simp at h1
      · simp [part, run_isAgg hd, hag, sizeOf, typeInfo, hi, hs]
    · simp at hv
  | false =>
    simp only [Bool.false_eq_true, if_false] at hv
    have hlt := (List.getElem?_eq_some_iff.1 hv).1
    have hcs : cs[off]? = some cs[off] := Array.getElem?_eq_getElem (by omega)
    refine .of cs[off] (h _ _ _ hcs hv) (fun w => ?_)
    simp [part, run_isAgg hd, hag, hcs]

theorem pure_getf {a : Value} {x v : V} {off k t f : Nat} {ag : Bool} {fs : Array Field} {fd : Field} {d : TypeDesc} {i : TypeInfo} (ha : VRel σ g a x)
    (hv : (match x with | .agg cs => getCells cs off k ag | _ => none) = some v) (ht : P.underlying t = some (.struct fs)) (hf : fs[f]? = some fd) (ho : fd.offset = off)
    (hd : P.underlying fd.type = some d) (hag : aggDesc d = ag) (hi : P.info? fd.type = some i) (hs : i.size = k) :
    Pure1 P σ g (Instr.field t a f) v := by
  cases ha <;> simp only [reduceCtorEq] at hv
  case agg vs xs hl hc h =>
    obtain ⟨val, h1, h2⟩ := part_run (P := P) hl hc h hv hd hag hi hs
    refine .of val h1 (fun w => ?_)
    simp [Instr.field, run_underlying ht, hf, asAgg, ho, h2]

theorem pure_idxv {a ix : Value} {x y v : V} {n k t e : Nat} {ag : Bool} {d : TypeDesc} {i : TypeInfo} (ha : VRel σ g a x) (hix : VRel σ g ix y)
    (hv : idxvV n k ag x y = some v) (ht : P.underlying t = some (.array n e))
    (hd : P.underlying e = some d) (hag : aggDesc d = ag) (hi : P.info? e = some i) (hs : i.size = k) :
    Pure1 P σ g (Instr.index t a ix) v := by
  unfold idxvV at hv
  cases hy : asIdx y with
  | none => rw [hy] at hv; cases x <;> simp at hv
  | some m =>
    obtain ⟨kk, rfl⟩ := asIdx_some hy
    obtain rfl := hix.eq_int
    rw [hy] at hv
    cases ha <;> simp only [reduceCtorEq] at hv
    case agg vs xs hl hc h =>
      split at hv
      · rename_i hm
        obtain ⟨val, h1, h2⟩ := part_run (P := P) hl hc h hv hd hag hi hs
        refine .of val h1 (fun w => ?_)
        simp [Instr.index, run_underlying ht, asIntOf, hm, sizeOf, typeInfo, hi, hs, h2]
      · simp at hv

theorem bytesOf_get {s : ByteArray} {i : Nat} {b : Nat} (h : (bytesOf s)[i]? = some b) : ∃ u, s[i]? = some u ∧ u.toNat = b := by
  unfold bytesOf at h
  rw [List.getElem?_map] at h
  cases hu : s.data.toList[i]? with
  | none => rw [hu] at h; simp at h
  | some u =>
    rw [hu] at h
    simp only [Option.map_some, Option.some.injEq] at h
    refine ⟨u, ?_, h⟩
    have hlt := (List.getElem?_eq_some_iff.1 hu)
    have hs : i < s.size := by simpa using hlt.1
    rw [getElem?_pos s i hs]
    have h2 := hlt.2
    simp only [Array.getElem_toList] at h2
    exact congrArg some h2

theorem bytesOf_length (s : ByteArray) : (bytesOf s).length = s.size := by unfold bytesOf; rw [List.length_map, Array.length_toList]; rfl

theorem pure_idxs {a ix : Value} {x y v : V} {t : Nat} (ha : VRel σ g a x) (hix : VRel σ g ix y) (hv : idxsV x y = some v) (ht : P.underlying t = some .string) :
    Pure1 P σ g (Instr.index t a ix) v := by
  unfold idxsV at hv
  cases hy : asIdx y with
  | none => rw [hy] at hv; cases x <;> simp at hv
  | some m =>
    obtain ⟨kk, rfl⟩ := asIdx_some hy
    obtain rfl := hix.eq_int
    rw [hy] at hv
    cases ha <;> simp only [reduceCtorEq] at hv
    case str s l h =>
      subst h
      split at hv
      · rename_i b hb
        simp only [Option.some.injEq] at hv
        subst hv
        obtain ⟨u, h1, h2⟩ := bytesOf_get hb
        refine .of (.int .u8 b) (.int _ _) (fun w => ?_)
        simp [Instr.index, run_underlying ht, asIntOf, h1, h2]
      · simp at hv

theorem pure_ext {a : Value} {x v : V} {i : Nat} (ha : VRel σ g a x) (hv : (match x with | .tup vs => vs[i]? | _ => none) = some v) : Pure1 P σ g (Instr.extract a i) v := by
  cases ha <;> simp only [reduceCtorEq] at hv
  case tup vs xs hl h =>
    have hlt := (List.getElem?_eq_some_iff.1 hv).1
    have hcs : vs[i]? = some vs[i] := Array.getElem?_eq_getElem (by omega)
    exact .of vs[i] (h _ _ _ hcs hv) (fun w => by simp [Instr.extract, hcs])

def lenTy (P : Program) (t : Nat) (x : V) : Prop :=
  match x with
  | .str _ => P.underlying t = some .string
  | _ => ∃ e, P.underlying t = some (.slice e)

theorem pure_len {a : Value} {x : V} {n t ty : Nat} (ha : VRel σ g a x) (hv : lenV x = some n) 
    (hk : lenTy P t x) : Pure1 P σ g (Builtin.len_ #[t] ty #[a]) (.int .i64 n) := by
  cases ha <;> simp only [lenV, Option.some.injEq, reduceCtorEq] at hv <;> subst hv <;> simp only [lenTy] at hk
  case str s l h =>
    subst h
    exact .of _ (.int _ _) (fun w => by simp [Builtin.len_, run_underlying hk, goInt, bytesOf_length])
  case nilsl => obtain ⟨e, hk⟩ := hk; exact .of _ (.int _ _) (fun w => by simp [Builtin.len_, run_underlying hk, goInt])
  case sl => obtain ⟨e, hk⟩ := hk; rename_i hlen _ _ _ _ _ _; exact .of _ (.int _ _) (fun w => by simp [Builtin.len_, run_underlying hk, goInt, hlen])
  case row => obtain ⟨e, hk⟩ := hk; exact .of _ (.int _ _) (fun w => by simp [Builtin.len_, run_underlying hk, goInt])

end Go.VS
