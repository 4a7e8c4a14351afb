/-
  Part 22 of 43 of the proof of SubcorpusSetsSaid, by an abstract machine that stands in for the Go program: lemmas without conditions of their own.
-/
import Derived.Test.YtclfgmlnechmkaaGreatP21
set_option linter.unusedSimpArgs false
set_option linter.unusedVariables false
namespace Go.VS

variable {P : Program} {σ : Nat → Nat} {g g' : G} {s s' : St} {w w' : World}

/-- What a step with memory comes to. -/
def Good (σ : Nat → Nat) (g : G) (w : World) (r : Result Value) (v : V) (s' : St) : Prop :=
  ∃ val w' g', r = .ok val w' ∧ VRel σ g' val v ∧ Keep g w g' w' ∧ Sim σ g' s' w'

theorem alloc_ok {t : Nat} {i : TypeInfo} {zv : Value} {z : List V} (h : Sim σ g s w) (hi : P.info? t = some i) (hz : i.zero = some zv) (hr : ZeroRel zv.cells z) (old : Value) :
    Good σ g w ((Instr.alloc t true old).run P w) (.ptr s.next 0) (s.new (.obj z)) := by
  obtain ⟨g', h1, h2, h3⟩ := h.newObj (cs := zv.cells) (cells := z) t hr.1 hr.2.1 (hr.2.2 σ g)
  refine ⟨_, _, g', ?_, h1, h2, h3⟩
  simp [Instr.alloc, zeroValue, typeInfo, hi, hz, newVar, newRow]

theorem box_ok {t : Nat} {v : Value} {x : V} (h : Sim σ g s w) (hv : VRel σ g v x) (hn : x.notTup = true) :
    Good σ g w ((Instr.box t v).run P w) (.ptr s.next 0) (s.new (.obj x.cells)) := by
  obtain ⟨g', h1, h2, h3⟩ := h.newObj (cs := v.cells) (cells := x.cells) t hv.cells.1 (hv.cellsOne hn) hv.cells.2
  refine ⟨_, _, g', ?_, h1, h2, h3⟩
  simp [Instr.box, newVar, newRow]

/-! ### literals of slices, make -/

theorem fold_get {vs : Array Value} {off : Nat} {base : Array Value} (h : off + vs.size ≤ base.size) :
    (vs.zipIdx.foldl (fun cs (c, j) => cs.setIfInBounds (off + j) c) base).size = base.size ∧
    ∀ i, (vs.zipIdx.foldl (fun cs (c, j) => cs.setIfInBounds (off + j) c) base)[i]? = if off ≤ i ∧ i < off + vs.size then vs[i - off]? else base[i]? := by
  rw [← Array.foldl_toList, Array.toList_zipIdx]
  have hl : off + 0 + vs.toList.length ≤ base.size := by simpa using h
  have key : ∀ (l : List Value) (n : Nat) (base : Array Value), off + n + l.length ≤ base.size →
      ((l.zipIdx n).foldl (fun cs (c, j) => cs.setIfInBounds (off + j) c) base).size = base.size ∧
      ∀ i, ((l.zipIdx n).foldl (fun cs (c, j) => cs.setIfInBounds (off + j) c) base)[i]? = if off + n ≤ i ∧ i < off + n + l.length then l[i - (off + n)]? else base[i]? := by
    intro l
    induction l with
    | nil => intro n base _; refine ⟨rfl, fun i => ?_⟩; rw [if_neg (by simp only [List.length_nil]; omega)]; rfl
    | cons c l ih =>
      intro n base hb
      simp only [List.length_cons] at hb
      simp only [List.zipIdx_cons, List.foldl_cons, List.length_cons]
      obtain ⟨i1, i2⟩ := ih (n + 1) (base.setIfInBounds (off + n) c) (by simp; omega)
      refine ⟨by rw [i1]; simp, fun i => ?_⟩
      rw [i2, Array.getElem?_setIfInBounds]
      by_cases e : i = off + n
      · subst e
        rw [if_neg (by omega), if_pos rfl, if_pos (by omega), if_pos (by omega)]; simp
      · by_cases e2 : off + (n + 1) ≤ i ∧ i < off + (n + 1) + l.length
        · rw [if_pos e2, if_pos (by omega), show i - (off + n) = (i - (off + (n + 1))) + 1 from by omega, List.getElem?_cons_succ]
        · rw [if_neg e2, if_neg (Ne.symm e), if_neg (by omega)]
  obtain ⟨k1, k2⟩ := key vs.toList 0 base hl
  refine ⟨k1, fun i => ?_⟩
  rw [k2 i]
  simp

theorem Width.set {k : Nat} {xs : List V} (h : Width k xs) {x : V} (hx : x.cells.length = k) (i : Nat) : Width k (xs.set i x) := fun y hy => by
  rcases List.mem_or_eq_of_mem_set hy with h1 | h1
  · exact h y h1
  · rw [h1]; exact hx
theorem Plain.set {xs : List V} (h : Plain xs) {x : V} (hx : x.notTup = true ∧ ∀ y ∈ x.cells, y.isCell = true) (i : Nat) : Plain (xs.set i x) := fun y hy => by
  rcases List.mem_or_eq_of_mem_set hy with h1 | h1
  · exact h y h1
  · rw [h1]; exact hx
theorem Width.append {k : Nat} {xs ys : List V} (h : Width k xs) (h' : Width k ys) : Width k (xs ++ ys) := fun x hx => by
  rcases List.mem_append.1 hx with h1 | h1
  · exact h x h1
  · exact h' x h1
theorem Plain.append {xs ys : List V} (h : Plain xs) (h' : Plain ys) : Plain (xs ++ ys) := fun x hx => by
  rcases List.mem_append.1 hx with h1 | h1
  · exact h x h1
  · exact h' x h1
theorem Width.replicate {k n : Nat} {z : V} (h : z.cells.length = k) : Width k (List.replicate n z) := fun x hx => by rw [(List.mem_replicate.1 hx).2]; exact h
theorem Plain.replicate {n : Nat} {z : V} (h : z.notTup = true ∧ ∀ y ∈ z.cells, y.isCell = true) : Plain (List.replicate n z) := fun x hx => by rw [(List.mem_replicate.1 hx).2]; exact h

theorem RowRel.idx {k : Nat} {xs : List V} (hw : Width k xs) {i j : Nat} {x y : V} (h1 : xs[i]? = some x) (h2 : x.cells[j]? = some y) : i < xs.length ∧ j < k ∧ i * k + j < xs.length * k := by
  have i1 := (List.getElem?_eq_some_iff.1 h1).1
  have j1 := (List.getElem?_eq_some_iff.1 h2).1
  rw [hw x (List.mem_of_getElem? h1)] at j1
  have : (i + 1) * k ≤ xs.length * k := Nat.mul_le_mul_right _ i1
  rw [Nat.add_mul] at this
  exact ⟨i1, j1, by omega⟩

/-- One element of a row laid anew. -/
theorem RowRel.put {k base i : Nat} {cs : Array Value} {xs : List V} {v : Value} {x : V} (h : RowRel σ g k cs base xs) (hw : Width k xs) (hv : VRel σ g v x) (hk : x.cells.length = k) (hi : i < xs.length)
    {cs' : Array Value} (hg : ∀ q, cs'[q]? = if base + i * k ≤ q ∧ q < base + i * k + k then v.cells[q - (base + i * k)]? else cs[q]?) : RowRel σ g k cs' base (xs.set i x) := by
  intro i' j y u h1 h2
  have hj := (RowRel.idx (hw.set hk i) h1 h2).2.1
  rw [List.getElem?_set] at h1
  rw [hg]
  by_cases ne : i = i'
  · subst ne
    rw [if_pos rfl, if_pos hi] at h1; cases h1
    rw [if_pos (by omega), show base + i * k + j - (base + i * k) = j from by omega]
    have hlt : j < v.cells.size := by rw [hv.cells.1, hk]; exact hj
    exact ⟨_, Array.getElem?_eq_getElem hlt, hv.cells.2 j _ u (Array.getElem?_eq_getElem hlt) h2⟩
  · rw [if_neg ne] at h1
    rw [if_neg]
    · exact h i' j y u h1 h2
    · rcases Nat.lt_or_gt_of_ne ne with hlt | hlt
      · have : (i + 1) * k ≤ i' * k := Nat.mul_le_mul_right _ hlt
        rw [Nat.add_mul] at this; omega
      · have : (i' + 1) * k ≤ i * k := Nat.mul_le_mul_right _ hlt
        rw [Nat.add_mul] at this; omega

def PartsRelL (σ : Nat → Nat) (g : G) : List (Nat × Value) → List (Nat × V) → Prop
  | [], [] => True
  | (i, v) :: ps, (j, x) :: qs => i = j ∧ VRel σ g v x ∧ PartsRelL σ g ps qs
  | _, _ => False

theorem fillL_run {k : Nat} : ∀ (ps : List (Nat × Value)) (qs : List (Nat × V)) (cs : Array Value) (xs out : List V), PartsRelL σ g ps qs → (∀ p ∈ qs, p.2.cells.length = k ∧ p.2.notTup = true) →
    cs.size = xs.length * k → Width k xs → Plain xs → RowRel σ g k cs 0 xs → fillL xs qs = some out →
    ∃ cs', Instr.fill (fun i => some (i * k, k)) cs ps = some cs' ∧ cs'.size = out.length * k ∧ out.length = xs.length ∧ Width k out ∧ Plain out ∧ RowRel σ g k cs' 0 out
  | [], [], cs, xs, out, _, _, h2, h3, h4, h5, h6 => by
    simp only [fillL, Option.some.injEq] at h6; subst h6
    exact ⟨cs, rfl, h2, rfl, h3, h4, h5⟩
  | (i, v) :: ps, (j, x) :: qs, cs, xs, out, h0, h1, h2, h3, h4, h5, h6 => by
    obtain ⟨rfl, hv, hr⟩ := h0
    simp only [fillL] at h6
    split at h6
    · rename_i hi
      obtain ⟨hk, hnt⟩ := h1 (i, x) (by simp)
      have hsz : v.cells.size = k := hv.cells.1.trans hk
      have hik : (i + 1) * k ≤ xs.length * k := Nat.mul_le_mul_right _ hi
      rw [Nat.add_mul, Nat.one_mul] at hik
      obtain ⟨f1, f2⟩ := fold_get (vs := v.cells) (off := i * k) (base := cs) (by rw [hsz, h2]; exact hik)
      obtain ⟨cs', c1, c2, c3, c4⟩ := fillL_run ps qs _ (xs.set i x) out hr (fun p hp => h1 p (by simp [hp])) (by rw [f1, List.length_set]; exact h2) (h3.set hk i) (h4.set ⟨hnt, hv.cellsOne hnt⟩ i)
        (h5.put h3 hv hk hi (fun q => by rw [f2 q, hsz, Nat.zero_add])) h6
      refine ⟨cs', ?_, c2, by rw [c3, List.length_set], c4⟩
      simp only [Instr.fill]
      rw [if_neg (by simp [hsz, h2]; omega)]
      exact c1
    · cases h6
  | [], _ :: _, _, _, _, h, _, _, _, _, _, _ => by simp [PartsRelL] at h
  | _ :: _, [], _, _, _, h, _, _, _, _, _, _ => by simp [PartsRelL] at h

/-- A zero element whose cells are plain constants. -/
structure ZeroV (zc : Array Value) (z : V) (k : Nat) : Prop where
  rel : ZeroRel zc z.cells
  width : z.cells.length = k
  plain : z.notTup = true

theorem zeroPattern {zc : Array Value} {z : V} {k n m : Nat} (hz : ZeroV zc z k) (h : m * k ≤ n) : RowRel σ g k ((Array.range n).map (zc[· % zc.size]!)) 0 (List.replicate m z) := by
  intro i j x y h1 h2
  obtain ⟨a, b, c⟩ := RowRel.idx (Width.replicate hz.width) h1 h2
  rw [List.length_replicate] at a c
  have hx : x = z := by
    rw [List.getElem?_replicate] at h1; split at h1 <;> simp_all
  subst hx
  have hsz : zc.size = k := hz.rel.1.trans hz.width
  have hm : (i * k + j) % k = j := by rw [Nat.mul_comm, Nat.mul_add_mod, Nat.mod_eq_of_lt b]
  have hq : 0 + i * k + j < n := by omega
  refine ⟨zc[j]'(by omega), ?_, hz.rel.2.2 σ g j _ y (Array.getElem?_eq_getElem (by omega)) h2⟩
  have hzz : zc[j]? = some (zc[j]'(by omega)) := Array.getElem?_eq_getElem (by omega)
  rw [Array.getElem?_map, Array.getElem?_range, if_pos hq]
  simp only [Option.map_some, Nat.zero_add, hsz, hm]
  congr 1
  rw [getElem!_pos zc j (by omega)]

theorem mksl_ok {t e k n : Nat} {mt : Bool} {i : TypeInfo} {zv : Value} {z v : V} {ps : List (Nat × Value)} {qs : List (Nat × V)} (h : Sim σ g s w) (ht : P.underlying t = some (.slice e))
    (hi : P.info? e = some i) (hk : i.size = k) (hz : i.zero = some zv) (hzv : ZeroV zv.cells z k) (hn : n * k ≤ 16777216) (hps : PartsRelL σ g ps qs) (hv : mkslV mt k z n qs s = some (v, s')) :
    Good σ g w ((Instr.buildSlice t n ps.toArray).run P w) v s' := by
  unfold mkslV at hv
  split at hv
  case isFalse => cases hv
  rename_i hall
  have hall' : ∀ p ∈ qs, p.2.cells.length = k ∧ p.2.notTup = true := by
    intro p hp
    have := List.all_eq_true.1 hall p hp
    simpa only [Bool.and_eq_true, Nat.beq_eq] using this
  cases hf : fillL (List.replicate n z) qs with
  | none => rw [hf] at hv; cases hv
  | some xs =>
    rw [hf] at hv
    simp only [] at hv
    obtain ⟨cs', c1, c2, c3, c4, c5, c6⟩ := fillL_run (σ := σ) (g := g) ps qs ((Array.range (n * k)).map (zv.cells[· % zv.cells.size]!)) (List.replicate n z) xs hps hall' (by simp) (Width.replicate hzv.width)
      (Plain.replicate ⟨hzv.plain, hzv.rel.2.1⟩) (zeroPattern hzv (Nat.le_refl _)) hf
    rw [List.length_replicate] at c3
    have run : (Instr.buildSlice t n ps.toArray).run P w = .ok (.slice (some ⟨w.heap.size, 0, none⟩) n n) (w.alloc (.cells cs' e)) := by
      unfold Instr.buildSlice
      simp only [Sem.run_bind, run_underlying ht, Result.andThen_ok, sizeOf, typeInfo, run_program, hi, Sem.run_pure, hk]
      rw [if_neg (by omega)]
      by_cases h0 : n * k = 0
      · rw [if_pos h0]
        rw [h0] at c1 ⊢
        have c1' : Instr.fill (fun i => some (i * k, k)) (Array.map (fun x => (#[] : Array Value)[x % (#[] : Array Value).size]!) (Array.range 0)) ps = some cs' := by simpa [Array.range_zero'] using c1
        simp only [Sem.run_bind, Sem.run_pure, Result.andThen_ok, c1']
        simp [newRow]
      · rw [if_neg h0]
        simp only [Sem.run_bind, zeroValue, typeInfo, run_program, Result.andThen_ok, hi, Sem.run_pure, hz, c1]
        simp [newRow]
    cases mt
    · simp only [Bool.false_eq_true, if_false, Option.some.injEq, Prod.mk.injEq] at hv
      obtain ⟨rfl, rfl⟩ := hv
      obtain ⟨g', h1, h2, h3⟩ := h.newSl (cs := cs') (xs := xs) (k := k) (cap := n) e (nf_zero _) (by rw [c2, c3]) (by omega) c4 c5 c6
      rw [c3] at h1 h3
      exact ⟨_, _, g', run, h1, h2, h3⟩
    · simp only [if_true, Option.some.injEq, Prod.mk.injEq] at hv
      obtain ⟨rfl, rfl⟩ := hv
      obtain ⟨g', h1, h2, h3⟩ := h.newRow (cs := cs') (xs := xs) (k := k) (cap := n) e (nf_zero _) (by rw [c2, c3]) (by omega) c4 c5 c6
      rw [c3] at h1
      exact ⟨_, _, g', run, h1, h2, h3⟩

theorem wrap_small {n : Nat} (h : n ≤ most) : IntKind.i64.wrap (n : Int) = n := by
  unfold most at h; exact IntWalk.i64_in _ (by omega)

theorem mkrow_ok {t e k by_ : Nat} {mt : Bool} {i : TypeInfo} {zv : Value} {z v x y : V} {a b : Value} (h : Sim σ g s w) (ht : P.underlying t = some (.slice e)) (ha : VRel σ g a x) (hb : VRel σ g b y)
    (hi : P.info? e = some i) (hk : i.size = k) (hby : i.bytes = by_) (hz : i.zero = some zv) (hzv : ZeroV zv.cells z k) (hv : mkrowV mt k by_ z x y s = some (v, s')) :
    Good σ g w ((Instr.makeSlice t a b).run P w) v s' := by
  unfold mkrowV at hv
  cases hx : asIdx x with
  | none => rw [hx] at hv; cases hy : asIdx y <;> rw [hy] at hv <;> cases hv
  | some l =>
    cases hy : asIdx y with
    | none => rw [hx, hy] at hv; cases hv
    | some c =>
      rw [hx, hy] at hv
      obtain ⟨k1, rfl⟩ := asIdx_some hx
      obtain ⟨k2, rfl⟩ := asIdx_some hy
      obtain rfl := ha.eq_int
      obtain rfl := hb.eq_int
      simp only [] at hv
      split at hv
      case isFalse => cases hv
      rename_i hc
      simp only [Bool.and_eq_true, decide_eq_true_eq] at hc
      obtain ⟨⟨hlc, hcm⟩, hbm⟩ := hc
      let cs : Array Value := (Array.range (c * k)).map ((if c * k = 0 then #[] else zv.cells : Array Value)[· % (if c * k = 0 then #[] else zv.cells : Array Value).size]!)
      have hb1 : ¬ ((i.bytes : Int) * (c : Int) > 281474976710656) := by
        have hcm' := hcm; unfold most at hcm'
        have : i.bytes * c ≤ 4096 * 1073741824 := Nat.mul_le_mul (by omega) hcm'
        have h2 : ((i.bytes * c : Nat) : Int) = (i.bytes : Int) * (c : Int) := by simp
        omega
      have run : (Instr.makeSlice t (.int k1 l) (.int k2 c)).run P w = .ok (.slice (some ⟨w.heap.size, 0, none⟩) l c) (w.alloc (.cells cs e)) := by
        unfold Instr.makeSlice
        simp only [Sem.run_bind, run_underlying ht, Result.andThen_ok, asInt, asIntOf, Sem.run_pure, typeInfo, run_program, hi, wrap_small (Nat.le_trans hlc hcm), wrap_small hcm]
        rw [if_neg (by
          simp only [Bool.or_eq_true, decide_eq_true_eq, not_or]
          refine ⟨⟨⟨by omega, ?_⟩, by omega⟩, by omega⟩
          exact hb1)]
        simp only [Sem.run_bind, run_askRoom, Result.andThen_ok, sizeOf, typeInfo, run_program, hi, Sem.run_pure, hk, Int.toNat_natCast]
        by_cases h0 : c * k = 0
        · rw [if_pos h0]
          simp only [Sem.run_pure, Sem.run_bind, Result.andThen_ok, cs, h0, if_true]
          simp [newRow]
        · rw [if_neg h0]
          simp only [Sem.run_bind, zeroValue, typeInfo, run_program, Result.andThen_ok, hi, Sem.run_pure, hz, cs, h0, if_false]
          simp [newRow]
      have hcs : cs.size = c * k := by simp [cs]
      have hrow : RowRel σ g k cs 0 (List.replicate l z) := by
        have hlk : l * k ≤ c * k := Nat.mul_le_mul_right _ hlc
        by_cases h0 : c * k = 0
        · intro i j x y h1 h2
          have := (RowRel.idx (Width.replicate hzv.width) h1 h2).2.2
          rw [List.length_replicate] at this; omega
        · have : cs = (Array.range (c * k)).map (zv.cells[· % zv.cells.size]!) := by simp only [cs, h0, if_false]
          rw [this]
          exact zeroPattern hzv hlk
      cases mt
      · simp only [Bool.false_eq_true, if_false, Option.some.injEq, Prod.mk.injEq] at hv
        obtain ⟨rfl, rfl⟩ := hv
        obtain ⟨g', h1, h2, h3⟩ := h.newSl (cs := cs) (xs := List.replicate l z) (k := k) (cap := c) e (nf_zero _) hcs (by simpa using hlc) (Width.replicate hzv.width) (Plain.replicate ⟨hzv.plain, hzv.rel.2.1⟩) hrow
        rw [List.length_replicate] at h1 h3
        exact ⟨_, _, g', run, h1, h2, h3⟩
      · simp only [if_true, Option.some.injEq, Prod.mk.injEq] at hv
        obtain ⟨rfl, rfl⟩ := hv
        obtain ⟨g', h1, h2, h3⟩ := h.newRow (cs := cs) (xs := List.replicate l z) (k := k) (cap := c) e (nf_zero _) hcs (by simpa using hlc) (Width.replicate hzv.width) (Plain.replicate ⟨hzv.plain, hzv.rel.2.1⟩) hrow
        rw [List.length_replicate] at h1
        exact ⟨_, _, g', run, h1, h2, h3⟩

end Go.VS
