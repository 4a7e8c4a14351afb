/-
  Part 23 of 43 of the proof of SubcorpusSetsSaid, by an abstract machine that stands in for the Go program: lemmas without conditions of their own.
-/
import Derived.Test.YtclfgmlnechmkaaGreatP22
set_option linter.unusedSimpArgs false
set_option linter.unusedVariables false
namespace Go.VS

variable {P : Program} {σ : Nat → Nat} {g g' : G} {s s' : St} {w w' : World}

/-- The cells of elements, as a list of values. -/
structure ElemsOk (P : Program) (σ : Nat → Nat) (g : G) (w : World) (k : Nat) (y : Value) (ys : List V) where
  cells : List Value
  len : (Builtin.lenOf y).run P w = .ok ys.length w
  firstN : ∀ m, m ≤ ys.length → (Builtin.firstCells k m y).run P w = .ok (cells.take (m * k)).toArray w
  size : cells.length = ys.length * k
  width : Width k ys
  plain : Plain ys
  rel : RowRel σ g k cells.toArray 0 ys

theorem ElemsOk.first {k : Nat} {y : Value} {ys : List V} (E : ElemsOk P σ g w k y ys) : (Builtin.firstCells k ys.length y).run P w = .ok E.cells.toArray w := by
  have := E.firstN ys.length (Nat.le_refl _)
  rwa [List.take_of_length_le (by rw [E.size]; exact Nat.le_refl _)] at this

theorem width_of_head {k kw : Nat} {xs : List V} (h : Width kw xs) (hw : wOk k xs = true) : Width k xs := by
  cases xs with
  | nil => intro x hx; cases hx
  | cons x xs =>
    simp only [wOk, Nat.beq_eq] at hw
    have := h x (by simp)
    intro y hy; rw [h y hy]; omega

theorem divmod {k i j : Nat} (h : j < k) : (i * k + j) / k = i ∧ (i * k + j) % k = j := by
  constructor
  · rw [Nat.mul_comm, Nat.mul_add_div (by omega), Nat.div_eq_of_lt h]; omega
  · rw [Nat.mul_comm, Nat.mul_add_mod, Nat.mod_eq_of_lt h]

theorem lt_divmod {k n q : Nat} (h : q < n * k) : q / k < n ∧ q % k < k ∧ q / k * k + q % k = q := by
  have hk : 0 < k := by
    rcases Nat.eq_zero_or_pos k with h0 | h0
    · subst h0; simp at h
    · exact h0
  exact ⟨(Nat.div_lt_iff_lt_mul hk).2 h, Nat.mod_lt _ hk, by rw [Nat.mul_comm]; exact Nat.div_add_mod q k⟩

/-- Cells read one by one, given where each is. -/
theorem first_run {b p k n len cap : Nat} {ys : List V} (hw : Width k ys) (hn : ys.length = n)
    (hr : ∀ (i j : Nat) x y, ys[i]? = some x → x.cells[j]? = some y → ∃ u, w.cell? ⟨b, p + (i * k + j), none⟩ = some u ∧ VRel σ g u y) :
    ∃ cells : List Value, (∀ m, m ≤ n → (Builtin.firstCells k m (.slice (some ⟨b, p, none⟩) len cap)).run P w = .ok (cells.take (m * k)).toArray w) ∧ cells.length = n * k ∧ RowRel σ g k cells.toArray 0 ys := by
  let f : Nat → Value := fun q => (w.cell? ⟨b, p + q, none⟩).getD .nilIface
  have hf : ∀ q, q < n * k → w.cell? ⟨b, p + q, none⟩ = some (f q) := by
    intro q hq
    obtain ⟨h1, h2, h3⟩ := lt_divmod hq
    have hx : ys[q / k]? = some ys[q / k] := List.getElem?_eq_getElem (by omega)
    have hxk := hw _ (List.mem_of_getElem? hx)
    have hy : ys[q / k].cells[q % k]? = some (ys[q / k].cells[q % k]'(by omega)) := List.getElem?_eq_getElem (by omega)
    obtain ⟨u, u1, _⟩ := hr _ _ _ _ hx hy
    rw [h3] at u1
    simp [f, u1]
  refine ⟨(List.range (n * k)).map f, ?_, by simp, ?_⟩
  · intro m hm
    have hmk : m * k ≤ n * k := Nat.mul_le_mul_right _ hm
    simp only [Builtin.firstCells]
    rw [run_loadCells w ⟨b, p, none⟩ (m * k) f (fun j hj => by rw [add_lit]; exact hf j (by omega))]
    rw [← List.map_take, List.take_range, Nat.min_eq_left hmk]
  · intro i j x y h1 h2
    obtain ⟨a, c, d⟩ := RowRel.idx hw h1 h2
    rw [hn] at d
    obtain ⟨u, u1, u2⟩ := hr i j x y h1 h2
    have := hf _ d
    rw [u1] at this; cases this
    refine ⟨_, ?_, u2⟩
    simp [d]

theorem elems_ok {y : Value} {v : V} {k : Nat} {ys : List V} (h : Sim σ g s w) (hy : VRel σ g y v) (he : elems v s = some ys) (hw : wOk k ys = true) (hro : rowOk v k = true) :
    Nonempty (ElemsOk P σ g w k y ys) := by
  unfold elems at he
  cases hy <;> simp only [reduceCtorEq] at he
  case nilsl =>
    cases he
    exact ⟨⟨[], by simp [Builtin.lenOf], by intro m _; simp [Builtin.firstCells], by simp, (by intro x hx; cases hx), (by intro x hx; cases hx), (by intro i j x y h1; simp at h1)⟩⟩
  case sl b p len cap c gn off xs kw vals hlen hcap hk hc hfix hrel hpos =>
    obtain rfl := Option.some.inj he
    have hwk : Width k xs := width_of_head hk hw
    obtain ⟨cells, c1, c2, c3⟩ := first_run (P := P) (σ := σ) (g := g) (w := w) (b := b) (p := p) (len := len) (cap := cap) hwk rfl (fun i j x y h1 h2 => by
      have hkk : kw = k := by rw [← hk x (List.mem_of_getElem? h1), hwk x (List.mem_of_getElem? h1)]
      subst hkk
      refine ⟨_, ?_, hrel i j x y h1 h2⟩
      rw [← Nat.add_assoc]; exact h.fixc _ _ _ (hfix i j x y h1 h2))
    exact ⟨⟨cells, by simp [Builtin.lenOf, hlen], c1, c2, hwk, hc, c3⟩⟩
  case row b p len cap r kw off hcap hpos =>
    simp only [rowOk, Nat.beq_eq] at hro
    subst hro
    split at he
    case h_2 => cases he
    rename_i xs hm
    split at he
    case isFalse => cases he
    rename_i hle
    cases he
    have hlen' : ((xs.drop off).take len).length = len := by simp; omega
    by_cases h0 : cap = 0
    · have : len = 0 := by omega
      subst this
      simp only [List.take_zero]
      exact ⟨⟨[], by simp [Builtin.lenOf], (by intro m hm; obtain rfl : m = 0 := (by simpa using hm); simp [Builtin.firstCells, loadCells, loadCellsFrom]), by simp, (by intro x hx; cases hx), (by intro x hx; cases hx), (by intro i j x y h1; simp at h1)⟩⟩
    · rcases hpos with e0 | ⟨base, lim, hb, hp, hl⟩
      · exact absurd e0 h0
      have hen := h.ent _ _ hm
      cases hen with
      | row hen =>
        obtain ⟨_, _, hwx, hpx, cv, ho, hr⟩ := hen _ _ _ _ hb
        obtain ⟨t', fr, hh, hn⟩ := ho.heap
        have hmem : ∀ x, x ∈ (xs.drop off).take len → x ∈ xs := fun x hx => List.mem_of_mem_drop (List.mem_of_mem_take hx)
        obtain ⟨cells, c1, c2, c3⟩ := first_run (P := P) (σ := σ) (g := g) (w := w) (b := b) (p := p) (len := len) (cap := cap) (k := kw) (ys := (xs.drop off).take len) (n := ((xs.drop off).take len).length)
          (fun x hx => hwx x (hmem x hx)) rfl (fun i j x y h1 h2 => by
            rw [List.getElem?_take] at h1
            split at h1
            · rw [List.getElem?_drop] at h1
              obtain ⟨u, u1, u2⟩ := hr (off + i) j x y h1 h2
              refine ⟨u, ?_, u2⟩
              rw [cell_of_heap hh, hp, ← u1]
              congr 1
              rw [Nat.add_mul]; omega
            · cases h1)
        exact ⟨⟨cells, by simp only [Builtin.lenOf, hlen']; rfl, c1, c2, fun x hx => hwx x (hmem x hx), fun x hx => hpx x (hmem x hx), c3⟩⟩
  case str sb l hl =>
    cases he
    subst hl
    have hcl : ∀ x ∈ (bytesOf sb).map bv, x.cells.length = 1 := by
      intro x hx; obtain ⟨q, _, rfl⟩ := List.mem_map.1 hx; rfl
    by_cases hk1 : k = 1
    · subst hk1
      refine ⟨⟨(bytesOf sb).map fun (q : Nat) => Value.int .u8 (q : Int), by simp [Builtin.lenOf, bytesOf_length], ?_, by simp, hcl, ?_, ?_⟩⟩
      · intro m hm
        simp only [Builtin.firstCells, Sem.run_pure]
        congr 1
        apply Array.ext'
        simp [bytesOf, List.map_map, Function.comp_def, ByteArray.data_extract, List.extract_eq_take_drop]
      · intro x hx; obtain ⟨q, _, rfl⟩ := List.mem_map.1 hx; exact ⟨rfl, by intro y hy; simp [bv, V.cells] at hy; subst hy; rfl⟩
      · intro i j x y h1 h2
        rw [List.getElem?_map] at h1
        cases hq : (bytesOf sb)[i]? with
        | none => rw [hq] at h1; cases h1
        | some q =>
          rw [hq] at h1
          simp only [Option.map_some, Option.some.injEq] at h1
          subst h1
          cases j with
          | zero =>
            simp only [bv, V.cells, List.getElem?_cons_zero, Option.some.injEq] at h2
            subst h2
            exact ⟨.int .u8 q, by simp [hq], .int _ _⟩
          | succ j => simp [bv, V.cells] at h2
    · have hnil : bytesOf sb = [] := by
        cases hb : bytesOf sb with
        | nil => rfl
        | cons q l =>
          rw [hb] at hw
          simp only [List.map_cons, wOk, bv, V.cells, List.length_cons, List.length_nil, Nat.beq_eq] at hw
          omega
      have hsz : sb.size = 0 := by rw [← bytesOf_length, hnil]; rfl
      rw [hnil]
      refine ⟨⟨[], by simp [Builtin.lenOf, hsz], ?_, by simp, (by intro x hx; cases hx), (by intro x hx; cases hx), (by intro i j x y h1; simp at h1)⟩⟩
      intro m hm
      have : m = 0 := by simpa using hm
      subst this
      simp [Builtin.firstCells]

end Go.VS
