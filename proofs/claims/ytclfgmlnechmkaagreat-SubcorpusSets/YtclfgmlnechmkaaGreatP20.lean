/-
  Part 20 of 43 of the proof of SubcorpusSetsSaid, by an abstract machine that stands in for the Go program: lemmas without conditions of their own.
-/
import Derived.Test.YtclfgmlnechmkaaGreatP19
set_option linter.unusedSimpArgs false
set_option linter.unusedVariables false
namespace Go.VS

variable {P : Program} {σ : Nat → Nat} {g g' : G} {s s' : St} {w w' : World}

theorem beqf {a b : Nat} (h : ¬ a = b) : Nat.beq a b = false := by
  rw [Bool.eq_false_iff, ne_eq, Nat.beq_eq]; exact h

@[simp] theorem St.mem_set (s : St) (i : Nat) (e : Ent) (j : Nat) : (s.set i e).mem j = if j = i then some e else s.mem j := by
  show (bif Nat.beq j i then some e else s.mem j) = _
  by_cases h : j = i
  · subst h; simp
  · rw [beqf h]; simp [h]
@[simp] theorem St.mem_kill (s : St) (i j : Nat) : (s.kill i).mem j = if j = i then none else s.mem j := by
  show (bif Nat.beq j i then none else s.mem j) = _
  by_cases h : j = i
  · subst h; simp
  · rw [beqf h]; simp [h]
@[simp] theorem St.mem_new (s : St) (e : Ent) (j : Nat) : (s.new e).mem j = if j = s.next then some e else s.mem j := by
  show (bif Nat.beq j s.next then some e else s.mem j) = _
  by_cases h : j = s.next
  · subst h; simp
  · rw [beqf h]; simp [h]
@[simp] theorem St.next_set (s : St) (i : Nat) (e : Ent) : (s.set i e).next = s.next := rfl
@[simp] theorem St.next_kill (s : St) (i : Nat) : (s.kill i).next = s.next := rfl
@[simp] theorem St.next_new (s : St) (e : Ent) : (s.new e).next = s.next + 1 := rfl

/-- The general step: the entities of T may turn, with their blocks; nothing else does. -/
theorem Sim.step (h : Sim σ g s w) (T : Nat → Prop) (hle : G.Le g g') (hfix : ∀ b p v, g'.fix b p = some v → w'.cell? ⟨b, p, none⟩ = some v)
    (hnext : s.next ≤ s'.next) (hmem : ∀ id, ¬ T id → ∀ e, s'.mem id = some e → s.mem id = some e) (hblk : ∀ id n, ¬ T id → g'.blk id n = g.blk id n)
    (hown : ∀ b id, g.own b = some id → ¬ T id → g'.own b = some id ∧ (∀ p, g'.fix b p = g.fix b p) ∧ w'.heap[b]? = w.heap[b]?)
    (hT : ∀ id e, T id → s'.mem id = some e → EntRel σ g' w' id e ∧ id < s'.next)
    (hTb : ∀ id n b base k lim, T id → g'.blk id n = some (b, base, k, lim) → id < s'.next ∧ b < w'.heap.size)
    (hgens : ∀ id gn n k m, T id → s'.mem id = some (.tip gn n k) → gn < m → g'.blk id m = none)
    (hsize : w.heap.size ≤ w'.heap.size) (hnew : ∀ b, w'.heap.size ≤ b → g'.own b = none) : Sim σ g' s' w' where
  fixc := hfix
  ent id e he := by
    by_cases t : T id
    · exact (hT id e t he).1
    · have he' := hmem id t e he
      refine (h.ent id e he').keep hle (fun n => hblk id n t) (fun b hb => hown b id hb t)
  lt id e he := by
    by_cases t : T id
    · exact (hT id e t he).2
    · exact Nat.lt_of_lt_of_le (h.lt id e (hmem id t e he)) hnext
  blt id n x hx := by
    by_cases t : T id
    · obtain ⟨b, base, k, lim⟩ := x; exact (hTb id n b base k lim t hx).1
    · rw [hblk id n t] at hx; exact Nat.lt_of_lt_of_le (h.blt id n x hx) hnext
  gens id gn n k m he hlt := by
    by_cases t : T id
    · exact hgens id gn n k m t he hlt
    · rw [hblk id m t]; exact h.gens id gn n k m (hmem id t _ he) hlt
  own b hb := hnew b hb
  back id n b base k lim hx := by
    by_cases t : T id
    · exact (hTb id n b base k lim t hx).2
    · rw [hblk id n t] at hx; exact Nat.lt_of_lt_of_le (h.back id n b base k lim hx) hsize

theorem Sim.fresh (h : Sim σ g s w) (n : Nat) : g.blk s.next n = none := by
  cases hb : g.blk s.next n with
  | none => rfl
  | some x => exact absurd (h.blt _ _ _ hb) (Nat.lt_irrefl _)

theorem Sim.freshFix (h : Sim σ g s w) {b : Nat} (hb : w.heap.size ≤ b) (p : Nat) : g.fix b p = none := by
  cases hf : g.fix b p with
  | none => rfl
  | some v =>
    have := World.block_lt_of_cell? w _ (h.fixc _ _ _ hf)
    simp at this; omega

/-- Memory with one more block, the home of the entity 'id'. -/
def G.add (g : G) (id b : Nat) (x : Nat × Nat × Nat × Nat) (f : Nat → Option Value) : G where
  fix := fun b' p => if b' = b then f p else g.fix b' p
  blk := fun i n => if i = id ∧ n = 0 then some x else g.blk i n
  own := fun b' => if b' = b then some id else g.own b'

theorem Sim.addLe (h : Sim σ g s w) {b : Nat} (hb : w.heap.size ≤ b) (x : Nat × Nat × Nat × Nat) (f : Nat → Option Value) : G.Le g (g.add s.next b x f) where
  fix b' p v hv := by
    show (if b' = b then f p else g.fix b' p) = some v
    by_cases e : b' = b
    · subst e; rw [h.freshFix hb] at hv; cases hv
    · rw [if_neg e]; exact hv
  blk i n y hy := by
    show (if i = s.next ∧ n = 0 then some x else g.blk i n) = some y
    by_cases e : i = s.next ∧ n = 0
    · rw [e.1, h.fresh] at hy; cases hy
    · rw [if_neg e]; exact hy

theorem heap_alloc (w : World) (o : Obj) (b : Nat) : (w.alloc o).heap[b]? = if b = w.heap.size then some o else w.heap[b]? := by
  show (w.heap.push o)[b]? = _
  rw [Array.getElem?_push]

theorem cell_alloc (w : World) (o : Obj) (b p : Nat) (h : b ≠ w.heap.size) : (w.alloc o).cell? ⟨b, p, none⟩ = w.cell? ⟨b, p, none⟩ :=
  World.cell?_alloc_old w o ⟨b, p, none⟩ h

/-- A new entity in a new block. -/
theorem Sim.new (h : Sim σ g s w) (o : Obj) (e : Ent) (base k lim : Nat) (f : Nat → Option Value)
    (hf : ∀ p v, f p = some v → (w.alloc o).cell? ⟨w.heap.size, p, none⟩ = some v) (hg : ∀ gn n k, e = .tip gn n k → gn = 0)
    (he : EntRel σ (g.add s.next w.heap.size (w.heap.size, base, k, lim) f) (w.alloc o) s.next e) :
    Keep g w (g.add s.next w.heap.size (w.heap.size, base, k, lim) f) (w.alloc o) ∧ Sim σ (g.add s.next w.heap.size (w.heap.size, base, k, lim) f) (s.new e) (w.alloc o) := by
  have hle := h.addLe (Nat.le_refl w.heap.size) (w.heap.size, base, k, lim) f
  constructor
  · refine ⟨hle, fun b hb hn => ⟨?_, ?_⟩, by simp, rfl, rfl, rfl, Nat.le_refl _⟩
    · show (if b = w.heap.size then some s.next else g.own b) = none
      rw [if_neg (by omega)]; exact hn
    · rw [heap_alloc, if_neg (by omega)]
  · refine h.step (· = s.next) hle ?_ (by simp) ?_ ?_ ?_ ?_ ?_ ?_ (by simp) ?_
    · intro b p v hv
      change (if b = w.heap.size then f p else g.fix b p) = some v at hv
      by_cases eb : b = w.heap.size
      · subst eb; rw [if_pos rfl] at hv; exact hf p v hv
      · rw [if_neg eb] at hv; rw [cell_alloc _ _ _ _ eb]; exact h.fixc _ _ _ hv
    · intro id hid e' he'
      rw [St.mem_new, if_neg hid] at he'; exact he'
    · intro id n hid
      show (if id = s.next ∧ n = 0 then _ else g.blk id n) = _
      rw [if_neg (fun x => hid x.1)]
    · intro b id hb hid
      have hlt : b ≠ w.heap.size := fun eb => by rw [h.own b (by omega)] at hb; cases hb
      refine ⟨?_, fun p => ?_, ?_⟩
      · show (if b = w.heap.size then _ else g.own b) = _
        rw [if_neg hlt]; exact hb
      · show (if b = w.heap.size then _ else g.fix b p) = _
        rw [if_neg hlt]
      · rw [heap_alloc, if_neg hlt]
    · rintro id e' rfl he'
      rw [St.mem_new, if_pos rfl] at he'
      cases he'
      exact ⟨he, by simp⟩
    · rintro id n b base' k' lim' rfl hb
      refine ⟨by simp, ?_⟩
      change (if s.next = s.next ∧ n = 0 then _ else g.blk s.next n) = _ at hb
      split at hb
      · simp only [Option.some.injEq, Prod.mk.injEq] at hb; rw [← hb.1]; simp
      · rw [h.fresh] at hb; cases hb
    · rintro id gn n k' m rfl he' hlt
      rw [St.mem_new, if_pos rfl] at he'
      cases he'
      have := hg gn n k' rfl
      show (if s.next = s.next ∧ m = 0 then _ else g.blk s.next m) = none
      rw [if_neg (by omega)]; exact h.fresh m
    · intro b hb
      show (if b = w.heap.size then _ else g.own b) = none
      simp at hb
      rw [if_neg (by omega)]; exact h.own b (by omega)

theorem add_blk (g : G) (id b : Nat) (x : Nat × Nat × Nat × Nat) (f : Nat → Option Value) : (g.add id b x f).blk id 0 = some x := by simp [G.add]
theorem add_own (g : G) (id b : Nat) (x : Nat × Nat × Nat × Nat) (f : Nat → Option Value) : (g.add id b x f).own b = some id := by simp [G.add]
theorem add_fix (g : G) (id b : Nat) (x : Nat × Nat × Nat × Nat) (f : Nat → Option Value) (p : Nat) : (g.add id b x f).fix b p = f p := by simp [G.add]

theorem nf_zero (n : Nat) : nf (0, 0) n := fun p _ h => by simp at h

theorem Own.new (g : G) (w : World) (id base k lim : Nat) (f : Nat → Option Value) (cs : Array Value) (t : TypeId) (h : cs.size = lim) {fr : Nat × Nat} (hn : nf fr cs.size) :
    Own (g.add id w.heap.size (w.heap.size, base, k, lim) f) (w.alloc (.cells cs t fr)) id w.heap.size lim cs :=
  ⟨add_own _ _ _ _ _, ⟨t, fr, by rw [heap_alloc, if_pos rfl], hn⟩, h⟩

/-- A new variable. -/
theorem Sim.newObj (h : Sim σ g s w) {cs : Array Value} {cells : List V} (t : TypeId) (hl : cs.size = cells.length) (hc : ∀ y ∈ cells, y.isCell = true)
    (hr : ∀ (i : Nat) v x, cs[i]? = some v → cells[i]? = some x → VRel σ g v x) :
    ∃ g', VRel σ g' (.pointer (some ⟨w.heap.size, 0, none⟩)) (.ptr s.next 0) ∧ Keep g w g' (w.alloc (.cells cs t)) ∧ Sim σ g' (s.new (.obj cells)) (w.alloc (.cells cs t)) := by
  have hle := h.addLe (Nat.le_refl w.heap.size) (w.heap.size, 0, 1, cs.size) (fun _ => none)
  refine ⟨g.add s.next w.heap.size (w.heap.size, 0, 1, cs.size) (fun _ => none), .ptr (add_blk _ _ _ _ _), h.new _ _ 0 1 cs.size _ (by simp) (by simp) ?_⟩
  refine .obj fun b base k lim hb => ?_
  rw [add_blk] at hb
  simp only [Option.some.injEq, Prod.mk.injEq] at hb
  obtain ⟨rfl, rfl, rfl, rfl⟩ := hb
  exact ⟨rfl, fun p => add_fix _ _ _ _ _ _, cs, Own.new _ _ _ _ _ _ _ _ _ rfl (nf_zero _), hl, hc, fun i v x a b => (hr i v x a b).mono hle⟩

/-- The cells of a row: element by element. -/
def RowRel (σ : Nat → Nat) (g : G) (k : Nat) (cs : Array Value) (base : Nat) (xs : List V) : Prop :=
  ∀ (i j : Nat) x y, xs[i]? = some x → x.cells[j]? = some y → ∃ v, cs[base + i * k + j]? = some v ∧ VRel σ g v y

theorem RowRel.mono {k base : Nat} {cs : Array Value} {xs : List V} (hle : G.Le g g') (h : RowRel σ g k cs base xs) : RowRel σ g' k cs base xs :=
  fun i j x y a b => let ⟨v, v1, v2⟩ := h i j x y a b; ⟨v, v1, v2.mono hle⟩

def Width (k : Nat) (xs : List V) : Prop := ∀ x ∈ xs, x.cells.length = k
def Plain (xs : List V) : Prop := ∀ x ∈ xs, x.notTup = true ∧ ∀ y ∈ x.cells, y.isCell = true

/-- A new row that is written to. -/
theorem Sim.newRow (h : Sim σ g s w) {cs : Array Value} {xs : List V} {k cap : Nat} (t : TypeId) {fr : Nat × Nat} (hn : nf fr cs.size) (hs : cs.size = cap * k) (hle : xs.length ≤ cap) (hw : Width k xs) (hp : Plain xs) (hr : RowRel σ g k cs 0 xs) :
    ∃ g', VRel σ g' (.slice (some ⟨w.heap.size, 0, none⟩) xs.length cap) (.row s.next k 0 xs.length) ∧ Keep g w g' (w.alloc (.cells cs t fr)) ∧ Sim σ g' (s.new (.row xs)) (w.alloc (.cells cs t fr)) := by
  have hl := h.addLe (Nat.le_refl w.heap.size) (w.heap.size, 0, k, cs.size) (fun _ => none)
  refine ⟨g.add s.next w.heap.size (w.heap.size, 0, k, cs.size) (fun _ => none), .row hle (.inr ⟨0, cs.size, add_blk _ _ _ _ _, by simp, by simp [hs]⟩), h.new _ _ 0 k cs.size _ (by simp) (by simp) ?_⟩
  refine .row fun b base k' lim hb => ?_
  rw [add_blk] at hb
  simp only [Option.some.injEq, Prod.mk.injEq] at hb
  obtain ⟨rfl, rfl, rfl, rfl⟩ := hb
  refine ⟨fun p => add_fix _ _ _ _ _ _, ?_, hw, hp, cs, Own.new _ _ _ _ _ _ _ _ _ rfl hn, hr.mono hl⟩
  rw [hs, Nat.zero_add]; exact Nat.mul_le_mul_right _ hle

/-- A new slice that nobody writes to. -/
theorem Sim.newSl (h : Sim σ g s w) {cs : Array Value} {xs : List V} {k cap : Nat} (t : TypeId) {fr : Nat × Nat} (hn : nf fr cs.size) (hs : cs.size = cap * k) (hle : xs.length ≤ cap) (hw : Width k xs) (hp : Plain xs) (hr : RowRel σ g k cs 0 xs) :
    ∃ g', VRel σ g' (.slice (some ⟨w.heap.size, 0, none⟩) xs.length cap) (.sl s.next 0 0 xs) ∧ Keep g w g' (w.alloc (.cells cs t fr)) ∧ Sim σ g' (s.new (.tip 0 xs.length k)) (w.alloc (.cells cs t fr)) := by
  let f : Nat → Option Value := fun p => if p < xs.length * k then cs[p]? else none
  have hl := h.addLe (Nat.le_refl w.heap.size) (w.heap.size, 0, k, cs.size) f
  have hidx : ∀ (i j : Nat) x y, xs[i]? = some x → x.cells[j]? = some y → i * k + j < xs.length * k := by
    intro i j x y h1 h2
    have i1 := (List.getElem?_eq_some_iff.1 h1).1
    have j1 := (List.getElem?_eq_some_iff.1 h2).1
    rw [hw x (List.mem_of_getElem? h1)] at j1
    have : (i + 1) * k ≤ xs.length * k := Nat.mul_le_mul_right _ i1
    rw [Nat.add_mul] at this
    omega
  refine ⟨g.add s.next w.heap.size (w.heap.size, 0, k, cs.size) f, ?_, h.new _ _ 0 k cs.size _ (fun p v hv => ?_) (fun gn n _ e => by cases e; rfl) ?_⟩
  · refine .sl k (fun i j => cs.getD (i * k + j) .nilIface) rfl hle hw hp (fun i j x y h1 h2 => ?_) (fun i j x y h1 h2 => ?_) (.inr ⟨0, cs.size, add_blk _ _ _ _ _, by simp, by simp [hs]⟩)
    · obtain ⟨v, v1, _⟩ := hr i j x y h1 h2
      rw [Nat.zero_add] at v1
      rw [add_fix]
      show (if 0 + i * k + j < xs.length * k then cs[0 + i * k + j]? else none) = _
      rw [Nat.zero_add, if_pos (hidx i j x y h1 h2), v1]
      simp [Array.getD_eq_getD_getElem?, v1]
    · obtain ⟨v, v1, v2⟩ := hr i j x y h1 h2
      rw [Nat.zero_add] at v1
      simp only [Array.getD_eq_getD_getElem?, v1, Option.getD_some]
      exact v2.mono hl
  · have hcell : (w.alloc (.cells cs t fr)).cell? ⟨w.heap.size, p, none⟩ = cs[p]? := by simp only [World.cell?, heap_alloc, if_true]; rfl
    rw [hcell]
    change (if p < xs.length * k then cs[p]? else none) = some v at hv
    split at hv
    · exact hv
    · cases hv
  · refine .tip fun b base k' lim hb => ?_
    rw [add_blk] at hb
    simp only [Option.some.injEq, Prod.mk.injEq] at hb
    obtain ⟨rfl, rfl, rfl, rfl⟩ := hb
    refine ⟨rfl, ?_, fun p hp' => ?_, cs, Own.new _ _ _ _ _ _ _ _ _ rfl hn⟩
    · rw [hs, Nat.zero_add]; exact Nat.mul_le_mul_right _ hle
    · rw [add_fix]
      show (if p < xs.length * k then cs[p]? else none) = none
      rw [if_neg (by omega)]

end Go.VS
