/-
  Part 4 of 43 of the proof of SubcorpusSetsSaid, by an abstract machine that stands in for the Go program: lemmas without conditions of their own.
-/
import Derived.Test.YtclfgmlnechmkaaGreatP03
set_option linter.unusedSimpArgs false
set_option linter.unusedVariables false
namespace Go.VS

variable {s s' s'' : St}

theorem isStr_int {k : IntKind} {n : Int} : V.isStr (.int k n) = false := rfl
theorem notTup_int {k : IntKind} {n : Int} : V.notTup (.int k n) = true := rfl
theorem cells_int {k : IntKind} {n : Int} : V.cells (.int k n) = [.int k n] := rfl
theorem isCell_int {k : IntKind} {n : Int} : V.isCell (.int k n) = true := rfl
theorem isStr_bool {b : Bool} : V.isStr (.bool b) = false := rfl
theorem notTup_bool {b : Bool} : V.notTup (.bool b) = true := rfl
theorem cells_bool {b : Bool} : V.cells (.bool b) = [.bool b] := rfl
theorem isCell_bool {b : Bool} : V.isCell (.bool b) = true := rfl
theorem isStr_str {l : List Nat} : V.isStr (.str l) = true := rfl
theorem notTup_str {l : List Nat} : V.notTup (.str l) = true := rfl
theorem cells_str {l : List Nat} : V.cells (.str l) = [.str l] := rfl
theorem isCell_str {l : List Nat} : V.isCell (.str l) = true := rfl
theorem isStr_nilsl  : V.isStr (.nilsl) = false := rfl
theorem notTup_nilsl  : V.notTup (.nilsl) = true := rfl
theorem cells_nilsl  : V.cells (.nilsl) = [.nilsl] := rfl
theorem isCell_nilsl  : V.isCell (.nilsl) = true := rfl
theorem isStr_sl {c g off : Nat} {xs : List V} : V.isStr (.sl c g off xs) = false := rfl
theorem notTup_sl {c g off : Nat} {xs : List V} : V.notTup (.sl c g off xs) = true := rfl
theorem cells_sl {c g off : Nat} {xs : List V} : V.cells (.sl c g off xs) = [.sl c g off xs] := rfl
theorem isCell_sl {c g off : Nat} {xs : List V} : V.isCell (.sl c g off xs) = true := rfl
theorem isStr_row {r k off n : Nat} : V.isStr (.row r k off n) = false := rfl
theorem notTup_row {r k off n : Nat} : V.notTup (.row r k off n) = true := rfl
theorem cells_row {r k off n : Nat} : V.cells (.row r k off n) = [.row r k off n] := rfl
theorem isCell_row {r k off n : Nat} : V.isCell (.row r k off n) = true := rfl
theorem isStr_nilptr  : V.isStr (.nilptr) = false := rfl
theorem notTup_nilptr  : V.notTup (.nilptr) = true := rfl
theorem cells_nilptr  : V.cells (.nilptr) = [.nilptr] := rfl
theorem isCell_nilptr  : V.isCell (.nilptr) = true := rfl
theorem isStr_ptr {o off : Nat} : V.isStr (.ptr o off) = false := rfl
theorem notTup_ptr {o off : Nat} : V.notTup (.ptr o off) = true := rfl
theorem cells_ptr {o off : Nat} : V.cells (.ptr o off) = [.ptr o off] := rfl
theorem isCell_ptr {o off : Nat} : V.isCell (.ptr o off) = true := rfl
theorem isStr_eptr {r k i off : Nat} : V.isStr (.eptr r k i off) = false := rfl
theorem notTup_eptr {r k i off : Nat} : V.notTup (.eptr r k i off) = true := rfl
theorem cells_eptr {r k i off : Nat} : V.cells (.eptr r k i off) = [.eptr r k i off] := rfl
theorem isCell_eptr {r k i off : Nat} : V.isCell (.eptr r k i off) = true := rfl
theorem isStr_cptr {c g i off : Nat} {cs : List V} : V.isStr (.cptr c g i off cs) = false := rfl
theorem notTup_cptr {c g i off : Nat} {cs : List V} : V.notTup (.cptr c g i off cs) = true := rfl
theorem cells_cptr {c g i off : Nat} {cs : List V} : V.cells (.cptr c g i off cs) = [.cptr c g i off cs] := rfl
theorem isCell_cptr {c g i off : Nat} {cs : List V} : V.isCell (.cptr c g i off cs) = true := rfl
theorem isStr_nilfn  : V.isStr (.nilfn) = false := rfl
theorem notTup_nilfn  : V.notTup (.nilfn) = true := rfl
theorem cells_nilfn  : V.cells (.nilfn) = [.nilfn] := rfl
theorem isCell_nilfn  : V.isCell (.nilfn) = true := rfl
theorem isStr_fn {f : Nat} {a b : List V} : V.isStr (.fn f a b) = false := rfl
theorem notTup_fn {f : Nat} {a b : List V} : V.notTup (.fn f a b) = true := rfl
theorem cells_fn {f : Nat} {a b : List V} : V.cells (.fn f a b) = [.fn f a b] := rfl
theorem isCell_fn {f : Nat} {a b : List V} : V.isCell (.fn f a b) = true := rfl
theorem isStr_iface {t : Nat} {x : V} : V.isStr (.iface t x) = false := rfl
theorem notTup_iface {t : Nat} {x : V} : V.notTup (.iface t x) = true := rfl
theorem cells_iface {t : Nat} {x : V} : V.cells (.iface t x) = [.iface t x] := rfl
theorem isCell_iface {t : Nat} {x : V} : V.isCell (.iface t x) = true := rfl
theorem isStr_niliface  : V.isStr (.niliface) = false := rfl
theorem notTup_niliface  : V.notTup (.niliface) = true := rfl
theorem cells_niliface  : V.cells (.niliface) = [.niliface] := rfl
theorem isCell_niliface  : V.isCell (.niliface) = true := rfl
theorem isStr_agg {cs : List V} : V.isStr (.agg cs) = false := rfl
theorem notTup_agg {cs : List V} : V.notTup (.agg cs) = true := rfl
theorem cells_agg {cs : List V} : V.cells (.agg cs) = cs := rfl
theorem isCell_agg {cs : List V} : V.isCell (.agg cs) = false := rfl
theorem isStr_map {m : Nat} : V.isStr (.map m) = false := rfl
theorem notTup_map {m : Nat} : V.notTup (.map m) = true := rfl
theorem cells_map {m : Nat} : V.cells (.map m) = [.map m] := rfl
theorem isCell_map {m : Nat} : V.isCell (.map m) = true := rfl
theorem isStr_nilmap  : V.isStr (.nilmap) = false := rfl
theorem notTup_nilmap  : V.notTup (.nilmap) = true := rfl
theorem cells_nilmap  : V.cells (.nilmap) = [.nilmap] := rfl
theorem isCell_nilmap  : V.isCell (.nilmap) = true := rfl

/-! ### integers and strings -/
section
variable (k : IntKind) (a b : Int) (x y : List Nat)
theorem bv_add : binV .add (.int k a) (.int k b) = some (.int k (k.wrap (a + b))) := by simp [binV, binInt]
theorem bv_sub : binV .sub (.int k a) (.int k b) = some (.int k (k.wrap (a - b))) := by simp [binV, binInt]
theorem bv_mul : binV .mul (.int k a) (.int k b) = some (.int k (k.wrap (a * b))) := by simp [binV, binInt]
theorem bv_quo (h : b ≠ 0) : binV .quo (.int k a) (.int k b) = some (.int k (k.wrap (a.tdiv b))) := by simp [binV, binInt, h]
theorem bv_rem (h : b ≠ 0) : binV .rem (.int k a) (.int k b) = some (.int k (a.tmod b)) := by simp [binV, binInt, h]
theorem bv_eql : binV .eql (.int k a) (.int k b) = some (.bool (decide (a = b))) := by simp [binV, binInt]; rfl
theorem bv_neq : binV .neq (.int k a) (.int k b) = some (.bool (decide (a ≠ b))) := by simp [binV, binInt, bne]; rfl
theorem bv_lss : binV .lss (.int k a) (.int k b) = some (.bool (decide (a < b))) := by simp [binV, binInt]
theorem bv_leq : binV .leq (.int k a) (.int k b) = some (.bool (decide (a ≤ b))) := by simp [binV, binInt]
theorem bv_gtr : binV .gtr (.int k a) (.int k b) = some (.bool (decide (b < a))) := by simp [binV, binInt]
theorem bv_geq : binV .geq (.int k a) (.int k b) = some (.bool (decide (b ≤ a))) := by simp [binV, binInt]
theorem bs_eql : binV .eql (.str x) (.str y) = some (.bool (decide (x = y))) := by simp only [binV, binStr]; congr 2; rw [Bool.eq_iff_iff]; simp
theorem bs_neq : binV .neq (.str x) (.str y) = some (.bool (decide (x ≠ y))) := by simp only [binV, binStr]; congr 2; rw [Bool.eq_iff_iff]; simp
theorem bs_lss : binV .lss (.str x) (.str y) = some (.bool (lessN x y)) := by simp [binV, binStr]
theorem bs_leq : binV .leq (.str x) (.str y) = some (.bool (lessN x y || x == y)) := by simp [binV, binStr]
theorem bs_gtr : binV .gtr (.str x) (.str y) = some (.bool (!(lessN x y || x == y))) := by simp [binV, binStr]
theorem bs_geq : binV .geq (.str x) (.str y) = some (.bool (!lessN x y)) := by simp [binV, binStr]
theorem un_not (p : Bool) : unV .not (.bool p) = some (.bool (!p)) := rfl
theorem un_neg : unV .neg (.int k a) = some (.int k (k.wrap (0 - a))) := rfl
end

theorem not_decide (p : Prop) [Decidable p] : (!decide p) = decide (¬ p) := by simp

/-! ### memory -/
theorem mem_set' (s : St) (i : Nat) (e : Ent) (j : Nat) : (s.set i e).mem j = if j = i then some e else s.mem j := by
  simp only [St.set]
  by_cases h : j = i
  · subst h; simp
  · rw [if_neg h, show Nat.beq j i = false by rw [Bool.eq_false_iff, ne_eq, Nat.beq_eq]; exact h]; rfl
theorem mem_new' (s : St) (e : Ent) (j : Nat) : (s.new e).mem j = if j = s.next then some e else s.mem j := by
  simp only [St.new]
  by_cases h : j = s.next
  · subst h; simp
  · rw [if_neg h, show Nat.beq j s.next = false by rw [Bool.eq_false_iff, ne_eq, Nat.beq_eq]; exact h]; rfl
theorem mem_kill' (s : St) (i j : Nat) : (s.kill i).mem j = if j = i then none else s.mem j := by
  simp only [St.kill]
  by_cases h : j = i
  · subst h; simp
  · rw [if_neg h, show Nat.beq j i = false by rw [Bool.eq_false_iff, ne_eq, Nat.beq_eq]; exact h]; rfl
theorem next_set' (s : St) (i : Nat) (e : Ent) : (s.set i e).next = s.next := rfl
theorem next_new' (s : St) (e : Ent) : (s.new e).next = s.next + 1 := rfl
theorem next_kill' (s : St) (i : Nat) : (s.kill i).next = s.next := rfl

theorem ld_ptr {k o off : Nat} {ag : Bool} {cs : List V} (h : s.mem o = some (.obj cs)) : loadV k ag (.ptr o off) s = getCells cs off k ag := by simp [loadV, h]
theorem ld_eptr {k r kk i off : Nat} {ag : Bool} {xs : List V} {x : V} (h : s.mem r = some (.row xs)) (hx : xs[i]? = some x) : loadV k ag (.eptr r kk i off) s = if x.cells.length = kk then getCells x.cells off k ag else none := by simp [loadV, h, hx]
theorem ld_cptr {k c g i off : Nat} {ag : Bool} {cs : List V} : loadV k ag (.cptr c g i off cs) s = getCells cs 0 k ag := rfl
theorem st_ptr {k o off : Nat} {x : V} {cs : List V} (h : s.mem o = some (.obj cs)) :
    storeV k (.ptr o off) x s = if x.cells.length = k then (if x.notTup = true then (if off + k ≤ cs.length then some (s.set o (.obj (setCells cs off x.cells))) else none) else none) else none := by
  by_cases h1 : x.cells.length = k <;> by_cases h2 : x.notTup = true <;> by_cases h3 : off + k ≤ cs.length <;> simp [storeV, h, h1, h2, h3]
theorem st_eptr {k r kk i off : Nat} {x y : V} {xs : List V} (h : s.mem r = some (.row xs)) (hy : xs[i]? = some y) : storeV k (.eptr r kk i off) x s =
    if x.cells.length = k then (if x.notTup = true then (if y.cells.length = kk then (if off + k ≤ kk then (match putElem y off x with | some z => some (s.set r (.row (xs.set i z))) | none => none) else none) else none) else none) else none := by
  by_cases h1 : x.cells.length = k <;> by_cases h2 : x.notTup = true <;> by_cases h3 : off + k ≤ kk <;> by_cases h4 : y.cells.length = kk <;> cases h5 : putElem y off x <;> simp [storeV, h, hy, h1, h2, h3, h4, h5]
theorem ix_sl {k c g off i : Nat} {kk : IntKind} {xs : List V} {x : V} (h : xs[i]? = some x) : idxV k (.sl c g off xs) (.int kk (i : Int)) = if x.cells.length = k then some (.cptr c g (off + i) 0 x.cells) else none := by
  simp [idxV, asIdx, h]
theorem ix_row {k r off len i : Nat} {kk : IntKind} (h : i < len) : idxV k (.row r k off len) (.int kk (i : Int)) = some (.eptr r k (off + i) 0) := by simp [idxV, asIdx, h]
theorem len_sl {c g off : Nat} {xs : List V} : lenV (.sl c g off xs) = some xs.length := rfl
theorem len_nil : lenV .nilsl = some 0 := rfl
theorem len_row {r k off n : Nat} : lenV (.row r k off n) = some n := rfl
theorem len_str {l : List Nat} : lenV (.str l) = some l.length := rfl
theorem gc_cell (cs : List V) (off k : Nat) : getCells cs off k false = cs[off]? := rfl
theorem gc_agg (cs : List V) (off k : Nat) : getCells cs off k true = if off + k ≤ cs.length then some (.agg ((cs.drop off).take k)) else none := by simp [getCells]

/-! ### stores that grow -/

/-- What was there stands, but for the entities in W. -/
def St.LeW (W : List Nat) (s s' : St) : Prop := s.next ≤ s'.next ∧ ∀ id, id < s.next → id ∉ W → s'.mem id = s.mem id
abbrev St.Le (s s' : St) : Prop := St.LeW [] s s'

theorem St.LeW.refl (W : List Nat) (s : St) : St.LeW W s s := ⟨Nat.le_refl _, fun _ _ _ => rfl⟩
theorem St.LeW.trans {W : List Nat} (h : St.LeW W s s') (k : St.LeW W s' s'') : St.LeW W s s'' :=
  ⟨Nat.le_trans h.1 k.1, fun id hi hw => (k.2 id (Nat.lt_of_lt_of_le hi h.1) hw).trans (h.2 id hi hw)⟩
theorem St.LeW.weaken {W W' : List Nat} (h : St.LeW W s s') (k : ∀ i ∈ W, i ∈ W' ∨ s.next ≤ i) : St.LeW W' s s' :=
  ⟨h.1, fun id hi hw => h.2 id hi fun hm => (k id hm).elim hw (fun h => absurd hi (by omega))⟩
theorem St.LeW.new (W : List Nat) (s : St) (e : Ent) : St.LeW W s (s.new e) :=
  ⟨by rw [next_new']; omega, fun id hi _ => by rw [mem_new', if_neg (by omega)]⟩
theorem St.LeW.set {W : List Nat} {i : Nat} (s : St) (e : Ent) (h : i ∈ W ∨ s.next ≤ i) : St.LeW W s (s.set i e) :=
  ⟨Nat.le_refl _, fun id hi hw => by rw [mem_set', if_neg (by rintro rfl; rcases h with h | h; exact hw h; omega)]⟩
theorem St.LeW.kill {W : List Nat} {i : Nat} (s : St) (h : i ∈ W ∨ s.next ≤ i) : St.LeW W s (s.kill i) :=
  ⟨Nat.le_refl _, fun id hi hw => by rw [mem_kill', if_neg (by rintro rfl; rcases h with h | h; exact hw h; omega)]⟩

/-- A slice that nobody writes to, of these elements. -/
def IsL (v : V) (xs : List V) : Prop := (v = .nilsl ∧ xs = []) ∨ ∃ c g off, v = .sl c g off xs
/-- Such a slice at the end of its row: what is appended may lie behind it. -/
def IsTip (s : St) (v : V) (k : Nat) (xs : List V) : Prop := (v = .nilsl ∧ xs = []) ∨ ∃ c g, v = .sl c g 0 xs ∧ c < s.next ∧ s.mem c = some (.tip g xs.length k)

theorem IsTip.isL {v : V} {k : Nat} {xs : List V} (h : IsTip s v k xs) : IsL v xs := h.imp id fun ⟨c, g, h, _⟩ => ⟨c, g, 0, h⟩
theorem IsTip.mono {v : V} {k : Nat} {xs : List V} (h : IsTip s v k xs) (hl : St.Le s s') : IsTip s' v k xs :=
  h.imp id fun ⟨c, g, h1, h2, h3⟩ => ⟨c, g, h1, Nat.lt_of_lt_of_le h2 hl.1, by rw [hl.2 c h2 (by simp)]; exact h3⟩
theorem IsL.len {v : V} {xs : List V} (h : IsL v xs) : lenV v = some xs.length := by
  rcases h with ⟨rfl, rfl⟩ | ⟨c, g, off, rfl⟩ <;> rfl
theorem IsL.elems {v : V} {xs : List V} (h : IsL v xs) : elems v s = some xs := by
  rcases h with ⟨rfl, rfl⟩ | ⟨c, g, off, rfl⟩ <;> rfl
theorem IsL.idx {v : V} {xs : List V} {i k : Nat} {kk : IntKind} {x : V} (h : IsL v xs) (hx : xs[i]? = some x) (hk : x.cells.length = k) : ∃ c g j, idxV k v (.int kk (i : Int)) = some (.cptr c g j 0 x.cells) := by
  rcases h with ⟨rfl, rfl⟩ | ⟨c, g, off, rfl⟩
  · simp at hx
  · exact ⟨c, g, off + i, by rw [ix_sl hx, if_pos hk]⟩

/-- The row that a tip may be written to. -/
def V.own : V → List Nat
  | .sl c _ _ _ => [c]
  | _ => []

theorem append_tip {v w : V} {k by_ : Nat} {xs ys : List V} (h : IsTip s v k xs) (hw : elems w s = some ys) (hr : rowOk w k = true) (h1 : wOk k ys = true) (h2 : wOk k xs = true) (hl : xs.length + ys.length ≤ most) (hb : by_ ≤ 4096) :
    ∃ v' s', appendV false k by_ v w s = some (v', s') ∧ IsTip s' v' k (xs ++ ys) ∧ St.LeW v.own s s' ∧ (∀ i ∈ v'.own, i ∈ v.own ∨ s.next ≤ i) := by
  rcases h with ⟨rfl, rfl⟩ | ⟨c, g, rfl, hc, hm⟩
  · by_cases hy : ys = []
    · subst hy
      exact ⟨.nilsl, s, by simp [appendV, hw, wOk, hr, show rowOk V.nilsl k = true from rfl], .inl ⟨rfl, rfl⟩, St.LeW.refl _ _, by simp [V.own]⟩
    · have : ys.isEmpty = false := by simp [hy]
      refine ⟨.sl s.next 0 0 ys, s.new (.tip 0 ys.length k), ?_, .inr ⟨_, _, rfl, by simp [next_new'], by simp [mem_new']⟩, St.LeW.new _ _ _, by simp [V.own]⟩
      simp only [List.length_nil, Nat.zero_add] at hl
      simp [appendV, hw, h1, show rowOk V.nilsl k = true from rfl, hr, this, hl, hb]
  · by_cases hy : ys = []
    · subst hy
      exact ⟨.sl c g 0 xs, s, by simp [appendV, hw, wOk, hr, show rowOk (V.sl c g 0 xs) k = true from rfl], .inr ⟨c, g, by simp, hc, by simpa using hm⟩, St.LeW.refl _ _, by simp [V.own]⟩
    · have : ys.isEmpty = false := by simp [hy]
      refine ⟨.sl c (g + 1) 0 (xs ++ ys), s.set c (.tip (g + 1) (xs.length + ys.length) k), ?_, .inr ⟨c, g + 1, rfl, hc, by simp [mem_set']⟩, St.LeW.set _ _ (.inl (by simp [V.own])), by simp [V.own]⟩
      simp [appendV, hw, h1, show rowOk (V.sl c g 0 xs) k = true from rfl, hr, this, hl, hb, hm, h2]

theorem IsL.notStr {v : V} {xs : List V} (h : IsL v xs) : v.isStr = false := by
  rcases h with ⟨rfl, rfl⟩ | ⟨c, g, off, rfl⟩ <;> rfl
theorem IsL.sl {c g off : Nat} {xs : List V} : IsL (.sl c g off xs) xs := .inr ⟨c, g, off, rfl⟩
theorem IsL.nil : IsL .nilsl [] := .inl ⟨rfl, rfl⟩

/-- The equality of two structs of two integers. -/
theorem eq_ii (a b c d : Int) (k1 k2 : IntKind) : eqV (.agg [.i, .i]) (.agg [.int k1 a, .int k2 b]) (.agg [.int k1 c, .int k2 d]) = some (decide (a = c ∧ b = d)) := by
  simp only [eqV, cellsEq, scalarEq, if_true]
  by_cases h1 : a = c
  · subst h1
    by_cases h2 : b = d
    · subst h2; simp
    · have : (b == d) = false := by simpa using h2
      simp [this, h2]
  · have : (a == c) = false := by simpa using h1
    simp [this, h1]

theorem IsL.cells1 {v : V} {xs : List V} (h : IsL v xs) : v.cells = [v] := by
  rcases h with ⟨rfl, rfl⟩ | ⟨c, g, off, rfl⟩ <;> rfl

end Go.VS
