/-
  Part 24 of 43 of the proof of SubcorpusSetsSaid, by an abstract machine that stands in for the Go program: lemmas without conditions of their own.
-/
import Derived.Test.YtclfgmlnechmkaaGreatP23
set_option linter.unusedSimpArgs false
set_option linter.unusedVariables false
namespace Go.VS

variable {P : Program} {σ : Nat → Nat} {g g' : G} {s s' : St} {w w' : World}

/-- What is known of memory, where block b becomes the home of entity 'id' (generation 'gen'), with the fixed cells F. -/
def G.put (g : G) (id gen b : Nat) (x : Nat × Nat × Nat × Nat) (F : Nat → Option Value) : G where
  fix := fun b' p => if b' = b then F p else g.fix b' p
  blk := fun i n => if i = id ∧ n = gen then some x else g.blk i n
  own := fun b' => if b' = b then some id else g.own b'

theorem put_blk (g : G) (id gen b : Nat) (x : Nat × Nat × Nat × Nat) (F : Nat → Option Value) : (g.put id gen b x F).blk id gen = some x := by simp [G.put]
theorem put_own (g : G) (id gen b : Nat) (x : Nat × Nat × Nat × Nat) (F : Nat → Option Value) : (g.put id gen b x F).own b = some id := by simp [G.put]
theorem put_fix (g : G) (id gen b : Nat) (x : Nat × Nat × Nat × Nat) (F : Nat → Option Value) (p : Nat) : (g.put id gen b x F).fix b p = F p := by simp [G.put]

theorem put_le {id gen b : Nat} {x : Nat × Nat × Nat × Nat} {F : Nat → Option Value} (hF : ∀ p v, g.fix b p = some v → F p = some v) (hb : g.blk id gen = none) : G.Le g (g.put id gen b x F) where
  fix b' p v hv := by
    show (if b' = b then F p else g.fix b' p) = some v
    by_cases e : b' = b
    · subst e; rw [if_pos rfl]; exact hF p v hv
    · rw [if_neg e]; exact hv
  blk i n y hy := by
    show (if i = id ∧ n = gen then some x else g.blk i n) = some y
    by_cases e : i = id ∧ n = gen
    · rw [e.1, e.2, hb] at hy; cases hy
    · rw [if_neg e]; exact hy

/-- Block b, new or one of an entity's that goes, becomes the home of 'id'. -/
theorem Sim.put (h : Sim σ g s w) {id gen b base k lim : Nat} {F : Nat → Option Value} {e : Ent} (hF : ∀ p v, g.fix b p = some v → F p = some v) (hb : g.blk id gen = none)
    (hmem : s'.mem id = some e) (hoth : ∀ i, i ≠ id → ∀ e', s'.mem i = some e' → s.mem i = some e' ∧ g.own b ≠ some i)
    (hnext : s.next ≤ s'.next) (hid : id < s'.next) (hheap : ∀ b', b' ≠ b → w'.heap[b']? = w.heap[b']?) (hsize : w.heap.size ≤ w'.heap.size) (hbs : b < w'.heap.size)
    (hfix : ∀ p v, F p = some v → w'.cell? ⟨b, p, none⟩ = some v) (he : EntRel σ (g.put id gen b (b, base, k, lim) F) w' id e)
    (hgens : ∀ gn n k', e = .tip gn n k' → ∀ m, gn < m → (g.put id gen b (b, base, k, lim) F).blk id m = none)
    (hown : g.own b ≠ none ∨ w.heap.size ≤ b) (hos : w'.os = w.os) (htape : w'.tape = w.tape) (hout : w'.output = w.output) (hdr : w.drawn ≤ w'.drawn := by exact Nat.le_refl _) :
    Keep g w (g.put id gen b (b, base, k, lim) F) w' ∧ Sim σ (g.put id gen b (b, base, k, lim) F) s' w' := by
  have hle : G.Le g (g.put id gen b (b, base, k, lim) F) := put_le hF hb
  constructor
  · refine ⟨hle, fun b' hb' hn => ?_, hsize, hos, htape, hout, hdr⟩
    have hne : b' ≠ b := by
      rintro rfl
      rcases hown with h1 | h1
      · exact h1 hn
      · exact absurd hb' (by omega)
    refine ⟨?_, hheap b' hne⟩
    show (if b' = b then some id else g.own b') = none
    rw [if_neg hne]; exact hn
  · refine h.step (fun i => i = id ∨ g.own b = some i) hle ?_ hnext ?_ ?_ ?_ ?_ ?_ ?_ hsize ?_
    · intro b' p v hv
      change (if b' = b then F p else g.fix b' p) = some v at hv
      by_cases eb : b' = b
      · subst eb; rw [if_pos rfl] at hv; exact hfix p v hv
      · rw [if_neg eb] at hv
        rw [World.cell?_of_block (w := w) (hheap b' eb)]
        exact h.fixc _ _ _ hv
    · intro i hi e' he'
      exact (hoth i (fun x => hi (.inl x)) e' he').1
    · intro i n hi
      show (if i = id ∧ n = gen then _ else g.blk i n) = _
      rw [if_neg (fun x => hi (.inl x.1))]
    · intro b' i hb' hi
      have hne : b' ≠ b := by rintro rfl; exact hi (.inr hb')
      refine ⟨?_, fun p => ?_, hheap b' hne⟩
      · show (if b' = b then _ else g.own b') = _
        rw [if_neg hne]; exact hb'
      · show (if b' = b then _ else g.fix b' p) = _
        rw [if_neg hne]
    · intro i e' hi he'
      by_cases hii : i = id
      · subst hii
        rw [hmem] at he'; cases he'
        exact ⟨he, hid⟩
      · rcases hi with h1 | h1
        · exact absurd h1 hii
        · exact absurd h1 (hoth i hii e' he').2
    · intro i n b' base' k' lim' hi hbk
      change (if i = id ∧ n = gen then _ else g.blk i n) = _ at hbk
      by_cases hii : i = id ∧ n = gen
      · rw [if_pos hii] at hbk
        simp only [Option.some.injEq, Prod.mk.injEq] at hbk
        exact ⟨by rw [hii.1]; exact hid, by rw [← hbk.1]; exact hbs⟩
      · rw [if_neg hii] at hbk
        exact ⟨Nat.lt_of_lt_of_le (h.blt _ _ _ hbk) hnext, Nat.lt_of_lt_of_le (h.back _ _ _ _ _ _ hbk) hsize⟩
    · intro i gn n k' m hi he' hlt
      by_cases hii : i = id
      · subst hii
        rw [hmem] at he'; cases he'
        exact hgens gn n k' rfl m hlt
      · rcases hi with h1 | h1
        · exact absurd h1 hii
        · exact absurd h1 (hoth i hii _ he').2
    · intro b' hb'
      show (if b' = b then _ else g.own b') = none
      rw [if_neg (by omega)]; exact h.own b' (by omega)

/-! ### the model's append -/

def appTy (P : Program) (u : Nat) : Prop := (∃ e, P.underlying u = some (.slice e)) ∨ P.underlying u = some .string

theorem append_room {t u ty e k : Nat} {i : TypeInfo} {base : Option Addr} {sLen sCap n : Nat} {y : Value} {L : List Value} (ht : P.underlying t = some (.slice e)) (hu : appTy P u) (hi : P.info? e = some i) (hk : i.size = k)
    (hlen : (Builtin.lenOf y).run P w = .ok n w) (hfirst : (Builtin.firstCells k n y).run P w = .ok L.toArray w) (hroom : sLen + n ≤ sCap)
    (hst : ∀ a, base = some a → (storeCells (a.add (sLen * k)) L).run P w = .ok () w') (hno : base = none → w' = w) :
    (Builtin.append_ #[t, u] ty #[.slice base sLen sCap, y]).run P w = .ok (.slice base (sLen + n) sCap) w' := by
  rcases hu with ⟨e', hu⟩ | hu <;> cases base with
  | none => rw [hno rfl]; simp [Builtin.append_, run_underlying ht, run_underlying hu, sizeOf, typeInfo, hi, hk, hlen, hroom, hfirst]
  | some a => simp [Builtin.append_, run_underlying ht, run_underlying hu, sizeOf, typeInfo, hi, hk, hlen, hroom, hfirst, hst a rfl]

theorem append_grow {t u ty e k : Nat} {i : TypeInfo} {zv : Value} {base : Option Addr} {sLen sCap n : Nat} {y : Value} {L O : List Value} (ht : P.underlying t = some (.slice e)) (hu : appTy P u) (hi : P.info? e = some i)
    (hk : i.size = k) (hz : i.zero = some zv) (hlen : (Builtin.lenOf y).run P w = .ok n w) (hfirst : (Builtin.firstCells k n y).run P w.drew = .ok L.toArray w.drew)
    (hold : (Builtin.firstCells k sLen (.slice base sLen sCap)).run P w.drew = .ok O.toArray w.drew) (hgrow : sCap < sLen + n) (hm : sLen + n ≤ most) (hb : i.bytes ≤ 4096) :
    (Builtin.append_ #[t, u] ty #[.slice base sLen sCap, y]).run P w =
      .ok (.slice (some ⟨w.heap.size, 0, none⟩) (sLen + n) (grownCap w (sLen + n) sCap e))
        (w.drew.alloc (.cells (O.toArray ++ L.toArray ++ Builtin.zeroCells zv.cells (grownCap w (sLen + n) sCap e - (sLen + n))) e)) := by
  have hn : ¬ (sLen + n ≤ sCap) := by omega
  unfold most at hm
  have h63' : ¬ (9223372036854775807 < ((sLen : Int) + (n : Int))) := by omega
  have hfit := growslice_fits (bytes := i.bytes) hgrow (Nat.le_trans (Nat.mul_le_mul hm hb) (by omega))
  have h48' : ¬ (281474976710656 < Builtin.nextslicecap (sLen + n) sCap * i.bytes) := by omega
  rcases hu with ⟨e', hu⟩ | hu <;>
    simp [Builtin.append_, run_underlying ht, run_underlying hu, sizeOf, typeInfo, zeroValue, hi, hk, hz, hlen, hn, h63', h48', Question.forced, hfirst, hold, newRow, grownCap] <;>
    (congr 2; apply Array.ext'; simp [List.append_assoc])

theorem grown_ge (w : World) (need old : Nat) (e : TypeId) : need ≤ grownCap w need old e := by simp [grownCap, Question.cut]

theorem zeroCells_size {zc : Array Value} {k n : Nat} (h : zc.size = k) : (Builtin.zeroCells zc n).size = n * k := by simp [Builtin.zeroCells, h]

/-- Two rows of cells one behind the other. -/
theorem RowRel.join {k : Nat} {O L : List Value} {C : Array Value} {xs ys : List V} (hO : O.length = xs.length * k) (hL : L.length = ys.length * k) (hx : Width k xs) (hy : Width k ys)
    (h1 : RowRel σ g k O.toArray 0 xs) (h2 : RowRel σ g k L.toArray 0 ys) : RowRel σ g k (O.toArray ++ L.toArray ++ C) 0 (xs ++ ys) := by
  intro i j x y a b
  have hjk := (RowRel.idx (hx.append hy) a b).2.1
  rw [Nat.zero_add]
  by_cases hi : i < xs.length
  · rw [List.getElem?_append_left hi] at a
    obtain ⟨v, v1, v2⟩ := h1 i j x y a b
    rw [Nat.zero_add] at v1
    have hlt : i * k + j < O.length := by simpa using (Array.getElem?_eq_some_iff.1 v1).1
    refine ⟨v, ?_, v2⟩
    rw [Array.append_assoc, Array.getElem?_append_left (by simpa using hlt)]
    exact v1
  · rw [List.getElem?_append_right (by omega)] at a
    obtain ⟨v, v1, v2⟩ := h2 (i - xs.length) j x y a b
    rw [Nat.zero_add] at v1
    have hlt : (i - xs.length) * k + j < L.length := by simpa using (Array.getElem?_eq_some_iff.1 v1).1
    have hmul : (i - xs.length) * k + xs.length * k = i * k := by rw [← Nat.add_mul]; congr 1; omega
    refine ⟨v, ?_, v2⟩
    rw [Array.getElem?_append_left (by simp; omega), Array.getElem?_append_right (by simp; omega)]
    rw [← v1]
    congr 1
    simp; omega

theorem RowRel.at {k base : Nat} {cs : Array Value} {O : List Value} {xs : List V} (hw : Width k xs) (h : RowRel σ g k O.toArray 0 xs) (hg : ∀ q, q < xs.length * k → cs[base + q]? = O.toArray[q]?) : RowRel σ g k cs base xs := by
  intro i j x y a b
  have := (RowRel.idx hw a b).2.2
  obtain ⟨v, v1, v2⟩ := h i j x y a b
  rw [Nat.zero_add] at v1
  exact ⟨v, by rw [Nat.add_assoc, hg _ this]; exact v1, v2⟩

theorem Sim.drew (h : Sim σ g s w) : Sim σ g s w.drew := h.drawn _

theorem vrel_cap {a : Value} {r k off len : Nat} (h : VRel σ g a (.row r k off len)) : ∃ b p cap, a = .slice (some ⟨b, p, none⟩) len cap ∧ len ≤ cap ∧ (cap = 0 ∨ ∃ base lim, g.blk r 0 = some (b, base, k, lim) ∧ p = base + off * k ∧ p + cap * k ≤ lim) := by
  cases h with
  | row hcap hpos => exact ⟨_, _, _, rfl, hcap, hpos⟩

/-- The new block of an append, as a row that is written to. -/
theorem grow_row {e k len n cap : Nat} {O L : List Value} {zc : Array Value} {xs ys : List V} {s1 : St} (h : Sim σ g s w) (hO : O.length = xs.length * k) (hL : L.length = ys.length * k)
    (hx : Width k xs) (hy : Width k ys) (px : Plain xs) (py : Plain ys) (h1 : RowRel σ g k O.toArray 0 xs) (h2 : RowRel σ g k L.toArray 0 ys) (hz : zc.size = k)
    (hlen : len = xs.length) (hn : n = ys.length) (hcap : len + n ≤ cap) (hs1 : s1.next = s.next) (hm1 : ∀ i e', s1.mem i = some e' → s.mem i = some e') :
    ∃ g', VRel σ g' (.slice (some ⟨w.heap.size, 0, none⟩) (len + n) cap) (.row s.next k 0 (len + n)) ∧ Keep g w g' (w.alloc (.cells (O.toArray ++ L.toArray ++ Builtin.zeroCells zc (cap - (len + n))) e)) ∧
      Sim σ g' (s1.new (.row (xs ++ ys))) (w.alloc (.cells (O.toArray ++ L.toArray ++ Builtin.zeroCells zc (cap - (len + n))) e)) := by
  have hsim1 : Sim σ g s1 w := by
    refine h.step (fun _ => False) (G.Le.refl g) h.fixc (by omega) (fun i _ e' he' => hm1 i e' he') (fun _ _ _ => rfl) (fun b i hb _ => ⟨hb, fun _ => rfl, rfl⟩) (fun _ _ x => x.elim) (fun _ _ _ _ _ _ x => x.elim) (fun _ _ _ _ _ x => x.elim) (Nat.le_refl _) h.own
  have hs : (O.toArray ++ L.toArray ++ Builtin.zeroCells zc (cap - (len + n))).size = cap * k := by
    simp only [Array.size_append, List.size_toArray, zeroCells_size hz, hO, hL, ← hlen, ← hn]
    rw [← Nat.add_mul, ← Nat.add_mul]; congr 1; omega
  obtain ⟨g', a1, a2, a3⟩ := hsim1.newRow (cs := O.toArray ++ L.toArray ++ Builtin.zeroCells zc (cap - (len + n))) (xs := xs ++ ys) (k := k) (cap := cap) e (nf_zero _) hs (by simp; omega) (hx.append hy) (px.append py)
    (RowRel.join hO hL hx hy h1 h2)
  rw [List.length_append, ← hlen, ← hn, hs1] at a1
  exact ⟨g', a1, a2, a3⟩

end Go.VS
