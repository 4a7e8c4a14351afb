/-
  Part 25 of 43 of the proof of SubcorpusSetsSaid, by an abstract machine that stands in for the Go program: lemmas without conditions of their own.
-/
import Derived.Test.YtclfgmlnechmkaaGreatP24
set_option linter.unusedSimpArgs false
set_option linter.unusedVariables false
namespace Go.VS

variable {P : Program} {σ : Nat → Nat} {g g' : G} {s s' : St} {w w' : World}

theorem ElemsOk.one {k : Nat} {y : Value} {ys : List V} (E : ElemsOk P σ g w k y ys) : ∀ v ∈ E.cells, v.oneCell' = true := by
  intro v hv
  obtain ⟨q, hq⟩ := List.getElem?_of_mem hv
  have hlt := (List.getElem?_eq_some_iff.1 hq).1
  rw [E.size] at hlt
  obtain ⟨h1, h2, h3⟩ := lt_divmod hlt
  have hx : ys[q / k]? = some ys[q / k] := List.getElem?_eq_getElem (by omega)
  have hxk := E.width _ (List.mem_of_getElem? hx)
  have hy : ys[q / k].cells[q % k]? = some (ys[q / k].cells[q % k]'(by omega)) := List.getElem?_eq_getElem (by omega)
  obtain ⟨u, u1, u2⟩ := E.rel _ _ _ _ hx hy
  rw [Nat.zero_add, h3, List.getElem?_toArray, hq] at u1
  cases u1
  exact u2.isCell ((E.plain _ (List.mem_of_getElem? hx)).2 _ (List.mem_of_getElem? hy))

theorem setRow_heap_other (w : World) (b : Nat) (cs : Array Value) : ∀ b', b' ≠ b → (w.setRow b cs).heap[b']? = w.heap[b']? := fun b' h => setRow_other w b b' cs h

/-- A chain's own block grows in place. -/
theorem chain_in {b base k lim p c gn len n cap off : Nat} {xs ys : List V} {L : List Value} {t : TypeId} {fr : Nat × Nat} {cs : Array Value} (h : Sim σ g s w) (hm : s.mem c = some (.tip gn len k))
    (hblk : g.blk c gn = some (b, base, k, lim)) (hoff : off = 0) (hp : p = base + off * k) (hcl : p + cap * k ≤ lim) (hown : Own g w c b lim cs) (hheap : w.heap[b]? = some (.cells cs t fr)) (hnf : nf fr cs.size)
    (hfree : ∀ q, q < base ∨ base + len * k ≤ q → g.fix b q = none) (hlen : len = xs.length) (hn : n = ys.length) (hroom : len + n ≤ cap) (hL : L.length = n * k)
    (hx : VRel σ g (.slice (some ⟨b, p, none⟩) len cap) (.sl c gn off xs)) (hwx : Width k xs) (hy : Width k ys) (py : Plain ys) (hr : RowRel σ g k L.toArray 0 ys) (hpos : 0 < cap) :
    ∃ g', VRel σ g' (.slice (some ⟨b, p, none⟩) (len + n) cap) (.sl c (gn + 1) 0 (xs ++ ys)) ∧ Keep g w g' (w.setRow b (putL cs (p + len * k) L)) ∧
      Sim σ g' (s.set c (.tip (gn + 1) (len + n) k)) (w.setRow b (putL cs (p + len * k) L)) := by
  subst hoff
  rw [Nat.zero_mul, Nat.add_zero] at hp
  subst hp
  have hmul : (len + n) * k ≤ cap * k := Nat.mul_le_mul_right _ hroom
  have hmul' : (len + n) * k = len * k + n * k := Nat.add_mul _ _ _
  have hsz : p + len * k + L.length ≤ cs.size := by rw [hL, hown.size]; omega
  have hlt : b < w.heap.size := (Array.getElem?_eq_some_iff.1 hheap).1
  let F : Nat → Option Value := fun q => if p + len * k ≤ q ∧ q < p + len * k + L.length then L[q - (p + len * k)]? else g.fix b q
  have hF : ∀ q v, g.fix b q = some v → F q = some v := by
    intro q v hv
    show (if _ then _ else _) = _
    rw [if_neg]; · exact hv
    rintro ⟨h1, _⟩
    rw [hfree q (.inr h1)] at hv; cases hv
  have hFx : ∀ q v, F q = some v → (w.setRow b (putL cs (p + len * k) L)).cell? ⟨b, q, none⟩ = some v := by
    intro q v hv
    rw [cell_of_heap (setRow_heap w b cs _ t fr hheap), putL_get hsz]
    change (if _ then _ else _) = _ at hv
    by_cases e : p + len * k ≤ q ∧ q < p + len * k + L.length
    · rw [if_pos e] at hv ⊢; exact hv
    · rw [if_neg e] at hv ⊢
      have := h.fixc _ _ _ hv
      rwa [cell_of_heap hheap] at this
  have hgn : g.blk c (gn + 1) = none := h.gens c gn len k (gn + 1) hm (by omega)
  have hps : (putL cs (p + len * k) L).size = cs.size := putL_size hsz
  obtain ⟨K, S⟩ := h.put (id := c) (gen := gn + 1) (b := b) (base := p) (k := k) (lim := lim) (F := F) (s' := s.set c (.tip (gn + 1) (len + n) k)) (w' := w.setRow b (putL cs (p + len * k) L)) (e := .tip (gn + 1) (len + n) k)
    hF hgn (by simp) (fun i hi e' he' => by
      rw [St.mem_set, if_neg hi] at he'
      exact ⟨he', fun x => by rw [hown.own] at x; cases x; exact hi rfl⟩) (Nat.le_refl _) (h.lt _ _ hm) (setRow_heap_other w b _) (by simp) (by simpa using hlt) hFx
    (by
      refine .tip fun b' base' k' lim' hb' => ?_
      rw [put_blk] at hb'
      simp only [Option.some.injEq, Prod.mk.injEq] at hb'
      obtain ⟨rfl, rfl, rfl, rfl⟩ := hb'
      refine ⟨rfl, by omega, fun q hq => ?_, putL cs (p + len * k) L, ⟨put_own _ _ _ _ _ _, ⟨t, fr, setRow_heap w b cs _ t fr hheap, by rw [hps]; exact hnf⟩, hps.trans hown.size⟩⟩
      rw [put_fix]
      show (if _ then _ else _) = _
      rw [if_neg (by rw [hL]; omega)]
      exact hfree q (by omega))
    (fun gn' n' _ e m hlt' => by
      cases e
      show (if c = c ∧ m = gn + 1 then _ else g.blk c m) = none
      rw [if_neg (by omega)]
      exact h.gens c gn len k m hm (by omega))
    (.inl (by rw [hown.own]; simp)) rfl rfl rfl
  refine ⟨_, ?_, K, S⟩
  cases hx with
  | sl kw vals hlen' hcap' hk' hc' hfix' hrel' hpos' =>
    rcases hpos' with e0 | ⟨base', lim', hb1, hb2, hb3⟩
    · omega
    rw [hblk] at hb1
    simp only [Option.some.injEq, Prod.mk.injEq] at hb1
    obtain ⟨_, rfl, rfl, rfl⟩ := hb1
    refine .sl k (fun i j => (F (p + i * k + j)).getD .nilIface) (by simp [hlen, hn]) hroom (hwx.append hy) (Plain.append hc' py) ?_ ?_ (.inr ⟨p, lim, put_blk _ _ _ _ _ _, by simp, hcl⟩)
    · intro i j x y a c'
      rw [put_fix]
      have hidx := RowRel.idx (hwx.append hy) a c'
      by_cases hi : i < xs.length
      · rw [List.getElem?_append_left hi] at a
        rw [hF _ _ (hfix' i j x y a c')]; rfl
      · rw [List.getElem?_append_right (by omega)] at a
        obtain ⟨v, v1, _⟩ := hr (i - xs.length) j x y a c'
        rw [Nat.zero_add, List.getElem?_toArray] at v1
        have hlt' := (List.getElem?_eq_some_iff.1 v1).1
        have hm2 : (i - xs.length) * k + xs.length * k = i * k := by rw [← Nat.add_mul]; congr 1; omega
        have : F (p + i * k + j) = some v := by
          show (if _ then _ else _) = _
          rw [if_pos (by rw [hlen]; omega), ← v1]
          congr 1; rw [hlen]; omega
        rw [this]; rfl
    · intro i j x y a c'
      by_cases hi : i < xs.length
      · rw [List.getElem?_append_left hi] at a
        rw [hF _ _ (hfix' i j x y a c')]
        exact (hrel' i j x y a c').mono K.le
      · rw [List.getElem?_append_right (by omega)] at a
        obtain ⟨v, v1, v2⟩ := hr (i - xs.length) j x y a c'
        rw [Nat.zero_add, List.getElem?_toArray] at v1
        have hlt' := (List.getElem?_eq_some_iff.1 v1).1
        have hm2 : (i - xs.length) * k + xs.length * k = i * k := by rw [← Nat.add_mul]; congr 1; omega
        have : F (p + i * k + j) = some v := by
          show (if _ then _ else _) = _
          rw [if_pos (by rw [hlen]; omega), ← v1]
          congr 1; rw [hlen]; omega
        rw [this]
        exact v2.mono K.le

/-- A chain moves to a new block. -/
theorem chain_new {k c gn len n cap : Nat} {xs ys : List V} {O L : List Value} {zc : Array Value} (e : TypeId) (h : Sim σ g s w) (hm : s.mem c = some (.tip gn len k))
    (hO : O.length = xs.length * k) (hL : L.length = ys.length * k) (hx : Width k xs) (hy : Width k ys) (px : Plain xs) (py : Plain ys) (h1 : RowRel σ g k O.toArray 0 xs) (h2 : RowRel σ g k L.toArray 0 ys) (hz : zc.size = k)
    (hlen : len = xs.length) (hn : n = ys.length) (hcap : len + n ≤ cap) :
    ∃ g', VRel σ g' (.slice (some ⟨w.heap.size, 0, none⟩) (len + n) cap) (.sl c (gn + 1) 0 (xs ++ ys)) ∧ Keep g w g' (w.alloc (.cells (O.toArray ++ L.toArray ++ Builtin.zeroCells zc (cap - (len + n))) e)) ∧
      Sim σ g' (s.set c (.tip (gn + 1) (len + n) k)) (w.alloc (.cells (O.toArray ++ L.toArray ++ Builtin.zeroCells zc (cap - (len + n))) e)) := by
  generalize hcs : (O.toArray ++ L.toArray ++ Builtin.zeroCells zc (cap - (len + n))) = cs
  have hrow : RowRel σ g k cs 0 (xs ++ ys) := by rw [← hcs]; exact RowRel.join hO hL hx hy h1 h2
  have hs : cs.size = cap * k := by
    rw [← hcs]
    simp only [Array.size_append, List.size_toArray, zeroCells_size hz, hO, hL, ← hlen, ← hn]
    rw [← Nat.add_mul, ← Nat.add_mul]; congr 1; omega
  have hw := hx.append hy
  have hp := px.append py
  have hlen' : (xs ++ ys).length = len + n := by rw [List.length_append, hlen, hn]
  have hmul : (len + n) * k ≤ cap * k := Nat.mul_le_mul_right _ hcap
  let F : Nat → Option Value := fun q => if q < (len + n) * k then cs[q]? else none
  have hgn : g.blk c (gn + 1) = none := h.gens c gn len k (gn + 1) hm (by omega)
  have hcell : ∀ q, (w.alloc (.cells cs e)).cell? ⟨w.heap.size, q, none⟩ = cs[q]? := fun q => cell_of_heap (t := e) (fr := (0, 0)) (by rw [heap_alloc, if_pos rfl])
  obtain ⟨K, S⟩ := h.put (id := c) (gen := gn + 1) (b := w.heap.size) (base := 0) (k := k) (lim := cs.size) (F := F) (s' := s.set c (.tip (gn + 1) (len + n) k)) (w' := w.alloc (.cells cs e)) (e := .tip (gn + 1) (len + n) k)
    (fun q v hv => by rw [h.freshFix (Nat.le_refl _)] at hv; cases hv) hgn (by simp) (fun i hi e' he' => by
      rw [St.mem_set, if_neg hi] at he'
      exact ⟨he', fun x => by rw [h.own _ (Nat.le_refl _)] at x; cases x⟩) (Nat.le_refl _) (h.lt _ _ hm) (fun b' hb' => by rw [heap_alloc, if_neg hb']) (by simp) (by simp)
    (fun q v hv => by
      rw [hcell]
      change (if _ then _ else _) = _ at hv
      split at hv
      · exact hv
      · cases hv)
    (by
      refine .tip fun b' base' k' lim' hb' => ?_
      rw [put_blk] at hb'
      simp only [Option.some.injEq, Prod.mk.injEq] at hb'
      obtain ⟨rfl, rfl, rfl, rfl⟩ := hb'
      refine ⟨rfl, by omega, fun q hq => ?_, cs, ⟨put_own _ _ _ _ _ _, ⟨e, (0, 0), by rw [heap_alloc, if_pos rfl], nf_zero _⟩, rfl⟩⟩
      rw [put_fix]
      show (if _ then _ else _) = _
      rw [if_neg (by omega)])
    (fun gn' n' _ e' m hlt' => by
      cases e'
      show (if c = c ∧ m = gn + 1 then _ else g.blk c m) = none
      rw [if_neg (by omega)]
      exact h.gens c gn len k m hm (by omega))
    (.inr (Nat.le_refl _)) rfl rfl rfl
  refine ⟨_, ?_, K, S⟩
  refine .sl k (fun i j => cs.getD (i * k + j) .nilIface) hlen'.symm hcap hw hp (fun i j x y a b => ?_) (fun i j x y a b => ?_) (.inr ⟨0, cs.size, put_blk _ _ _ _ _ _, by simp, by omega⟩)
  · obtain ⟨v, v1, _⟩ := hrow i j x y a b
    have := (RowRel.idx hw a b).2.2
    rw [hlen'] at this
    rw [Nat.zero_add] at v1
    rw [put_fix]
    show (if _ then _ else _) = _
    rw [Nat.zero_add, if_pos this, v1]
    simp [Array.getD_eq_getD_getElem?, v1]
  · obtain ⟨v, v1, v2⟩ := hrow i j x y a b
    rw [Nat.zero_add] at v1
    simp only [Array.getD_eq_getD_getElem?, v1, Option.getD_some]
    exact v2.mono K.le

/-- A block that an entity gives up becomes a row's, written at its end. -/
theorem row_in {b base k lim q r old len n cap : Nat} {xs ys : List V} {L : List Value} {t : TypeId} {fr : Nat × Nat} {cs : Array Value} {s1 : St} (h : Sim σ g s w) (hown : Own g w old b lim cs)
    (hheap : w.heap[b]? = some (.cells cs t fr)) (hnf : nf fr cs.size) (hfix : ∀ p, g.fix b p = none) (hq : q = base + len * k) (hcl : base + cap * k ≤ lim) (hlen : len = xs.length) (hn : n = ys.length) (hroom : len + n ≤ cap)
    (hL : L.length = n * k) (hwx : Width k xs) (px : Plain xs) (hx : RowRel σ g k cs base xs) (hy : Width k ys) (py : Plain ys) (hr : RowRel σ g k L.toArray 0 ys)
    (hs1 : s1.next = s.next) (hm1 : ∀ i e', s1.mem i = some e' → s.mem i = some e' ∧ i ≠ old) (hrr : r = s.next) :
    ∃ g', VRel σ g' (.slice (some ⟨b, base, none⟩) (len + n) cap) (.row r k 0 (len + n)) ∧ Keep g w g' (w.setRow b (putL cs q L)) ∧
      Sim σ g' (s1.new (.row (xs ++ ys))) (w.setRow b (putL cs q L)) := by
  subst hrr
  have hmul : (len + n) * k ≤ cap * k := Nat.mul_le_mul_right _ hroom
  have hmul' : (len + n) * k = len * k + n * k := Nat.add_mul _ _ _
  have hsz : q + L.length ≤ cs.size := by rw [hL, hown.size]; omega
  have hlt : b < w.heap.size := (Array.getElem?_eq_some_iff.1 hheap).1
  have hps : (putL cs q L).size = cs.size := putL_size hsz
  have hlen' : (xs ++ ys).length = len + n := by rw [List.length_append, hlen, hn]
  have hb0 := h.fresh 0
  have hrow : RowRel σ g k (putL cs q L) base (xs ++ ys) := by
    intro i j x y a c
    have hidx := RowRel.idx (hwx.append hy) a c
    by_cases hi : i < xs.length
    · rw [List.getElem?_append_left hi] at a
      obtain ⟨v, v1, v2⟩ := hx i j x y a c
      have := (RowRel.idx hwx a c).2.2
      exact ⟨v, by rw [putL_get hsz, if_neg (by rw [hq, hlen]; omega)]; exact v1, v2⟩
    · rw [List.getElem?_append_right (by omega)] at a
      obtain ⟨v, v1, v2⟩ := hr (i - xs.length) j x y a c
      rw [Nat.zero_add, List.getElem?_toArray] at v1
      have hlt' := (List.getElem?_eq_some_iff.1 v1).1
      have hm2 : (i - xs.length) * k + xs.length * k = i * k := by rw [← Nat.add_mul]; congr 1; omega
      refine ⟨v, ?_, v2⟩
      rw [putL_get hsz, if_pos (by rw [hq, hlen]; omega), ← v1]
      congr 1; rw [hq, hlen]; omega
  have hle : G.Le g (g.put s.next 0 b (b, base, k, lim) (fun _ => none)) := put_le (fun p v hv => by rw [hfix] at hv; cases hv) hb0
  obtain ⟨K, S⟩ := h.put (id := s.next) (gen := 0) (b := b) (base := base) (k := k) (lim := lim) (F := fun _ => none) (s' := s1.new (.row (xs ++ ys))) (w' := w.setRow b (putL cs q L)) (e := .row (xs ++ ys))
    (fun p v hv => by rw [hfix] at hv; cases hv) hb0 (by rw [St.mem_new, hs1, if_pos rfl]) (fun i hi e' he' => by
      rw [St.mem_new, hs1, if_neg hi] at he'
      obtain ⟨a1, a2⟩ := hm1 i e' he'
      exact ⟨a1, fun x => by rw [hown.own] at x; cases x; exact a2 rfl⟩) (by simp [hs1]) (by simp [hs1]) (setRow_heap_other w b _) (by simp) (by simpa using hlt) (by simp)
    (by
      refine .row fun b' base' k' lim' hb' => ?_
      rw [put_blk] at hb'
      simp only [Option.some.injEq, Prod.mk.injEq] at hb'
      obtain ⟨rfl, rfl, rfl, rfl⟩ := hb'
      exact ⟨fun p => put_fix _ _ _ _ _ _ _, by rw [hlen']; omega, hwx.append hy, px.append py, _, ⟨put_own _ _ _ _ _ _, ⟨t, fr, setRow_heap w b cs _ t fr hheap, by rw [hps]; exact hnf⟩, hps.trans hown.size⟩, hrow.mono hle⟩)
    (by simp) (.inl (by rw [hown.own]; simp)) rfl rfl rfl
  exact ⟨_, .row hroom (.inr ⟨base, lim, put_blk _ _ _ _ _ _, by simp, hcl⟩), K, S⟩

end Go.VS
