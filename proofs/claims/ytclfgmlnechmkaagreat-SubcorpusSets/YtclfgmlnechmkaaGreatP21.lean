/-
  Part 21 of 43 of the proof of SubcorpusSetsSaid, by an abstract machine that stands in for the Go program: lemmas without conditions of their own.
-/
import Derived.Test.YtclfgmlnechmkaaGreatP20
set_option linter.unusedSimpArgs false
set_option linter.unusedVariables false
namespace Go.VS

variable {P : Program} {σ : Nat → Nat} {g g' : G} {s s' : St} {w w' : World}

theorem cell_of_heap {b p : Nat} {cs : Array Value} {t : TypeId} {fr : Nat × Nat} (h : w.heap[b]? = some (.cells cs t fr)) : w.cell? ⟨b, p, none⟩ = cs[p]? := by
  simp [World.cell?, h]

/-- A variable's cells as a value, read where the cells are known. -/
theorem load_run {b p k t : Nat} {ag : Bool} {d : TypeDesc} {i : TypeInfo} {v : V} {xs : List V} {off : Nat} (hd : P.underlying t = some d) (hag : aggDesc d = ag) (hi : P.info? t = some i) (hs : i.size = k)
    (hc : ∀ y ∈ xs, y.isCell = true) (hr : ∀ (j : Nat) y, xs[off + j]? = some y → ∃ u, w.cell? ⟨b, p + j, none⟩ = some u ∧ VRel σ g u y) (hv : getCells xs off k ag = some v) :
    ∃ val, (loadVar t ⟨b, p, none⟩).run P w = .ok val w ∧ VRel σ g val v := by
  unfold getCells at hv
  cases ag with
  | true =>
    simp only [if_true] at hv
    split at hv
    · rename_i hle
      simp only [Option.some.injEq] at hv; subst hv
      let f : Nat → Value := fun j => (w.cell? ⟨b, p + j, none⟩).getD .nilIface
      have hf : ∀ j, j < k → ∃ y, xs[off + j]? = some y ∧ w.cell? ⟨b, p + j, none⟩ = some (f j) ∧ VRel σ g (f j) y := by
        intro j hj
        have hy : xs[off + j]? = some xs[off + j] := List.getElem?_eq_getElem (by omega)
        obtain ⟨u, h1, h2⟩ := hr j _ hy
        exact ⟨_, hy, by simp [f, h1], by simp only [f, h1, Option.getD_some]; exact h2⟩
      refine ⟨.agg ((List.range k).map f).toArray, ?_, .agg (by simp; omega) (fun y hy => hc y (List.mem_of_mem_drop (List.mem_of_mem_take hy))) ?_⟩
      · simp only [loadVar, Sem.run_bind, run_isAgg hd, hag, Result.andThen_ok, if_true, sizeOf, typeInfo, run_program, hi, Sem.run_pure, hs]
        rw [run_loadCells w ⟨b, p, none⟩ k f (fun j hj => by rw [add_lit]; exact (hf j hj).choose_spec.2.1)]
        rfl
      · intro j u y h1 h2
        rw [List.getElem?_take] at h2
        split at h2
        · rename_i hj
          rw [List.getElem?_drop] at h2
          obtain ⟨y', e1, e2, e3⟩ := hf j hj
          rw [e1] at h2; cases h2
          simp [hj] at h1
          rw [← h1]; exact e3
        · cases h2
    · cases hv
  | false =>
    simp only [Bool.false_eq_true, if_false] at hv
    obtain ⟨u, h1, h2⟩ := hr 0 v (by simpa using hv)
    rw [Nat.add_zero] at h1
    exact ⟨u, by simp [loadVar, run_isAgg hd, hag, h1], h2⟩

theorem load_ok {a : Value} {x v : V} {k t : Nat} {ag : Bool} {d : TypeDesc} {i : TypeInfo} (h : Sim σ g s w) (ha : VRel σ g a x) (hv : loadV k ag x s = some v)
    (hd : P.underlying t = some d) (hag : aggDesc d = ag) (hi : P.info? t = some i) (hs : i.size = k) :
    ∃ val, (Instr.loadAt t a).run P w = .ok val w ∧ VRel σ g val v := by
  unfold loadV at hv
  cases ha <;> simp only [reduceCtorEq] at hv
  case ptr b kq lim o p hb =>
    split at hv
    · rename_i cs hm
      have he := h.ent _ _ hm
      cases he with
      | obj he =>
        obtain ⟨_, _, cv, ho, hl, hc, hr⟩ := he _ _ _ _ hb
        obtain ⟨t', fr, hh, hn⟩ := ho.heap
        have side : ∀ (j : Nat) y, cs[p + j]? = some y → ∃ u, w.cell? ⟨b, p + j, none⟩ = some u ∧ VRel σ g u y := by
          intro j y hy
          have hlt := (List.getElem?_eq_some_iff.1 hy).1
          have hg : cv[p + j]? = some cv[p + j] := Array.getElem?_eq_getElem (by omega)
          exact ⟨_, by rw [cell_of_heap hh]; exact hg, hr _ _ _ hg hy⟩
        obtain ⟨val, h1, h2⟩ := load_run (P := P) (w := w) (b := b) (p := p) (off := p) hd hag hi hs hc side hv
        exact ⟨val, by simp [Instr.loadAt, Instr.sureAddr, h1], h2⟩
    · cases hv
  case eptr b base kq lim r q p hb =>
    split at hv
    · rename_i xs hm
      have he := h.ent _ _ hm
      cases he with
      | row he =>
        obtain ⟨_, _, hw, hp, cv, ho, hr⟩ := he _ _ _ _ hb
        obtain ⟨t', fr, hh, hn⟩ := ho.heap
        split at hv
        · rename_i x hx
          split at hv
          · have side : ∀ (j : Nat) y, x.cells[p + j]? = some y → ∃ u, w.cell? ⟨b, base + q * kq + p + j, none⟩ = some u ∧ VRel σ g u y := by
              intro j y hy
              obtain ⟨u, u1, u2⟩ := hr q (p + j) x y hx hy
              exact ⟨u, by rw [cell_of_heap hh, Nat.add_assoc]; exact u1, u2⟩
            obtain ⟨val, h1, h2⟩ := load_run (P := P) (w := w) (b := b) (p := base + q * kq + p) (off := p) hd hag hi hs (hp x (List.mem_of_getElem? hx)).2 side hv
            exact ⟨val, by simp [Instr.loadAt, Instr.sureAddr, h1], h2⟩
          · cases hv
        · cases hv
    · cases hv
  case cptr b p c gn q off cells vals hc hfix hrel hpos =>
    have side : ∀ (j : Nat) y, cells[0 + j]? = some y → ∃ u, w.cell? ⟨b, p + j, none⟩ = some u ∧ VRel σ g u y := by
      intro j y hy
      rw [Nat.zero_add] at hy
      exact ⟨_, h.fixc _ _ _ (hfix j y hy), hrel j y hy⟩
    obtain ⟨val, h1, h2⟩ := load_run (P := P) (w := w) (b := b) (p := p) (off := 0) hd hag hi hs hc side hv
    exact ⟨val, by simp [Instr.loadAt, Instr.sureAddr, h1], h2⟩

/-! ### stores -/

def putL (cur : Array Value) (q : Nat) (vs : List Value) : Array Value := (cur.toList.take q ++ vs ++ cur.toList.drop (q + vs.length)).toArray

theorem putL_size {cur : Array Value} {q : Nat} {vs : List Value} (h : q + vs.length ≤ cur.size) : (putL cur q vs).size = cur.size := by
  simp [putL]; omega

theorem putL_get {cur : Array Value} {q : Nat} {vs : List Value} (h : q + vs.length ≤ cur.size) (i : Nat) :
    (putL cur q vs)[i]? = if q ≤ i ∧ i < q + vs.length then vs[i - q]? else cur[i]? := by
  simp only [putL, List.getElem?_toArray]
  have hq : (cur.toList.take q).length = q := by simp; omega
  by_cases h1 : i < q
  · rw [if_neg (by omega), List.append_assoc, List.getElem?_append_left (by omega), List.getElem?_take, if_pos h1]; simp
  · by_cases h2 : i < q + vs.length
    · rw [if_pos (by omega), List.append_assoc, List.getElem?_append_right (by omega), List.getElem?_append_left (by omega), hq]
    · rw [if_neg (by omega), List.getElem?_append_right (by simp; omega), List.getElem?_drop]
      simp only [List.length_append, hq, Array.getElem?_toList]
      congr 1; omega

theorem storeCells_run {b p : Nat} {t : TypeId} {fr : Nat × Nat} : ∀ (vs : List Value) (i : Nat) (cur : Array Value) (w : World), w.heap[b]? = some (.cells cur t fr) → nf fr cur.size →
    p + i + vs.length ≤ cur.size → (∀ v ∈ vs, v.oneCell' = true) → (storeCells ⟨b, p, none⟩ vs i).run P w = .ok () (w.setRow b (putL cur (p + i) vs))
  | [], i, cur, w, hg, _, _, _ => by
    simp only [storeCells, putL, List.append_nil, List.length_nil, Nat.add_zero, List.take_append_drop, Array.toArray_toList]
    rw [setRow_self w b cur t fr hg]
    rfl
  | v :: rest, i, cur, w, hg, hn, hl, h1 => by
    have hi : p + i < cur.size := by simp at hl; omega
    have hcell : w.cell? ⟨b, p + i, none⟩ = some cur[p + i] := by simp [World.cell?, hg, hi]
    have hfro : w.frozen? ⟨b, p + i, none⟩ = false := by
      simp only [World.frozen?, hg]
      have := hn (p + i) hi
      simpa using this
    have hset : w.setCell ⟨b, p + i, none⟩ v = w.setRow b (cur.setIfInBounds (p + i) v) := by
      exact setCell_eq_setRow w b (p + i) cur t fr v hg
    have hst : (store ⟨b, p + i, none⟩ v).run P w = .ok () (w.setRow b (cur.setIfInBounds (p + i) v)) := by
      rw [run_store P w _ v .plain (h1 v (by simp)), hcell]
      simp [hfro, hset]
    simp only [storeCells, add_lit, Sem.run_bind, hst, Result.andThen_ok]
    have ih := storeCells_run (p := p) rest (i + 1) (cur.setIfInBounds (p + i) v) (w.setRow b (cur.setIfInBounds (p + i) v)) (setRow_heap w b cur _ t fr hg) (by simpa using hn) (by simp at hl ⊢; omega) (fun u hu => h1 u (by simp [hu]))
    rw [ih]
    congr 1
    rw [setRow_setRow]
    congr 1
    apply Array.ext_getElem?
    intro j
    rw [putL_get (q := p + (i + 1)) (by simp at hl ⊢; omega), putL_get (q := p + i) (vs := v :: rest) (by simpa using hl)]
    simp only [List.length_cons, Array.getElem?_setIfInBounds]
    by_cases e : j = p + i
    · subst e
      rw [if_neg (by omega), if_pos (by omega)]
      simp [hi]
    · by_cases e2 : p + (i + 1) ≤ j ∧ j < p + (i + 1) + rest.length
      · rw [if_pos e2, if_pos (by omega), show j - (p + i) = (j - (p + (i + 1))) + 1 from by omega, List.getElem?_cons_succ]
      · rw [if_neg e2, if_neg (by omega), if_neg (by omega)]

theorem setCells_get {cs : List V} {off : Nat} {xs : List V} (h : off + xs.length ≤ cs.length) (i : Nat) :
    (setCells cs off xs)[i]? = if off ≤ i ∧ i < off + xs.length then xs[i - off]? else cs[i]? := by
  induction xs generalizing cs off with
  | nil => simp [setCells]; intros; omega
  | cons x xs ih =>
    simp only [List.length_cons] at h ⊢
    rw [setCells, ih (by simp; omega), List.getElem?_set]
    by_cases e : i = off
    · subst e
      rw [if_neg (by omega), if_pos rfl, if_pos (by omega), if_pos (by omega)]; simp
    · by_cases e2 : off + 1 ≤ i ∧ i < off + 1 + xs.length
      · rw [if_pos e2, if_pos (by omega), show i - off = (i - (off + 1)) + 1 from by omega, List.getElem?_cons_succ]
      · rw [if_neg e2, if_neg (Ne.symm e), if_neg (by omega)]

/-- An entity's own block is written. -/
theorem Sim.write (h : Sim σ g s w) {id b : Nat} {cs' : Array Value} {e' : Ent} (hown : g.own b = some id)
    (hfix : ∀ p, g.fix b p = none) (hlt : id < s.next) (hg : ∀ gn n k, e' ≠ .tip gn n k) (he : EntRel σ g (w.setRow b cs') id e') :
    Keep g w g (w.setRow b cs') ∧ Sim σ g (s.set id e') (w.setRow b cs') := by
  constructor
  · refine ⟨G.Le.refl g, fun b' _ hn => ⟨hn, ?_⟩, by simp, rfl, rfl, rfl, Nat.le_refl _⟩
    exact setRow_other w b b' cs' (fun eb => by subst eb; rw [hown] at hn; cases hn)
  · refine h.step (· = id) (G.Le.refl g) ?_ (Nat.le_refl _) ?_ (fun _ _ _ => rfl) ?_ ?_ ?_ ?_ (by simp) (by simpa using h.own)
    · intro b' p v hv
      have hne : b' ≠ b := fun eb => by subst eb; rw [hfix] at hv; cases hv
      rw [World.cell?_of_block (w := w) (setRow_other w b b' cs' hne)]
      exact h.fixc _ _ _ hv
    · intro id' hid e1 he1
      rw [St.mem_set, if_neg hid] at he1; exact he1
    · intro b' id' hb' hid
      have hne : b' ≠ b := fun eb => by subst eb; rw [hown] at hb'; cases hb'; exact hid rfl
      exact ⟨hb', fun _ => rfl, setRow_other w b b' cs' hne⟩
    · rintro id' e1 rfl he1
      rw [St.mem_set, if_pos rfl] at he1; cases he1
      exact ⟨he, hlt⟩
    · rintro id' n b' base k lim rfl hb'
      exact ⟨hlt, by simpa using h.back _ _ _ _ _ _ hb'⟩
    · rintro id' gn n k' m rfl he1 _
      rw [St.mem_set, if_pos rfl] at he1; cases he1
      exact absurd rfl (hg gn n k')

theorem store_run {b p k t : Nat} {i : TypeInfo} {cs : Array Value} {t' : TypeId} {fr : Nat × Nat} {v : Value} {y : V} (hv : VRel σ g v y) (hk : y.cells.length = k) (hnt : y.notTup = true)
    (hi : P.info? t = some i) (hs : i.size = k) (hh : w.heap[b]? = some (.cells cs t' fr)) (hn : nf fr cs.size) (hle : p + k ≤ cs.size) :
    (Instr.storeAt t (.pointer (some ⟨b, p, none⟩)) v).run P w = .ok () (w.setRow b (putL cs p v.cells.toList)) := by
  have hsz : v.cells.size = k := hv.cells.1.trans hk
  have hone : ∀ u ∈ v.cells.toList, u.oneCell' = true := by
    intro u hu
    obtain ⟨j, hj⟩ := List.getElem?_of_mem hu
    have hlt : j < y.cells.length := by
      have := (List.getElem?_eq_some_iff.1 hj).1
      rw [hv.cells.1.symm]; simpa using this
    have hy : y.cells[j]? = some y.cells[j] := List.getElem?_eq_getElem hlt
    exact (hv.cells.2 j u _ (by simpa using hj) hy).isCell (hv.cellsOne hnt _ (List.getElem_mem hlt))
  have := storeCells_run (P := P) (p := p) v.cells.toList 0 cs w hh hn (by simp [hsz]; omega) hone
  simp only [Instr.storeAt, Instr.sureAddr, Sem.run_bind, Sem.run_pure, Result.andThen_ok, storeVar, sizeOf, typeInfo, run_program, hi, hs, hsz]
  simp only [ne_eq, not_true_eq_false, if_false]
  exact this

theorem store_ok {a v : Value} {x y : V} {k t : Nat} {i : TypeInfo} (h : Sim σ g s w) (ha : VRel σ g a x) (hv : VRel σ g v y) (hs : storeV k x y s = some s')
    (hi : P.info? t = some i) (hk : i.size = k) : ∃ w', (Instr.storeAt t a v).run P w = .ok () w' ∧ Keep g w g w' ∧ Sim σ g s' w' := by
  unfold storeV at hs
  split at hs
  case isFalse => cases hs
  rename_i hc
  simp only [Bool.and_eq_true, Nat.beq_eq] at hc
  obtain ⟨hkl, hnt⟩ := hc
  cases ha <;> simp only [reduceCtorEq] at hs
  case ptr b kq lim o p hb =>
    split at hs
    case h_2 => cases hs
    rename_i cells hm
    split at hs
    case isFalse => cases hs
    rename_i hle
    cases hs
    have he := h.ent _ _ hm
    cases he with
    | obj he =>
      obtain ⟨_, hfx, cv, ho, hl, hcc, hr⟩ := he _ _ _ _ hb
      obtain ⟨t', fr, hh, hn⟩ := ho.heap
      have hsz : v.cells.toList.length = k := by simpa using hv.cells.1.trans hkl
      have hps : (putL cv p v.cells.toList).size = cv.size := putL_size (by rw [hsz]; omega)
      obtain ⟨K, S⟩ := h.write (cs' := putL cv p v.cells.toList) (e' := .obj (setCells cells p y.cells)) ho.own hfx (h.lt _ _ hm) (by simp) (by
        refine .obj fun b' base k' lim' hb' => ?_
        rw [hb] at hb'
        simp only [Option.some.injEq, Prod.mk.injEq] at hb'
        obtain ⟨rfl, rfl, rfl, rfl⟩ := hb'
        refine ⟨rfl, hfx, _, ⟨ho.own, ⟨t', fr, setRow_heap w b cv _ t' fr hh, by rw [hps]; exact hn⟩, hps.trans ho.size⟩, by rw [hps, setCells_length]; exact hl, setCells_isCell hcc (hv.cellsOne hnt), ?_⟩
        intro j u z h1 h2
        rw [putL_get (by rw [hsz]; omega)] at h1
        rw [setCells_get (by omega)] at h2
        rw [hsz] at h1; rw [hkl] at h2
        split at h1
        · rename_i e
          rw [if_pos e] at h2
          exact hv.cells.2 _ u z (by simpa using h1) h2
        · rename_i e
          rw [if_neg e] at h2
          exact hr j u z h1 h2)
      exact ⟨_, store_run hv hkl hnt hi hk hh hn (by omega), K, S⟩
  case eptr b base kq lim r q p hb =>
    split at hs
    case h_2 => cases hs
    rename_i xs hm
    split at hs
    case h_2 => cases hs
    rename_i z hz
    split at hs
    case isFalse => cases hs
    rename_i hle
    simp only [Bool.and_eq_true, decide_eq_true_eq, Nat.beq_eq] at hle
    obtain ⟨hzk, hle⟩ := hle
    cases hpe : putElem z p y with
    | none => rw [hpe] at hs; cases hs
    | some z' =>
      rw [hpe] at hs
      cases hs
      have he := h.ent _ _ hm
      cases he with
      | row he =>
        obtain ⟨hfx, hlim, hw, hp, cv, ho, hr⟩ := he _ _ _ _ hb
        obtain ⟨t', fr, hh, hn⟩ := ho.heap
        have hsz : v.cells.toList.length = k := by simpa using hv.cells.1.trans hkl
        have hq : q < xs.length := (List.getElem?_eq_some_iff.1 hz).1
        have hqk : (q + 1) * kq ≤ xs.length * kq := Nat.mul_le_mul_right _ hq
        rw [Nat.add_mul, Nat.one_mul] at hqk
        have hlim' := ho.size
        have hroom : base + q * kq + p + k ≤ cv.size := by omega
        have hps : (putL cv (base + q * kq + p) v.cells.toList).size = cv.size := putL_size (by rw [hsz]; exact hroom)
        have hzm := hp z (List.mem_of_getElem? hz)
        have hnew : z'.cells = setCells z.cells p y.cells ∧ z'.notTup = true ∧ (∀ u ∈ z'.cells, u.isCell = true) := by
          cases z with
          | agg cs => simp only [putElem, Option.some.injEq] at hpe; subst hpe; exact ⟨rfl, rfl, setCells_isCell hzm.2 (hv.cellsOne hnt)⟩
          | _ =>
            all_goals
              simp only [putElem] at hpe
              split at hpe
              · rename_i hc
                simp only [Bool.and_eq_true, Nat.beq_eq] at hc
                obtain ⟨rfl, hyc⟩ := hc
                cases hpe
                refine ⟨?_, hnt, hv.cellsOne hnt⟩
                cases y <;> first | rfl | (simp [V.isCell] at hyc)
              · cases hpe
        obtain ⟨e2, e3, e4⟩ := hnew
        have hz'k : z'.cells.length = kq := by rw [e2, setCells_length]; exact hzk
        obtain ⟨K, S⟩ := h.write (cs' := putL cv (base + q * kq + p) v.cells.toList) (e' := .row (xs.set q z')) ho.own hfx (h.lt _ _ hm) (by simp) (by
          refine .row fun b' base' k' lim' hb' => ?_
          rw [hb] at hb'
          simp only [Option.some.injEq, Prod.mk.injEq] at hb'
          obtain ⟨rfl, rfl, rfl, rfl⟩ := hb'
          refine ⟨hfx, by rw [List.length_set]; exact hlim, fun x hx => ?_, fun x hx => ?_, _, ⟨ho.own, ⟨t', fr, setRow_heap w b cv _ t' fr hh, by rw [hps]; exact hn⟩, hps.trans ho.size⟩, ?_⟩
          · rcases List.mem_or_eq_of_mem_set hx with h1 | h1
            · exact hw x h1
            · rw [h1]; exact hz'k
          · rcases List.mem_or_eq_of_mem_set hx with h1 | h1
            · exact hp x h1
            · rw [h1]; exact ⟨e3, e4⟩
          · intro i' j x u h1 h2
            rw [List.getElem?_set] at h1
            have hj : j < x.cells.length := (List.getElem?_eq_some_iff.1 h2).1
            by_cases ne : q = i'
            · subst ne
              rw [if_pos rfl, if_pos hq] at h1; cases h1
              rw [hz'k] at hj
              rw [e2, setCells_get (by omega), hkl] at h2
              rw [putL_get (by rw [hsz]; exact hroom), hsz]
              by_cases e : p ≤ j ∧ j < p + k
              · rw [if_pos e] at h2
                rw [if_pos (by omega), show base + q * kq + j - (base + q * kq + p) = j - p from by omega]
                have hlt : j - p < v.cells.toList.length := by omega
                refine ⟨v.cells.toList[j - p], List.getElem?_eq_getElem hlt, hv.cells.2 (j - p) _ u ?_ h2⟩
                rw [← Array.getElem?_toList]; exact List.getElem?_eq_getElem hlt
              · rw [if_neg e] at h2
                rw [if_neg (by omega)]
                exact hr q j z u hz h2
            · rw [if_neg ne] at h1
              have hxm := hw x (List.mem_of_getElem? h1)
              rw [hxm] at hj
              have hout : ¬ (base + q * kq + p ≤ base + i' * kq + j ∧ base + i' * kq + j < base + q * kq + p + v.cells.toList.length) := by
                rw [hsz]
                rcases Nat.lt_or_gt_of_ne ne with hlt | hlt
                · have : (q + 1) * kq ≤ i' * kq := Nat.mul_le_mul_right _ hlt
                  rw [Nat.add_mul] at this; omega
                · have : (i' + 1) * kq ≤ q * kq := Nat.mul_le_mul_right _ hlt
                  rw [Nat.add_mul] at this; omega
              rw [putL_get (by rw [hsz]; exact hroom), if_neg hout]
              exact hr i' j x u h1 h2)
        exact ⟨_, store_run hv hkl hnt hi hk hh hn hroom, K, S⟩

end Go.VS
