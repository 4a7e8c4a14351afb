/-
  Part 32 of 43 of the proof of SubcorpusSetsSaid, by an abstract machine that stands in for the Go program: lemmas without conditions of their own.
-/
import Derived.Test.YtclfgmlnechmkaaGreatP31
set_option linter.unusedSimpArgs false
set_option linter.unusedVariables false
namespace Go.VS

variable {P : Program} {σ : Nat → Nat} {g g' : G} {s s' : St} {w w' : World}

theorem toB_bytesOf (b : ByteArray) : toB (bytesOf b) = b := by
  cases b with
  | mk d =>
    unfold toB bytesOf
    congr 1
    apply Array.ext'
    simp only [List.map_map]
    conv => rhs; rw [← List.map_id d.toList]
    exact List.map_congr_left fun x _ => by simp

theorem bytesRow_get (b : ByteArray) (cap i : Nat) (x : Nat) (h : (bytesOf b)[i]? = some x) : (bytesRow b cap)[i]? = some (.int .u8 x) := by
  have hi : i < b.data.size := by
    have := (List.getElem?_eq_some_iff.1 h).1
    rw [bytesOf_length] at this
    exact this
  unfold bytesRow
  rw [Array.getElem?_append_left (by simpa using hi)]
  simp only [bytesOf, List.getElem?_map, Option.map_eq_some_iff] at h
  obtain ⟨u, h1, rfl⟩ := h
  rw [Array.getElem?_map]
  simp only [Array.getElem?_toList] at h1
  rw [h1]; rfl

theorem bytesRow_size (b : ByteArray) (cap : Nat) (h : b.size ≤ cap) : (bytesRow b cap).size = cap * 1 := by
  rw [bytesRow, Array.size_append, Array.size_map, Array.size_replicate]
  have : b.data.size = b.size := rfl
  omega

theorem s2b_ok {src dst e : Nat} {a : Value} {x v : V} {mt : Bool} (h : Sim σ g s w) (ha : VRel σ g a x) (hs : P.underlying src = some .string) (hd : P.underlying dst = some (.slice e)) (he : P.underlying e = some (.int .u8))
    (hv : convV (.s2b mt) x s = some (v, s')) : Good σ g w ((convert src dst a).run P w) v s' := by
  cases ha <;> simp only [convV, reduceCtorEq] at hv
  rename_i b l hl
  subst hl
  split at hv
  case isFalse => cases hv
  have hrun := run_bytes_of_string (P := P) w src dst e b hs hd he
  have hge := grown_ge w b.size 0 e
  have hsz := bytesRow_size b _ hge
  have hlen : ((bytesOf b).map bv).length = b.size := by rw [List.length_map, bytesOf_length]
  have hnf : nf ((bytesRow b (grownCap w b.size 0 e)).size, (bytesRow b (grownCap w b.size 0 e)).size + 1) (bytesRow b (grownCap w b.size 0 e)).size := fun p hp hq => by
    have := hq.1
    simp only at this
    omega
  have hW : Width 1 ((bytesOf b).map bv) := fun y hy => by
    obtain ⟨n, _, rfl⟩ := List.mem_map.1 hy
    rfl
  have hP : Plain ((bytesOf b).map bv) := fun y hy => by
    obtain ⟨n, _, rfl⟩ := List.mem_map.1 hy
    exact ⟨rfl, fun z hz => by simp [bv, V.cells] at hz; subst hz; rfl⟩
  have hR : RowRel σ g 1 (bytesRow b (grownCap w b.size 0 e)) 0 ((bytesOf b).map bv) := by
    intro i j y z h1 h2
    rw [List.getElem?_map, Option.map_eq_some_iff] at h1
    obtain ⟨n, h1, rfl⟩ := h1
    have hj : j = 0 := by
      have := (List.getElem?_eq_some_iff.1 h2).1
      simp [bv, V.cells] at this
      exact this
    subst hj
    simp only [bv, V.cells, List.getElem?_cons_zero, Option.some.injEq] at h2
    subst h2
    exact ⟨_, by rw [Nat.zero_add, Nat.mul_one, Nat.add_zero]; exact bytesRow_get b _ i n h1, .int _ _⟩
  split at hv
  · simp only [Option.some.injEq, Prod.mk.injEq] at hv
    obtain ⟨rfl, rfl⟩ := hv
    obtain ⟨g', a1, a2, a3⟩ := h.drew.newRow (xs := (bytesOf b).map bv) (k := 1) (cap := grownCap w b.size 0 e) e hnf hsz (by rw [hlen]; exact hge) hW hP hR
    rw [hlen] at a1
    rw [bytesOf_length]
    exact ⟨_, _, g', hrun, a1, (Keep.draws g w _ (Nat.le_succ _)).trans a2, a3⟩
  · simp only [Option.some.injEq, Prod.mk.injEq] at hv
    obtain ⟨rfl, rfl⟩ := hv
    obtain ⟨g', a1, a2, a3⟩ := h.drew.newSl (xs := (bytesOf b).map bv) (k := 1) (cap := grownCap w b.size 0 e) e hnf hsz (by rw [hlen]; exact hge) hW hP hR
    rw [hlen] at a1 a3
    rw [bytesOf_length]
    exact ⟨_, _, g', hrun, a1, (Keep.draws g w _ (Nat.le_succ _)).trans a2, a3⟩

theorem rng_ok {t : Nat} {a : Value} {l : List Nat} (h : Sim σ g s w) (ha : VRel σ g a (.str l)) (ht : P.underlying t = some .string) :
    Good σ g w ((Instr.range t a).run P w) (.iter s.next) (s.new (.siter l 0)) := by
  cases ha
  rename_i b hl
  obtain ⟨a2, a3⟩ := h.new (.stringIter b 0) (.siter l 0) 0 1 0 (fun _ => none) (by simp) (by simp) (by
    refine .siter fun b' base k lim hb => ?_
    rw [add_blk] at hb
    simp only [Option.some.injEq, Prod.mk.injEq] at hb
    obtain ⟨rfl, _⟩ := hb
    exact ⟨add_own _ _ _ _ _, b, hl, by rw [heap_alloc, if_pos rfl]⟩)
  exact ⟨_, _, _, run_range_string (P := P) w t b ht, .iter (add_blk _ _ _ _ _), a2, a3⟩

theorem nxt_ok {ty : Nat} {a : Value} {x v : V} (h : Sim σ g s w) (ha : VRel σ g a x) (hv : nxtV x s = some (v, s')) : Good σ g w ((Instr.next a true ty).run P w) v s' := by
  unfold nxtV at hv
  cases ha <;> simp only [reduceCtorEq] at hv
  rename_i b k lim m hb
  split at hv
  case h_2 => cases hv
  rename_i l pos hm
  have hE := h.ent _ _ hm
  cases hE with
  | siter hE =>
    obtain ⟨ho, str, rfl, hh⟩ := hE _ _ _ _ hb
    rw [bytesOf_length, toB_bytesOf] at hv
    have hlt : b < w.heap.size := h.back _ _ _ _ _ _ hb
    split at hv
    · rename_i hp
      simp only [Option.some.injEq, Prod.mk.injEq] at hv
      obtain ⟨rfl, rfl⟩ := hv
      let w' : World := { w with heap := w.heap.setIfInBounds b (.stringIter str (pos + (Utf8.decode str pos).2)) }
      have hoth : ∀ b', b' ≠ b → w'.heap[b']? = w.heap[b']? := fun b' hne => by
        show (w.heap.setIfInBounds b _)[b']? = _
        rw [Array.getElem?_setIfInBounds, if_neg (Ne.symm hne)]
      have hself : w'.heap[b]? = some (.stringIter str (pos + (Utf8.decode str pos).2)) := by
        show (w.heap.setIfInBounds b _)[b]? = _
        rw [Array.getElem?_setIfInBounds, if_pos rfl, if_pos hlt]
      have hfixb : ∀ p, g.fix b p = none := fun p => by
        cases hf : g.fix b p with
        | none => rfl
        | some u =>
          have := h.fixc _ _ _ hf
          simp [World.cell?, hh] at this
      have hrun : (Instr.next (.pointer (some ⟨b, 0, none⟩)) true ty).run P w = .ok (.tuple #[.bool true, .int .i64 pos, .int .i32 (Utf8.decode str pos).1]) w' := by
        simp only [Instr.next, getObj, setObj, Sem.run_bind, Sem.run, hh, Result.andThen, hp, if_true]
        simp [goInt, w']
      refine ⟨_, w', g, hrun, .tup rfl (fun i u y h1 h2 => ?_), ?_, ?_⟩
      · match i with
        | 0 => simp at h1 h2; subst h1 h2; exact .bool true
        | 1 => simp at h1 h2; subst h1 h2; exact .int _ _
        | 2 => simp at h1 h2; subst h1 h2; exact .int _ _
        | i + 3 => simp at h1
      · exact ⟨G.Le.refl g, fun b' _ hn => ⟨hn, hoth b' (fun eb => by subst eb; rw [ho] at hn; cases hn)⟩, by simp [w'], rfl, rfl, rfl, Nat.le_refl _⟩
      · refine h.step (· = m) (G.Le.refl g) ?_ (Nat.le_refl _) ?_ (fun _ _ _ => rfl) ?_ ?_ ?_ ?_ (by simp [w']) (by simpa [w'] using h.own)
        · intro b' p u hu
          have hne : b' ≠ b := fun eb => by subst eb; rw [hfixb] at hu; cases hu
          rw [World.cell?_of_block (w := w) (hoth b' hne)]
          exact h.fixc _ _ _ hu
        · intro id' hid e1 he1
          rw [St.mem_set, if_neg hid] at he1; exact he1
        · intro b' id' hb' hid
          have hne : b' ≠ b := fun eb => by subst eb; rw [ho] at hb'; cases hb'; exact hid rfl
          exact ⟨hb', fun _ => rfl, hoth b' hne⟩
        · rintro id' e1 rfl he1
          rw [St.mem_set, if_pos rfl] at he1; cases he1
          refine ⟨.siter fun b' base k' lim' hb' => ?_, h.lt _ _ hm⟩
          rw [hb] at hb'
          simp only [Option.some.injEq, Prod.mk.injEq] at hb'
          obtain ⟨rfl, _⟩ := hb'
          exact ⟨ho, str, rfl, hself⟩
        · rintro id' n b' base k' lim' rfl hb'
          exact ⟨h.lt _ _ hm, by simpa [w'] using h.back _ _ _ _ _ _ hb'⟩
        · rintro id' gn n k' m' rfl he1 _
          rw [St.mem_set, if_pos rfl] at he1; cases he1
    · rename_i hp
      simp only [Option.some.injEq, Prod.mk.injEq] at hv
      obtain ⟨rfl, rfl⟩ := hv
      have hrun : (Instr.next (.pointer (some ⟨b, 0, none⟩)) true ty).run P w = .ok (.tuple #[.bool false]) w := by
        simp [Instr.next, getObj, Sem.run, hh, hp]
      refine ⟨_, w, g, hrun, .tup rfl (fun i u y h1 h2 => ?_), Keep.refl _ _, h⟩
      match i with
      | 0 => simp at h1 h2; subst h1 h2; exact .bool false
      | i + 1 => simp at h1

end Go.VS
