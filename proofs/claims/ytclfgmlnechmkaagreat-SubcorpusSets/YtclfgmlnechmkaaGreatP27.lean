/-
  Part 27 of 43 of the proof of SubcorpusSetsSaid, by an abstract machine that stands in for the Go program: lemmas without conditions of their own.
-/
import Derived.Test.YtclfgmlnechmkaaGreatP26
set_option linter.unusedSimpArgs false
set_option linter.unusedVariables false
namespace Go.VS

variable {P : Program} {σ : Nat → Nat} {g g' : G} {s s' : St} {w w' : World}

/-- Elements off .. of a row written over. -/
theorem row_over {b p cap r k off len : Nat} {all new : List V} {L : List Value} (h : Sim σ g s w) (hmem : s.mem r = some (.row all)) (hcap : len ≤ cap)
    (hpos : cap = 0 ∨ ∃ base lim, g.blk r 0 = some (b, base, k, lim) ∧ p = base + off * k ∧ p + cap * k ≤ lim) (hle : off + len ≤ all.length) (hn : new.length ≤ len)
    (hL : L.length = new.length * k) (hw : Width k new) (hp : Plain new) (hr : RowRel σ g k L.toArray 0 new) (hone : ∀ v ∈ L, v.oneCell' = true) :
    ∃ w', (storeCells ⟨b, p, none⟩ L).run P w = .ok () w' ∧ Keep g w g w' ∧ Sim σ g (s.set r (.row (all.take off ++ new ++ all.drop (off + new.length)))) w' := by
  by_cases h0 : cap = 0
  · have hl0 : new.length = 0 := by omega
    have hnil := List.length_eq_zero_iff.1 hl0
    subst hnil
    have hLnil : L = [] := by
      rw [List.length_nil, Nat.zero_mul] at hL; exact List.length_eq_zero_iff.1 hL
    subst hLnil
    refine ⟨w, by simp [storeCells], Keep.refl _ _, ?_⟩
    simp only [List.append_nil, List.length_nil, Nat.add_zero, List.take_append_drop]
    refine h.step (· = r) (G.Le.refl g) h.fixc (Nat.le_refl _) (fun i hi e he => by rw [St.mem_set, if_neg hi] at he; exact he) (fun _ _ _ => rfl) (fun b i hb _ => ⟨hb, fun _ => rfl, rfl⟩)
      (fun i e hi he => by subst hi; rw [St.mem_set, if_pos rfl] at he; cases he; exact ⟨h.ent _ _ hmem, h.lt _ _ hmem⟩) (fun i n b base k lim hi hb => ⟨h.blt _ _ _ hb, h.back _ _ _ _ _ _ hb⟩)
      (fun i gn n k m hi he _ => by subst hi; rw [St.mem_set, if_pos rfl] at he; cases he) (Nat.le_refl _) h.own
  · rcases hpos with e0 | ⟨base, lim, hb, hpp, hcl⟩
    · exact absurd e0 h0
    have hent := h.ent _ _ hmem
    cases hent with
    | row hent =>
      obtain ⟨hfx, hlim, hwall, hpall, cs, ho, hrow⟩ := hent _ _ _ _ hb
      obtain ⟨t', fr, hh, hnf⟩ := ho.heap
      have hmul : new.length * k ≤ cap * k := Nat.mul_le_mul_right _ (by omega)
      have hsz : p + L.length ≤ cs.size := by rw [hL, ho.size]; omega
      have hst := storeCells_run (P := P) (b := b) (p := p) L 0 cs w hh hnf (by simpa using hsz) hone
      rw [Nat.add_zero] at hst
      have hps : (putL cs p L).size = cs.size := putL_size hsz
      have hlen : (all.take off ++ new ++ all.drop (off + new.length)).length = all.length := by simp; omega
      have htk : (all.take off).length = off := by simp; omega
      have hmemq : ∀ x, x ∈ all.take off ++ new ++ all.drop (off + new.length) → x ∈ all ∨ x ∈ new := by
        intro x hx
        simp only [List.mem_append] at hx
        rcases hx with (hx | hx) | hx
        · exact .inl (List.mem_of_mem_take hx)
        · exact .inr hx
        · exact .inl (List.mem_of_mem_drop hx)
      refine ⟨_, hst, h.write ho.own hfx (h.lt _ _ hmem) (by simp) (.row fun b' base' k' lim' hb' => ?_)⟩
      rw [hb] at hb'
      simp only [Option.some.injEq, Prod.mk.injEq] at hb'
      obtain ⟨rfl, rfl, rfl, rfl⟩ := hb'
      refine ⟨hfx, by rw [hlen]; exact hlim, fun x hx => (hmemq x hx).elim (hwall x) (hw x), fun x hx => (hmemq x hx).elim (hpall x) (hp x), _, ⟨ho.own, ⟨t', fr, setRow_heap w b cs _ t' fr hh, by rw [hps]; exact hnf⟩, hps.trans ho.size⟩, ?_⟩
      intro i j x y a c
      have hxk : x.cells.length = k := (hmemq x (List.mem_of_getElem? a)).elim (hwall x) (hw x)
      have hj : j < k := by rw [← hxk]; exact (List.getElem?_eq_some_iff.1 c).1
      rw [putL_get hsz, hL]
      by_cases hi1 : i < off
      · rw [List.append_assoc, List.getElem?_append_left (by omega), List.getElem?_take, if_pos hi1] at a
        have : (i + 1) * k ≤ off * k := Nat.mul_le_mul_right _ hi1
        rw [Nat.add_mul] at this
        rw [if_neg (by omega)]
        exact hrow i j x y a c
      · by_cases hi2 : i < off + new.length
        · rw [List.append_assoc, List.getElem?_append_right (by omega), List.getElem?_append_left (by omega), htk] at a
          obtain ⟨v, v1, v2⟩ := hr (i - off) j x y a c
          rw [Nat.zero_add, List.getElem?_toArray] at v1
          have hlt' := (List.getElem?_eq_some_iff.1 v1).1
          rw [hL] at hlt'
          have hm2 : (i - off) * k + off * k = i * k := by rw [← Nat.add_mul]; congr 1; omega
          refine ⟨v, ?_, v2⟩
          rw [if_pos (by omega), ← v1]
          congr 1; omega
        · rw [List.getElem?_append_right (by simp; omega), List.getElem?_drop] at a
          have e1 : off + new.length + (i - (all.take off ++ new).length) = i := by simp; omega
          rw [e1] at a
          have : (off + new.length) * k ≤ i * k := Nat.mul_le_mul_right _ (by omega)
          rw [Nat.add_mul] at this
          rw [if_neg (by omega)]
          exact hrow i j x y a c

theorem copy_ok {t u ty e k : Nat} {i : TypeInfo} {a y : Value} {x yv v : V} (h : Sim σ g s w) (ht : P.underlying t = some (.slice e)) (hi : P.info? e = some i) (hk : i.size = k)
    (ha : VRel σ g a x) (hy : VRel σ g y yv) (hv : copyV k x yv s = some (v, s')) : Good σ g w ((Builtin.copy_ #[t, u] ty #[a, y]).run P w) v s' := by
  unfold copyV at hv
  cases hel : elems yv s with
  | none => rw [hel] at hv; cases x <;> cases hv
  | some ys =>
    rw [hel] at hv
    cases ha <;> simp only [reduceCtorEq] at hv
    case nilsl =>
      simp only [Option.some.injEq, Prod.mk.injEq] at hv
      obtain ⟨rfl, rfl⟩ := hv
      refine ⟨.int .i64 0, w, g, ?_, .int _ _, Keep.refl _ _, h⟩
      unfold elems at hel
      cases hy <;> simp only [reduceCtorEq] at hel <;>
        simp [Builtin.copy_, run_underlying ht, Builtin.lenOf, sizeOf, typeInfo, hi, Builtin.firstCells, loadCells, loadCellsFrom, goInt]
    case row b p len cap r kw off hcap hpos =>
      split at hv
      case h_2 => cases hv
      rename_i all hmem
      split at hv
      case isFalse => cases hv
      rename_i hc
      simp only [Bool.and_eq_true, decide_eq_true_eq, Nat.beq_eq] at hc
      obtain ⟨⟨⟨rfl, hle⟩, hwk⟩, hry⟩ := hc
      simp only [Option.some.injEq, Prod.mk.injEq] at hv
      obtain ⟨rfl, rfl⟩ := hv
      obtain ⟨E⟩ := elems_ok (P := P) h hy hel hwk hry
      generalize hm : min ys.length len = m
      have hmy : m ≤ ys.length := by omega
      have hml : m ≤ len := by omega
      have hlen : (ys.take len).length = m := by rw [List.length_take]; omega
      have htake : ys.take len = ys.take m := by
        by_cases hc : len ≤ ys.length
        · have : m = len := by omega
          rw [this]
        · have : m = ys.length := by omega
          rw [this, List.take_of_length_le (by omega), List.take_of_length_le (Nat.le_refl _)]
      have hmk : m * kw ≤ ys.length * kw := Nat.mul_le_mul_right _ hmy
      obtain ⟨w', hst, K, S⟩ := row_over (P := P) (new := ys.take len) (L := E.cells.take (m * kw)) h hmem hcap hpos hle (by rw [hlen]; exact hml) (by rw [hlen, List.length_take, E.size]; omega)
        (fun x hx => E.width x (List.mem_of_mem_take hx)) (fun x hx => E.plain x (List.mem_of_mem_take hx))
        (fun i j x y a c => by
          rw [htake] at a
          have hi' : i < m := by have := (List.getElem?_eq_some_iff.1 a).1; simp at this; omega
          rw [List.getElem?_take, if_pos hi'] at a
          obtain ⟨v, v1, v2⟩ := E.rel i j x y a c
          rw [Nat.zero_add, List.getElem?_toArray] at v1
          have hj := (RowRel.idx E.width a c).2.1
          have : (i + 1) * kw ≤ m * kw := Nat.mul_le_mul_right _ hi'
          rw [Nat.add_mul] at this
          exact ⟨v, by rw [Nat.zero_add, List.getElem?_toArray, List.getElem?_take, if_pos (by omega)]; exact v1, v2⟩)
        (fun v hv => E.one v (List.mem_of_mem_take hv))
      rw [hlen] at S
      refine ⟨.int .i64 (m : Nat), w', g, ?_, .int _ _, K, S⟩
      have hf := E.firstN m hmy
      have hmn : Nat.min ys.length len = m := hm
      simp [Builtin.copy_, run_underlying ht, E.len, hmn, sizeOf, typeInfo, hi, hk, hf, hst, goInt]

theorem zeroCells_row {zc : Array Value} {z : V} {k n : Nat} (hz : ZeroV zc z k) : RowRel σ g k (Builtin.zeroCells zc n).toList.toArray 0 (List.replicate n z) := by
  have hsz : zc.size = k := hz.rel.1.trans hz.width
  rw [Array.toArray_toList]
  have := zeroPattern (σ := σ) (g := g) (n := n * k) (m := n) hz (Nat.le_refl _)
  unfold Builtin.zeroCells
  rw [hsz] at this ⊢
  exact this

theorem clear_ok {t ty e k : Nat} {i : TypeInfo} {zv a : Value} {z x v : V} (h : Sim σ g s w) (ht : P.underlying t = some (.slice e)) (hi : P.info? e = some i) (hz : i.zero = some zv) (hzv : ZeroV zv.cells z k)
    (ha : VRel σ g a x) (hv : clearV k z x s = some (v, s')) : Good σ g w ((Builtin.clear_ #[t] ty #[a]).run P w) v s' := by
  unfold clearV at hv
  cases ha <;> simp only [reduceCtorEq] at hv
  case nilsl =>
    simp only [Option.some.injEq, Prod.mk.injEq] at hv
    obtain ⟨rfl, rfl⟩ := hv
    exact ⟨.tuple #[], w, g, by simp [Builtin.clear_, run_underlying ht], VRel.undef _ _, Keep.refl _ _, h⟩
  case row b p len cap r kw off hcap hpos =>
    split at hv
    case h_2 => cases hv
    rename_i all hmem
    split at hv
    case isFalse => cases hv
    rename_i hc
    simp only [Bool.and_eq_true, decide_eq_true_eq, Nat.beq_eq] at hc
    obtain ⟨rfl, hle⟩ := hc
    simp only [Option.some.injEq, Prod.mk.injEq] at hv
    obtain ⟨rfl, rfl⟩ := hv
    have hsz : zv.cells.size = kw := hzv.rel.1.trans hzv.width
    obtain ⟨w', hst, K, S⟩ := row_over (P := P) (new := List.replicate len z) (L := (Builtin.zeroCells zv.cells len).toList) h hmem hcap hpos hle (by simp) (by simp [zeroCells_size hsz])
      (Width.replicate hzv.width) (Plain.replicate ⟨hzv.plain, hzv.rel.2.1⟩) (zeroCells_row hzv) (by
        intro v hv
        have hv' : v ∈ Builtin.zeroCells zv.cells len := by simpa using hv
        obtain ⟨q, hq⟩ := Array.getElem?_of_mem hv'
        have hlt : q < len * kw := by have := (Array.getElem?_eq_some_iff.1 hq).1; rwa [zeroCells_size hsz] at this
        obtain ⟨h1, h2, h3⟩ := lt_divmod hlt
        have hx : (List.replicate len z)[q / kw]? = some z := by rw [List.getElem?_replicate, if_pos h1]
        have hy : z.cells[q % kw]? = some (z.cells[q % kw]'(by rw [hzv.width]; exact h2)) := List.getElem?_eq_getElem _
        obtain ⟨u, u1, u2⟩ := zeroCells_row (σ := σ) (g := g) (n := len) hzv _ _ _ _ hx hy
        rw [Nat.zero_add, h3, Array.toArray_toList, hq] at u1
        cases u1
        exact u2.isCell (hzv.rel.2.1 _ (List.mem_of_getElem? hy)))
    rw [List.length_replicate] at S
    refine ⟨.tuple #[], w', g, ?_, VRel.undef _ _, K, S⟩
    by_cases hl0 : len = 0
    · subst hl0
      have : (Builtin.zeroCells zv.cells 0).toList = [] := by simp [Builtin.zeroCells, Array.range_zero']
      rw [this] at hst
      simp only [storeCells, Sem.run_pure, Result.ok.injEq, true_and] at hst
      subst hst
      simp [Builtin.clear_, run_underlying ht]
    · have : ∃ n, len = n + 1 := ⟨len - 1, by omega⟩
      obtain ⟨n, rfl⟩ := this
      simp [Builtin.clear_, run_underlying ht, zeroValue, typeInfo, hi, hz, hst]

/-! ### what is frozen, what has no place -/

/-- A new entity that lies nowhere; others may go. -/
theorem Sim.newU (h : Sim σ g s w) {e : Ent} {s1 : St} (hs1 : s1.next = s.next) (hm1 : ∀ i e', s1.mem i = some e' → s.mem i = some e') (he : ∀ m l, e ≠ .miter m l) : Sim σ g (s1.new e) w := by
  refine h.step (· = s.next) (G.Le.refl g) h.fixc (by simp [hs1]) (fun i hi e' he' => ?_) (fun _ _ _ => rfl) (fun b i hb _ => ⟨hb, fun _ => rfl, rfl⟩) (fun i e' hi he' => ?_)
    (fun i n b base k lim hi hb => ?_) (fun i gn n k m hi he' _ => ?_) (Nat.le_refl _) h.own
  · rw [St.mem_new, hs1, if_neg hi] at he'; exact hm1 i e' he'
  · subst hi
    rw [St.mem_new, hs1, if_pos rfl] at he'; cases he'
    exact ⟨EntRel.unmapped e (fun n => h.fresh n) he, by simp [hs1]⟩
  · subst hi; rw [h.fresh] at hb; cases hb
  · subst hi; exact h.fresh m

theorem VRel.emptySl (σ : Nat → Nat) (g : G) (b p c gn off : Nat) : VRel σ g (.slice (some ⟨b, p, none⟩) 0 0) (.sl c gn off []) :=
  .sl 0 (fun _ _ => .nilIface) rfl (Nat.le_refl _) (by simp) (by simp) (by simp) (by simp) (.inl rfl)

theorem freeze_ok {a : Value} {x v : V} (h : Sim σ g s w) (ha : VRel σ g a x) (hv : freezeV x s = some (v, s')) : ∃ g', VRel σ g' a v ∧ Keep g w g' w ∧ Sim σ g' s' w := by
  unfold freezeV at hv
  cases ha
  case row b p len cap r k off hcap hpos =>
    simp only [] at hv
    cases hex : elems (.row r k off len) s with
    | none => rw [hex] at hv; cases hv
    | some xs =>
      rw [hex] at hv
      simp only [Option.some.injEq, Prod.mk.injEq] at hv
      obtain ⟨rfl, rfl⟩ := hv
      simp only [elems] at hex
      split at hex
      case h_2 => cases hex
      rename_i all hmem
      split at hex
      case isFalse => cases hex
      rename_i hle
      have hlenx : xs.length = len := by cases hex; simp; omega
      have hkill : ∀ i e', (s.kill r).mem i = some e' → s.mem i = some e' ∧ i ≠ r := fun i e' he' => by
        rw [St.mem_kill] at he'
        split at he'
        · cases he'
        · rename_i hne; exact ⟨he', hne⟩
      by_cases h0 : cap = 0
      · subst h0
        have hl0 : len = 0 := by omega
        subst hl0
        have hnil := List.length_eq_zero_iff.1 hlenx
        subst hnil
        exact ⟨g, VRel.emptySl _ _ _ _ _ _ _, Keep.refl _ _, h.newU rfl (fun i e' he' => (hkill i e' he').1) (by simp)⟩
      · rcases hpos with e0 | ⟨base, lim, hb, hpp, hcl⟩
        · exact absurd e0 h0
        have hent := h.ent _ _ hmem
        cases hent with
        | row hent =>
          obtain ⟨hfx, hlim, hwall, hpall, cs, ho, hrow⟩ := hent _ _ _ _ hb
          obtain ⟨t', fr, hh, hnf⟩ := ho.heap
          have hlt : b < w.heap.size := (Array.getElem?_eq_some_iff.1 hh).1
          have hsub : ∀ x, x ∈ xs → x ∈ all := by cases hex; exact fun x hx => List.mem_of_mem_drop (List.mem_of_mem_take hx)
          have hget : ∀ (i : Nat) x, xs[i]? = some x → all[off + i]? = some x := by
            cases hex
            intro i x hx
            rw [List.getElem?_take] at hx
            split at hx
            · rwa [List.getElem?_drop] at hx
            · cases hx
          have hw : Width k xs := fun x hx => hwall x (hsub x hx)
          have hp : Plain xs := fun x hx => hpall x (hsub x hx)
          have hr : RowRel σ g k cs p xs := fun i j x y a c => by
            obtain ⟨v, v1, v2⟩ := hrow (off + i) j x y (hget i x a) c
            refine ⟨v, ?_, v2⟩
            rw [← v1, hpp]; congr 1; rw [Nat.add_mul]; omega
          have hmul : len * k ≤ cap * k := Nat.mul_le_mul_right _ hcap
          let F : Nat → Option Value := fun q => if p ≤ q ∧ q < p + len * k then cs[q]? else none
          obtain ⟨K, S⟩ := h.put (id := s.next) (gen := 0) (b := b) (base := p) (k := k) (lim := lim) (F := F) (s' := (s.kill r).new (.tip 0 xs.length k)) (w' := w) (e := .tip 0 xs.length k)
            (fun q v hv => by rw [hfx] at hv; cases hv) (h.fresh 0) (by rw [St.mem_new, St.next_kill, if_pos rfl]) (fun i hi e' he' => by
              rw [St.mem_new, St.next_kill, if_neg hi] at he'
              obtain ⟨a1, a2⟩ := hkill i e' he'
              exact ⟨a1, fun x => by rw [ho.own] at x; cases x; exact a2 rfl⟩) (by simp) (by simp) (fun _ _ => rfl) (Nat.le_refl _) hlt
            (fun q v hv => by
              change (if _ then _ else _) = _ at hv
              split at hv
              · rw [cell_of_heap hh]; exact hv
              · cases hv)
            (by
              refine .tip fun b' base' k' lim' hb' => ?_
              rw [put_blk] at hb'
              simp only [Option.some.injEq, Prod.mk.injEq] at hb'
              obtain ⟨rfl, rfl, rfl, rfl⟩ := hb'
              refine ⟨rfl, by rw [hlenx]; omega, fun q hq => ?_, cs, ⟨put_own _ _ _ _ _ _, ⟨t', fr, hh, hnf⟩, ho.size⟩⟩
              rw [put_fix]
              show (if _ then _ else _) = _
              rw [if_neg (by rw [hlenx] at hq; omega)])
            (fun gn' n' k' e' m hlt' => by
              cases e'
              show (if s.next = s.next ∧ m = 0 then _ else g.blk s.next m) = none
              rw [if_neg (by omega)]
              exact h.fresh m)
            (.inl (by rw [ho.own]; simp)) rfl rfl rfl
          refine ⟨_, ?_, K, S⟩
          refine .sl k (fun i j => cs.getD (p + i * k + j) .nilIface) hlenx.symm hcap hw hp (fun i j x y a c => ?_) (fun i j x y a c => ?_) (.inr ⟨p, lim, put_blk _ _ _ _ _ _, by simp, hcl⟩)
          · obtain ⟨v, v1, _⟩ := hr i j x y a c
            have := (RowRel.idx hw a c).2.2
            rw [hlenx] at this
            rw [put_fix]
            show (if _ then _ else _) = _
            rw [if_pos (by omega), v1]
            simp [Array.getD_eq_getD_getElem?, v1]
          · obtain ⟨v, v1, v2⟩ := hr i j x y a c
            simp only [Array.getD_eq_getD_getElem?, v1, Option.getD_some]
            exact v2.mono K.le
  all_goals
    simp only [Option.some.injEq, Prod.mk.injEq] at hv
    obtain ⟨rfl, rfl⟩ := hv
    refine ⟨g, ?_, Keep.refl _ _, h⟩
    first
      | assumption
      | (constructor <;> assumption)

theorem slice0_ok {a : Value} {lo hi m : Option Value} {x v : V} {lo' hi' m' : Option V} {k t : Nat} (h : Sim σ g s w) (ha : VRel σ g a x) (hlo : OptRel σ g lo lo') (hhi : OptRel σ g hi hi') (hm : OptRel σ g m m')
    (hsome : m' ≠ none) (hh : hi' ≠ none) (hv : sliceV k x lo' hi' m' s = some (v, s')) (ht : tyFor P k t x) :
    Good σ g w ((Instr.sliceAt t a lo hi m).run P w) v s' := by
  cases m' with
  | none => exact absurd rfl hsome
  | some mv =>
    cases m with
    | none => simp [OptRel] at hm
    | some mval =>
      simp only [OptRel] at hm
      unfold sliceV at hv
      cases hn : lenV x with
      | none => rw [hn] at hv; cases hv
      | some n =>
        rw [hn] at hv
        simp only [] at hv
        split at hv
        case h_2 => cases hv
        rename_i hq l hhq hl
        have hh' : idxOr hi' n = some hq := hhq
        have hl' : idxOr lo' 0 = some l := hl
        split at hv
        case isFalse => cases hv
        rename_i hc
        simp only [Bool.and_eq_true, decide_eq_true_eq] at hc
        obtain ⟨h1, h2⟩ := hc
        have hhi0 : hi ≠ none := by
          intro e; subst e
          cases hi' with
          | none => exact hh rfl
          | some => simp [OptRel] at hhi
        cases hmi : asIdx mv with
        | none => rw [hmi] at hv; cases x <;> cases hv
        | some mm =>
          obtain ⟨km, rfl⟩ := asIdx_some hmi
          obtain rfl := hm.eq_int
          rw [hmi] at hv
          cases mm with
          | succ mm => cases x <;> simp at hv
          | zero =>
            cases ha <;> simp only [reduceCtorEq] at hv
            case nilsl =>
              simp only [Option.some.injEq, Prod.mk.injEq] at hv
              obtain ⟨rfl, rfl⟩ := hv
              obtain ⟨e, i, ht1, ht2, ht3⟩ := ht
              simp only [lenV, Option.some.injEq] at hn; subst hn
              have hq0 : hq = 0 := by omega
              have l0 : l = 0 := by omega
              subst hq0; subst l0
              refine ⟨.slice none 0 0, w, g, ?_, .nilsl, Keep.refl _ _, h⟩
              rw [sliceOf_run ht1 ht2 ht3 (fun w => run_bounds3 (m := 0) hlo hhi hl' hh' hhi0 (Nat.le_refl _) (Nat.le_refl _) (Nat.zero_le _) w)]
              simp
            case sl b p len cap c gn off xs kw vals hlen hcap hk hcc hfix hrel hpos =>
              split at hv
              case isFalse => cases hv
              rename_i hz
              simp only [Nat.beq_eq] at hz
              subst hz
              have l0 : l = 0 := by omega
              subst l0
              simp only [Option.some.injEq, Prod.mk.injEq] at hv
              obtain ⟨rfl, rfl⟩ := hv
              obtain ⟨e, i, ht1, ht2, ht3⟩ := ht
              simp only [lenV, Option.some.injEq] at hn; subst hn
              refine ⟨.slice (some ⟨b, p, none⟩) 0 0, w, g, ?_, VRel.emptySl _ _ _ _ _ _ _, Keep.refl _ _, h.newU rfl (fun _ _ h => h) (by simp)⟩
              rw [sliceOf_run ht1 ht2 ht3 (fun w => run_bounds3 (m := 0) hlo hhi hl' (hlen ▸ hh') hhi0 (Nat.le_refl _) (Nat.le_refl _) (Nat.zero_le _) w)]
              simp
            case row b p len cap r kw off hcap hpos =>
              split at hv
              case isFalse => cases hv
              rename_i hz
              simp only [Nat.beq_eq] at hz
              subst hz
              have l0 : l = 0 := by omega
              subst l0
              simp only [Option.some.injEq, Prod.mk.injEq] at hv
              obtain ⟨rfl, rfl⟩ := hv
              obtain ⟨e, i, ht1, ht2, ht3⟩ := ht
              simp only [lenV, Option.some.injEq] at hn; subst hn
              refine ⟨.slice (some ⟨b, p, none⟩) 0 0, w, g, ?_, VRel.emptySl _ _ _ _ _ _ _, Keep.refl _ _, h.newU rfl (fun _ _ h => h) (by simp)⟩
              rw [sliceOf_run ht1 ht2 ht3 (fun w => run_bounds3 (m := 0) hlo hhi hl' hh' hhi0 (Nat.le_refl _) (Nat.le_refl _) (Nat.zero_le _) w)]
              simp

/-- A cell of an object is read as something else that it holds just as well. -/
theorem Sim.recell (h : Sim σ g s w) {o off : Nat} {cells : List V} {v : V} (hm : s.mem o = some (.obj cells)) (hc : v.isCell = true)
    (hv : ∀ b base k lim cs u, g.blk o 0 = some (b, base, k, lim) → Own g w o b lim cs → cs[off]? = some u → VRel σ g u v) : Sim σ g (s.set o (.obj (cells.set off v))) w := by
  refine h.step (· = o) (G.Le.refl g) h.fixc (Nat.le_refl _) (fun id hid e1 he1 => ?_) (fun _ _ _ => rfl) (fun b id hb _ => ⟨hb, fun _ => rfl, rfl⟩) ?_ ?_ ?_ (Nat.le_refl _) h.own
  · rw [St.mem_set, if_neg hid] at he1; exact he1
  · rintro id e1 rfl he1
    rw [St.mem_set, if_pos rfl] at he1
    cases he1
    refine ⟨.obj fun b base k lim hb => ?_, h.lt _ _ hm⟩
    have he := h.ent _ _ hm
    cases he with
    | obj he =>
      obtain ⟨h1, h2, cs, ho, hl, hcc, hr⟩ := he _ _ _ _ hb
      refine ⟨h1, h2, cs, ho, by simp [hl], fun y hy => ?_, fun i u x hu hx => ?_⟩
      · rcases List.mem_or_eq_of_mem_set hy with hy | rfl
        · exact hcc y hy
        · exact hc
      · rw [List.getElem?_set] at hx
        split at hx
        · rename_i e
          subst e
          split at hx
          · cases hx; exact hv _ _ _ _ _ _ hb ho hu
          · cases hx
        · exact hr i u x hu hx
  · rintro id n b base k lim rfl hb
    exact ⟨h.lt _ _ hm, h.back _ _ _ _ _ _ hb⟩
  · rintro id gn n k m rfl he1 _
    rw [St.mem_set, if_pos rfl] at he1; cases he1

theorem frzc_ok {a : Value} {x : V} {d : Nat} (h : Sim σ g s w) (ha : VRel σ g a x) (hv : frzcV x d s = some s') : ∃ g', Keep g w g' w ∧ Sim σ g' s' w := by
  unfold frzcV at hv
  cases ha <;> simp only [reduceCtorEq] at hv
  case ptr b k lim o p hb =>
    split at hv
    case h_2 => cases hv
    rename_i cells hm
    split at hv
    case h_2 => cases hv
    rename_i y hy
    split at hv
    case h_2 => cases hv
    rename_i v s1 hf
    split at hv
    case h_2 => cases hv
    rename_i cells' hm'
    split at hv
    case isFalse => cases hv
    rename_i hcond
    simp only [Bool.and_eq_true] at hcond
    simp only [Option.some.injEq] at hv
    subst hv
    have he := h.ent _ _ hm
    cases he with
    | obj he =>
      obtain ⟨h1, h2, cs, ho, hl, hcc, hr⟩ := he _ _ _ _ hb
      have hlt : p + d < cs.size := by rw [hl]; exact (List.getElem?_eq_some_iff.1 hy).1
      have hu : cs[p + d]? = some cs[p + d] := Array.getElem?_eq_getElem hlt
      obtain ⟨g', k1, k2, k3⟩ := freeze_ok h (hr (p + d) _ _ hu hy) hf
      refine ⟨g', k2, k3.recell hm' hcond.1 fun b' base' k' lim' cs' u hb' ho' hu' => ?_⟩
      rw [k2.le.blk _ _ _ hb] at hb'
      simp only [Option.some.injEq, Prod.mk.injEq] at hb'
      obtain ⟨rfl, rfl, rfl, rfl⟩ := hb'
      obtain ⟨t1, fr1, hh1, _⟩ := ho.heap
      obtain ⟨t2, fr2, hh2, _⟩ := ho'.heap
      rw [hh1] at hh2
      cases hh2
      rw [hu] at hu'
      cases hu'
      exact k1

end Go.VS
