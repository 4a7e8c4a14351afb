/-
  Part 26 of 43 of the proof of SubcorpusSetsSaid, by an abstract machine that stands in for the Go program: lemmas without conditions of their own.
-/
import Derived.Test.YtclfgmlnechmkaaGreatP25
set_option linter.unusedSimpArgs false
set_option linter.unusedVariables false
namespace Go.VS

variable {P : Program} {σ : Nat → Nat} {g g' : G} {s s' : St} {w w' : World}

theorem ElemsOk.drew {k : Nat} {y : Value} {ys : List V} {v : V} (h : Sim σ g s w) (hy : VRel σ g y v) (he : elems v s = some ys) (hw : wOk k ys = true) (hro : rowOk v k = true) :
    Nonempty (ElemsOk P σ g w.drew k y ys) := elems_ok h.drew hy he hw hro

/-- The new block of an append to nothing. -/
theorem rowrel_nil (σ : Nat → Nat) (g : G) (k : Nat) (cs : Array Value) (base : Nat) : RowRel σ g k cs base [] := fun i j x y h => by simp at h

theorem append_ok {t u ty e k by_ : Nat} {mt : Bool} {i : TypeInfo} {zv a y : Value} {x yv v : V} (h : Sim σ g s w) (ht : P.underlying t = some (.slice e)) (hu : appTy P u) (hi : P.info? e = some i)
    (hk : i.size = k) (hby : i.bytes = by_) (hz : i.zero = some zv) (hzk : zv.cells.size = k) (ha : VRel σ g a x) (hy : VRel σ g y yv) (hv : appendV mt k by_ x yv s = some (v, s')) :
    Good σ g w ((Builtin.append_ #[t, u] ty #[a, y]).run P w) v s' := by
  unfold appendV at hv
  cases hel : elems yv s with
  | none => rw [hel] at hv; cases hv
  | some ys =>
    rw [hel] at hv
    simp only [] at hv
    split at hv
    case isFalse => cases hv
    rename_i hc
    simp only [Bool.and_eq_true] at hc
    obtain ⟨⟨hwk, hrx⟩, hry⟩ := hc
    obtain ⟨E⟩ := elems_ok (P := P) h hy hel hwk hry
    obtain ⟨E'⟩ := ElemsOk.drew (P := P) h hy hel hwk hry
    have hlenW := E.len
    -- nothing is appended
    have none_case : ∀ (base : Option Addr) (sLen sCap : Nat), sLen ≤ sCap → ys.length = 0 → (Builtin.append_ #[t, u] ty #[.slice base sLen sCap, y]).run P w = .ok (.slice base sLen sCap) w := by
      intro base sLen sCap hle hnil
      have hcells : E.cells = [] := by
        have := E.size; rw [hnil, Nat.zero_mul] at this; exact List.length_eq_zero_iff.1 this
      have hf := E.first
      rw [hcells] at hf
      have hl := E.len
      have := append_room (P := P) (w := w) (w' := w) (ty := ty) (base := base) (sLen := sLen) (sCap := sCap) (n := ys.length) (y := y) (L := []) ht hu hi hk hl hf (by rw [hnil]; simpa using hle)
        (fun a _ => by simp [storeCells]) (fun _ => rfl)
      rwa [hnil, Nat.add_zero] at this
    cases ha <;> simp only [reduceCtorEq] at hv
    case nilsl =>
      split at hv
      · rename_i hemp
        simp only [Option.some.injEq, Prod.mk.injEq] at hv
        obtain ⟨rfl, rfl⟩ := hv
        exact ⟨_, _, g, none_case none 0 0 (Nat.le_refl _) (by simpa using congrArg List.length (List.isEmpty_iff.1 hemp)), .nilsl, Keep.refl _ _, h⟩
      · rename_i hemp
        have hne : ys.length ≠ 0 := by
          intro e0; apply hemp; rw [List.length_eq_zero_iff.1 e0]; rfl
        split at hv
        case isFalse => cases hv
        rename_i hm
        simp only [Bool.and_eq_true, decide_eq_true_eq] at hm
        have run := append_grow (P := P) (w := w) (ty := ty) (base := none) (sLen := 0) (sCap := 0) (n := ys.length) (y := y) (L := E'.cells) (O := []) ht hu hi hk hz hlenW E'.first (by simp [Builtin.firstCells])
          (by omega) (by omega) (by rw [hby]; exact hm.2)
        simp only [Nat.zero_add] at run
        generalize hcap : grownCap w ys.length 0 e = cap at run
        have hcapge : ys.length ≤ cap := by rw [← hcap]; exact grown_ge _ _ _ _
        have hs : (([] : List Value).toArray ++ E'.cells.toArray ++ Builtin.zeroCells zv.cells (cap - ys.length)).size = cap * k := by
          simp only [Array.size_append, List.size_toArray, zeroCells_size hzk, E'.size, List.length_nil, Nat.zero_add]
          rw [← Nat.add_mul]; congr 1; omega
        have hrow : RowRel σ g k (([] : List Value).toArray ++ E'.cells.toArray ++ Builtin.zeroCells zv.cells (cap - ys.length)) 0 ys := by
          have := RowRel.join (σ := σ) (g := g) (k := k) (O := []) (L := E'.cells) (C := Builtin.zeroCells zv.cells (cap - ys.length)) (xs := []) (ys := ys) (by simp) E'.size (by intro x hx; cases hx) E'.width (rowrel_nil _ _ _ _ _) E'.rel
          rwa [List.nil_append] at this
        cases mt
        · simp only [Bool.false_eq_true, if_false, Option.some.injEq, Prod.mk.injEq] at hv
          obtain ⟨rfl, rfl⟩ := hv
          obtain ⟨g', h1, h2, h3⟩ := h.drew.newSl (xs := ys) (k := k) (cap := cap) e (nf_zero _) hs hcapge E'.width E'.plain hrow
          exact ⟨_, _, g', run, h1, (Keep.draws g w _ (Nat.le_succ _)).trans h2, h3⟩
        · simp only [if_true, Option.some.injEq, Prod.mk.injEq] at hv
          obtain ⟨rfl, rfl⟩ := hv
          obtain ⟨g', h1, h2, h3⟩ := h.drew.newRow (xs := ys) (k := k) (cap := cap) e (nf_zero _) hs hcapge E'.width E'.plain hrow
          exact ⟨_, _, g', run, h1, (Keep.draws g w _ (Nat.le_succ _)).trans h2, h3⟩
    case sl b p len cap c gn off xs kw vals hlen hcap hkw hcc hfix hrel hpos =>
      have hself : VRel σ g (.slice (some ⟨b, p, none⟩) len cap) (.sl c gn off xs) := .sl kw vals hlen hcap hkw hcc hfix hrel hpos
      split at hv
      · rename_i hemp
        simp only [Option.some.injEq, Prod.mk.injEq] at hv
        obtain ⟨rfl, rfl⟩ := hv
        exact ⟨_, _, g, none_case _ _ _ hcap (by simpa using congrArg List.length (List.isEmpty_iff.1 hemp)), hself, Keep.refl _ _, h⟩
      · rename_i hemp
        have hne : ys.length ≠ 0 := by
          intro e0; apply hemp; rw [List.length_eq_zero_iff.1 e0]; rfl
        split at hv
        case isFalse => cases hv
        rename_i hm
        simp only [Bool.and_eq_true, decide_eq_true_eq] at hm
        split at hv
        case h_2 => cases hv
        rename_i gq n0 kk hmem
        split at hv
        case isFalse => cases hv
        rename_i hcond
        simp only [Bool.and_eq_true, Nat.beq_eq] at hcond
        obtain ⟨⟨⟨⟨hgq, hn0⟩, hoff⟩, hkk⟩, hwx⟩ := hcond
        subst hgq; subst hoff; subst hkk; subst hn0
        have hWx : Width kk xs := width_of_head hkw hwx
        have hent := h.ent _ _ hmem
        subst hlen
        cases hent with
        | tip hent =>
          by_cases hroom : xs.length + ys.length ≤ cap
          · -- in place
            rcases hpos with e0 | ⟨base, lim, hb, hp, hcl⟩
            · omega
            obtain ⟨hkk', hbl, hfree, cs, ho⟩ := hent _ _ _ _ hb
            subst hkk'
            obtain ⟨t', fr, hh, hnf⟩ := ho.heap
            have hmul : (xs.length + ys.length) * kw ≤ cap * kw := Nat.mul_le_mul_right _ hroom
            have hmul' : (xs.length + ys.length) * kw = xs.length * kw + ys.length * kw := Nat.add_mul _ _ _
            have hst := storeCells_run (P := P) (b := b) (p := p + xs.length * kw) E.cells 0 cs w hh hnf (by rw [E.size, ho.size]; omega) E.one
            rw [Nat.add_zero] at hst
            have run := append_room (P := P) (w := w) (w' := w.setRow b (putL cs (p + xs.length * kw) E.cells)) (ty := ty) (base := some ⟨b, p, none⟩) (sLen := xs.length) (sCap := cap) (n := ys.length) (y := y) (L := E.cells) ht hu hi hk hlenW E.first hroom
              (fun a ha => by cases ha; rw [add_lit]; exact hst) (fun x => by cases x)
            cases mt
            · simp only [Bool.false_eq_true, if_false, Option.some.injEq, Prod.mk.injEq] at hv
              obtain ⟨rfl, rfl⟩ := hv
              obtain ⟨g', h1, h2, h3⟩ := chain_in h hmem hb rfl hp hcl ho hh hnf hfree rfl rfl hroom E.size hself hWx E.width E.plain E.rel (by omega)
              exact ⟨_, _, g', run, h1, h2, h3⟩
            · simp only [if_true] at hv
              split at hv
              case isFalse => cases hv
              rename_i hemp'
              have hxs := List.isEmpty_iff.1 hemp'
              subst hxs
              simp only [Option.some.injEq, Prod.mk.injEq] at hv
              obtain ⟨rfl, rfl⟩ := hv
              have hfixall : ∀ q, g.fix b q = none := fun q => hfree q (by simp; omega)
              rw [Nat.zero_mul, Nat.add_zero] at hp
              subst hp
              obtain ⟨g', h1, h2, h3⟩ := row_in (σ := σ) (r := s.next) (old := c) (len := 0) (n := ys.length) (xs := []) (ys := ys) (q := p + ([] : List V).length * kw) (s1 := s.kill c) h ho hh hnf hfixall (by simp) hcl rfl rfl (by simpa using hroom) E.size
                (by intro x hx; cases hx) (by intro x hx; cases hx) (rowrel_nil _ _ _ _ _) E.width E.plain E.rel rfl (fun i e' he' => by
                  rw [St.mem_kill] at he'
                  split at he'
                  · cases he'
                  · rename_i hne; exact ⟨he', hne⟩) rfl
              simp only [Nat.zero_add, List.nil_append] at h1 h3
              simp only [List.length_nil, Nat.zero_add] at run
              exact ⟨_, _, g', run, h1, h2, h3⟩
          · -- a new block
            obtain ⟨Ex⟩ := elems_ok (P := P) (k := kk) h.drew hself (by simp only [elems]) hwx rfl
            have hby' : i.bytes ≤ 4096 := by rw [hby]; exact hm.2
            have run := append_grow (P := P) (w := w) (ty := ty) (base := some ⟨b, p, none⟩) (sLen := xs.length) (sCap := cap) (n := ys.length) (y := y) (L := E'.cells) (O := Ex.cells) ht hu hi hk hz hlenW E'.first Ex.first
              (by omega) hm.1 hby'
            generalize hcapq : grownCap w (xs.length + ys.length) cap e = cap' at run
            have hcapge : xs.length + ys.length ≤ cap' := by rw [← hcapq]; exact grown_ge _ _ _ _
            cases mt
            · simp only [Bool.false_eq_true, if_false, Option.some.injEq, Prod.mk.injEq] at hv
              obtain ⟨rfl, rfl⟩ := hv
              obtain ⟨g', h1, h2, h3⟩ := chain_new e h.drew hmem Ex.size E'.size Ex.width E'.width Ex.plain E'.plain Ex.rel E'.rel hzk rfl rfl hcapge
              exact ⟨_, _, g', run, h1, (Keep.draws g w _ (Nat.le_succ _)).trans h2, h3⟩
            · simp only [if_true] at hv
              split at hv
              case isFalse => cases hv
              rename_i hemp'
              have hxs := List.isEmpty_iff.1 hemp'
              subst hxs
              simp only [Option.some.injEq, Prod.mk.injEq] at hv
              obtain ⟨rfl, rfl⟩ := hv
              obtain ⟨g', h1, h2, h3⟩ := grow_row (e := e) (s1 := s.kill c) h.drew Ex.size E'.size Ex.width E'.width Ex.plain E'.plain Ex.rel E'.rel hzk rfl rfl hcapge rfl (fun i e' he' => by
                  rw [St.mem_kill] at he'
                  split at he'
                  · cases he'
                  · exact he')
              simp only [List.length_nil, Nat.zero_add, List.nil_append] at h1 h2 h3 run
              exact ⟨_, _, g', run, h1, (Keep.draws g w _ (Nat.le_succ _)).trans h2, h3⟩
    case row b p len cap r kw off hcap hpos =>
      have hself : VRel σ g (.slice (some ⟨b, p, none⟩) len cap) (.row r kw off len) := .row hcap hpos
      simp only [rowOk, Nat.beq_eq] at hrx
      subst hrx
      split at hv
      · rename_i hemp
        simp only [Option.some.injEq, Prod.mk.injEq] at hv
        obtain ⟨rfl, rfl⟩ := hv
        exact ⟨_, _, g, none_case _ _ _ hcap (by simpa using congrArg List.length (List.isEmpty_iff.1 hemp)), hself, Keep.refl _ _, h⟩
      · rename_i hemp
        have hne : ys.length ≠ 0 := by
          intro e0; apply hemp; rw [List.length_eq_zero_iff.1 e0]; rfl
        cases hex : elems (.row r kw off len) s with
        | none => rw [hex] at hv; cases hv
        | some xs =>
          rw [hex] at hv
          simp only [] at hv
          split at hv
          case isFalse => cases hv
          rename_i hm
          simp only [Bool.and_eq_true, decide_eq_true_eq] at hm
          simp only [Option.some.injEq, Prod.mk.injEq] at hv
          obtain ⟨rfl, rfl⟩ := hv
          simp only [elems] at hex
          split at hex
          case h_2 => cases hex
          rename_i all hmem
          split at hex
          case isFalse => cases hex
          rename_i hle
          have hlenx : xs.length = len := by cases hex; simp; omega
          have hkill : ∀ i e', (s.kill r).mem i = some e' → s.mem i = some e' ∧ i ≠ r := fun i e' he' => by
            rw [St.mem_kill] at he'
            split at he'
            · cases he'
            · rename_i hne; exact ⟨he', hne⟩
          have hwx : wOk kw xs = true := by
            rcases hpos with e0 | ⟨base, lim, hb, hp, hcl⟩
            · have : xs = [] := List.length_eq_zero_iff.1 (by omega)
              rw [this]; rfl
            · have hent := h.ent _ _ hmem
              cases hent with
              | row hent =>
                obtain ⟨_, _, hwall, _⟩ := hent _ _ _ _ hb
                cases hxs : xs with
                | nil => rfl
                | cons x0 xs0 =>
                  have hmem0 : x0 ∈ all := by
                    have : x0 ∈ xs := by rw [hxs]; simp
                    cases hex; exact List.mem_of_mem_drop (List.mem_of_mem_take this)
                  simp only [wOk, Nat.beq_eq]
                  exact hwall _ hmem0
          by_cases hroom : len + ys.length ≤ cap
          · rcases hpos with e0 | ⟨base, lim, hb, hp, hcl⟩
            · omega
            have hent := h.ent _ _ hmem
            cases hent with
            | row hent =>
              obtain ⟨hfx, hlim, hwall, hpall, cs, ho, hr⟩ := hent _ _ _ _ hb
              obtain ⟨t', fr, hh, hnf⟩ := ho.heap
              have hmul : (len + ys.length) * kw ≤ cap * kw := Nat.mul_le_mul_right _ hroom
              have hmul' : (len + ys.length) * kw = len * kw + ys.length * kw := Nat.add_mul _ _ _
              have hst := storeCells_run (P := P) (b := b) (p := p + len * kw) E.cells 0 cs w hh hnf (by rw [E.size, ho.size]; omega) E.one
              rw [Nat.add_zero] at hst
              have run := append_room (P := P) (w := w) (w' := w.setRow b (putL cs (p + len * kw) E.cells)) (ty := ty) (base := some ⟨b, p, none⟩) (sLen := len) (sCap := cap) (n := ys.length) (y := y) (L := E.cells) ht hu hi hk hlenW E.first hroom
                (fun a ha => by cases ha; rw [add_lit]; exact hst) (fun x => by cases x)
              have hsub : ∀ x, x ∈ xs → x ∈ all := by cases hex; exact fun x hx => List.mem_of_mem_drop (List.mem_of_mem_take hx)
              have hget : ∀ (i : Nat) x, xs[i]? = some x → all[off + i]? = some x := by
                cases hex
                intro i x hx
                rw [List.getElem?_take] at hx
                split at hx
                · rwa [List.getElem?_drop] at hx
                · cases hx
              obtain ⟨g', h1, h2, h3⟩ := row_in (σ := σ) (r := s.next) (old := r) (len := len) (n := ys.length) (xs := xs) (ys := ys) (q := p + len * kw) (base := p) (s1 := s.kill r) h ho hh hnf hfx rfl hcl hlenx.symm rfl hroom E.size
                (fun x hx => hwall x (hsub x hx)) (fun x hx => hpall x (hsub x hx)) (fun i j x y a c => by
                  obtain ⟨v, v1, v2⟩ := hr (off + i) j x y (hget i x a) c
                  refine ⟨v, ?_, v2⟩
                  rw [← v1, hp]; congr 1; rw [Nat.add_mul]; omega) E.width E.plain E.rel rfl hkill rfl
              exact ⟨_, _, g', run, h1, h2, h3⟩
          · obtain ⟨Ex⟩ := elems_ok (P := P) (k := kw) h.drew hself (by simp only [elems, hmem, hle, if_true]; exact hex) hwx (by simp [rowOk])
            have hby' : i.bytes ≤ 4096 := by rw [hby]; exact hm.2
            have run := append_grow (P := P) (w := w) (ty := ty) (base := some ⟨b, p, none⟩) (sLen := len) (sCap := cap) (n := ys.length) (y := y) (L := E'.cells) (O := Ex.cells) ht hu hi hk hz hlenW E'.first (by have := Ex.first; rw [hlenx] at this; exact this)
              (by omega) hm.1 hby'
            generalize hcapq : grownCap w (len + ys.length) cap e = cap' at run
            have hcapge : len + ys.length ≤ cap' := by rw [← hcapq]; exact grown_ge _ _ _ _
            obtain ⟨g', h1, h2, h3⟩ := grow_row (e := e) (s1 := s.kill r) (len := len) (n := ys.length) h.drew Ex.size E'.size Ex.width E'.width Ex.plain E'.plain Ex.rel E'.rel hzk hlenx.symm rfl hcapge rfl (fun i e' he' => (hkill i e' he').1)
            exact ⟨_, _, g', run, h1, (Keep.draws g w _ (Nat.le_succ _)).trans h2, h3⟩

end Go.VS
