/-
  Part 40 of 43 of the proof of SubcorpusSetsSaid, by an abstract machine that stands in for the Go program: lemmas without conditions of their own.
-/
import Derived.Test.YtclfgmlnechmkaaGreatP39
import Derived.Below
import Derived.ChangeSame
import Derived.ChangeSlices
import Derived.Deep.SlicePairs
set_option linter.unusedSimpArgs false
set_option linter.unusedVariables false
namespace Go.VS
open Go.RowKit Go.WideShapes Go.ChangeShapes

variable {P : Program} {σ : Nat → Nat}

/-! ### tables -/

def look : List (Nat × FnDef) → Nat → Option FnDef
  | [], _ => none
  | (k, d) :: r, n => bif Nat.beq k n then some d else look r n

def DefOk (P : Program) (σ : Nat → Nat) (k : Nat) : FnDef → Prop
  | .body fn => ∃ gf, P.funcs[σ k]? = some gf ∧ okFn P σ gf fn = true
  | .prim p => PrimSound P σ k p

def TabOk (P : Program) (σ : Nat → Nat) : List (Nat × FnDef) → Prop
  | [] => True
  | (k, d) :: r => DefOk P σ k d ∧ TabOk P σ r

theorem TabOk.at {tab : List (Nat × FnDef)} (h : TabOk P σ tab) {k : Nat} {d : FnDef} (hd : VS.look tab k = some d) : DefOk P σ k d := by
  induction tab with
  | nil => cases hd
  | cons x r ih =>
    obtain ⟨j, e⟩ := x
    simp only [VS.look] at hd
    cases hb : Nat.beq j k with
    | true =>
      rw [hb, cond_true] at hd
      have := Nat.eq_of_beq_eq_true hb
      subst this
      injection hd with hd
      subst hd
      exact h.1
    | false => rw [hb, cond_false] at hd; exact ih h.2 hd

theorem TabOk.linked {tab : List (Nat × FnDef)} (h : TabOk P σ tab) (hm : P.follows .mixedOrders = true) : Linked P σ (look tab) :=
  ⟨hm, fun _ _ hf => h.at hf, fun _ _ hf => h.at hf⟩

theorem TabOk.append {a b : List (Nat × FnDef)} (ha : TabOk P σ a) (hb : TabOk P σ b) : TabOk P σ (a ++ b) := by
  induction a with
  | nil => exact hb
  | cons x r ih => exact ⟨ha.1, ih ha.2⟩

/-! ### the start -/

def GS (w : World) (bl : Nat → Option (Nat × Nat × Nat × Nat)) : G := ⟨fun b p => w.cell? ⟨b, p, none⟩, fun i n => if n = 0 then bl i else none, fun _ => none⟩
def StN (n : Nat) : St := ⟨n, fun _ => none⟩
theorem Sim.start (w : World) (n : Nat) (bl : Nat → Option (Nat × Nat × Nat × Nat)) (h : ∀ i b base k lim, bl i = some (b, base, k, lim) → i < n ∧ b < w.heap.size) : Sim σ (GS w bl) (StN n) w where
  fixc _ _ _ h := h
  ent _ _ h := by cases h
  lt _ _ h := by cases h
  blt i m x hx := by
    obtain ⟨b, base, k, lim⟩ := x
    simp only [GS] at hx
    split at hx
    · exact (h _ _ _ _ _ hx).1
    · cases hx
  gens _ _ _ _ _ h := by cases h
  own _ _ := rfl
  back i m b base k lim hx := by
    simp only [GS] at hx
    split at hx
    · exact (h _ _ _ _ _ hx).2
    · cases hx

/-- Where the cells of a slice lie. -/
def home (v : Value) (k : Nat) : Option (Nat × Nat × Nat × Nat) :=
  match v with
  | .slice (some a) _ cap => some (a.block, a.off, k, a.off + cap * k)
  | _ => none

theorem add_none (b p i : Nat) : Addr.add ⟨b, p, none⟩ i = ⟨b, p + i, none⟩ := by
  cases i with
  | zero => rfl
  | succ i => rfl

theorem VRel.ints {w : World} {bl : Nat → Option (Nat × Nat × Nat × Nat)} {c b p len cap : Nat} {zs : List Int} (hb : bl c = home (.slice (some ⟨b, p, none⟩) len cap) 1) (hl : len ≤ cap) (hz : len ≤ zs.length)
    (hcell : ∀ i, i < zs.length → w.cell? ⟨b, p + i, none⟩ = some (.int .i64 (zs.getD i 0))) : VRel σ (GS w bl) (.slice (some ⟨b, p, none⟩) len cap) (.sl c 0 0 ((zs.take len).map (.int .i64))) := by
  refine .sl 1 (fun i j => .int .i64 (zs.getD i 0)) (by simp; omega) hl ?_ ?_ ?_ ?_ (.inr ⟨p, p + cap * 1, ?_, by omega, by omega⟩)
  · intro x hx; obtain ⟨z, _, rfl⟩ := List.mem_map.1 hx; rfl
  · intro x hx; obtain ⟨z, _, rfl⟩ := List.mem_map.1 hx; exact ⟨rfl, by simp [V.cells, V.isCell]⟩
  · intro i j x y hx hy
    rw [List.getElem?_map] at hx
    cases hzi : (zs.take len)[i]? with
    | none => rw [hzi] at hx; cases hx
    | some z =>
      rw [hzi] at hx
      simp only [Option.map_some, Option.some.injEq] at hx
      subst hx
      have hi : i < len := by have := (List.getElem?_eq_some_iff.1 hzi).1; simp at this; omega
      have hj : j = 0 := by have := (List.getElem?_eq_some_iff.1 hy).1; simpa [V.cells] using this
      subst hj
      have := hcell i (by omega)
      rw [show p + i * 1 + 0 = p + i by omega]
      exact this
  · intro i j x y hx hy
    rw [List.getElem?_map] at hx
    cases hzi : (zs.take len)[i]? with
    | none => rw [hzi] at hx; cases hx
    | some z =>
      rw [hzi] at hx
      simp only [Option.map_some, Option.some.injEq] at hx
      subst hx
      have hi : i < len := by have := (List.getElem?_eq_some_iff.1 hzi).1; simp at this; omega
      have hj : j = 0 := by have := (List.getElem?_eq_some_iff.1 hy).1; simpa [V.cells] using this
      subst hj
      simp only [V.cells, List.getElem?_cons_zero, Option.some.injEq] at hy
      subst hy
      rw [List.getElem?_take_of_lt hi] at hzi
      rw [List.getD_eq_getElem?_getD, hzi]
      exact .int _ _
  · simp only [GS, if_true, hb, home]

theorem VRel.pairs {w : World} {bl : Nat → Option (Nat × Nat × Nat × Nat)} {c b p len cap : Nat} {zs : List (Int × Int)} (hb : bl c = home (.slice (some ⟨b, p, none⟩) len cap) 2) (hl : len ≤ cap) (hz : len = zs.length)
    (hcell : ∀ i (h : i < zs.length), w.cell? ⟨b, p + i * 2, none⟩ = some (.int .i64 zs[i].1) ∧ w.cell? ⟨b, p + i * 2 + 1, none⟩ = some (.int .i64 zs[i].2)) : VRel σ (GS w bl) (.slice (some ⟨b, p, none⟩) len cap) (.sl c 0 0 (zs.map spV)) := by
  refine .sl 2 (fun i j => if j = 0 then .int .i64 (zs.getD i (0, 0)).1 else .int .i64 (zs.getD i (0, 0)).2) (by simp; omega) hl ?_ ?_ ?_ ?_ (.inr ⟨p, p + cap * 2, ?_, by omega, by omega⟩)
  · intro x hx; obtain ⟨z, _, rfl⟩ := List.mem_map.1 hx; rfl
  · intro x hx; obtain ⟨z, _, rfl⟩ := List.mem_map.1 hx; exact ⟨rfl, by simp [spV, V.cells, V.isCell]⟩
  · intro i j x y hx hy
    rw [List.getElem?_map] at hx
    cases hzi : zs[i]? with
    | none => rw [hzi] at hx; cases hx
    | some z =>
      rw [hzi] at hx
      simp only [Option.map_some, Option.some.injEq] at hx
      subst hx
      obtain ⟨hi, he⟩ := List.getElem?_eq_some_iff.1 hzi
      have hj : j < 2 := by have := (List.getElem?_eq_some_iff.1 hy).1; simpa [spV, V.cells] using this
      have hgd : zs.getD i (0, 0) = zs[i] := by simp [List.getD_eq_getElem?_getD, hi]
      obtain ⟨h1, h2⟩ := hcell i hi
      have : j = 0 ∨ j = 1 := by omega
      rcases this with rfl | rfl
      · rw [if_pos rfl, hgd]; exact h1
      · rw [if_neg (by omega), hgd]; exact h2
  · intro i j x y hx hy
    rw [List.getElem?_map] at hx
    cases hzi : zs[i]? with
    | none => rw [hzi] at hx; cases hx
    | some z =>
      rw [hzi] at hx
      simp only [Option.map_some, Option.some.injEq] at hx
      subst hx
      obtain ⟨hi, he⟩ := List.getElem?_eq_some_iff.1 hzi
      have hj : j < 2 := by have := (List.getElem?_eq_some_iff.1 hy).1; simpa [spV, V.cells] using this
      have hgd : zs.getD i (0, 0) = zs[i] := by simp [List.getD_eq_getElem?_getD, hi]
      have : j = 0 ∨ j = 1 := by omega
      rcases this with rfl | rfl
      · rw [if_pos rfl, hgd]
        simp only [spV, V.cells, List.getElem?_cons_zero, Option.some.injEq] at hy
        subst hy; subst he; exact .int _ _
      · rw [if_neg (by omega), hgd]
        simp only [spV, V.cells, List.getElem?_cons_zero, List.getElem?_cons_succ, Option.some.injEq] at hy
        subst hy; subst he; exact .int _ _
  · simp only [GS, if_true, hb, home]

/-- What a slice that came in is known of. -/
theorem okWide_at {W : World} {r : Reach} {base : Nat} {t e : TypeId} {a : Addr} {len cap : Nat} (ht : P.underlying t = some (.slice e)) (h : Value.okWide P W r base t (.slice (some a) len cap)) : a.spot = none ∧ a.block < W.heap.size ∧ len ≤ cap := by
  simp only [Value.okWide, ht, Cell.okWide, Cell.ok, World.has] at h
  obtain ⟨h1, _, _, h2, row, cells, h3, _⟩ := h
  refine ⟨h2, ?_, h1⟩
  simp only [World.shape?] at h3
  by_cases hlt : a.block < W.heap.size
  · exact hlt
  · rw [Array.getElem?_eq_none (by omega)] at h3; cases h3

/-- A slice of ints that came in, as a value of the abstract machine. -/
theorem start_ints {H : Type} {enc : TypeId × Value → H} {W : World} {t e : TypeId} {a0 : Option Addr} {len cap fuel : Nat} {x : DataW H × List MemPlace} {base : Nat} {spare : Nat → Bool} {held : Bool} {r : Reach} {bs : Nat}
    (ht : P.underlying t = some (.slice e)) (he : P.underlying e = some (.int .i64)) (hc : P.cellsOf e = 1) (hok : Value.okWide P W r bs t (.slice a0 len cap))
    (h : DataW.trod enc P W base spare held fuel t [.slice a0 len cap] = some x) (c : Nat) (bl : Nat → Option (Nat × Nat × Nat × Nat)) (hb : bl c = home (.slice a0 len cap) 1) :
    (∀ b bs k lim, home (.slice a0 len cap) 1 = some (b, bs, k, lim) → b < W.heap.size) ∧
    ∃ (v : V) (ls : List Int), VRel σ (GS W bl) (.slice a0 len cap) v ∧ (v = .nilsl ∧ ls = [] ∨ v = .sl c 0 0 (ls.map (.int .i64))) ∧ ls.length = len := by
  rcases open_ints ht he hc h with ⟨hcs, hx⟩ | ⟨a, len', cap', zs, hcs, _, hl, hm, hz, hx, hcell, hwz⟩
  · simp only [List.cons.injEq, Value.slice.injEq, and_true] at hcs
    obtain ⟨rfl, rfl, rfl⟩ := hcs
    exact ⟨fun _ _ _ _ h => (by cases h), .nilsl, [], .nilsl, .inl ⟨rfl, rfl⟩, rfl⟩
  · simp only [List.cons.injEq, Value.slice.injEq, and_true] at hcs
    obtain ⟨rfl, rfl, rfl⟩ := hcs
    obtain ⟨hs, hlt, _⟩ := okWide_at ht hok
    obtain ⟨b, p, spot⟩ := a
    simp only at hs
    subst hs
    have hzl : len ≤ zs.length := by rw [hz]; split <;> omega
    refine ⟨fun b' _ _ _ h => ?_, _, zs.take len, VRel.ints hb hl hzl (fun i hi => ?_), .inr rfl, by simp; omega⟩
    · simp only [home, Option.some.injEq, Prod.mk.injEq] at h
      rw [← h.1]; exact hlt
    · rw [← add_none]; exact hcell i hi

/-- A slice of pairs of ints that came in. -/
theorem start_pairs {H : Type} {enc : TypeId × Value → H} {W : World} {t e : TypeId} {f0 f1 : Field} {a0 : Option Addr} {len cap fuel : Nat} {x : DataW H × List MemPlace} {base : Nat} {spare : Nat → Bool} {held : Bool} {r : Reach} {bs : Nat}
    (ht : P.underlying t = some (.slice e)) (he : P.underlying e = some (.struct #[f0, f1])) (ce : P.cellsOf e = 2) (o0 : f0.offset = 0) (o1 : f1.offset = 1) (c0 : P.cellsOf f0.type = 1) (c1 : P.cellsOf f1.type = 1)
    (u0 : P.underlying f0.type = some (.int .i64)) (u1 : P.underlying f1.type = some (.int .i64)) (hok : Value.okWide P W r bs t (.slice a0 len cap))
    (h : DataW.trod enc P W base spare held fuel t [.slice a0 len cap] = some x) (c : Nat) (bl : Nat → Option (Nat × Nat × Nat × Nat)) (hb : bl c = home (.slice a0 len cap) 2) :
    (∀ b bs k lim, home (.slice a0 len cap) 2 = some (b, bs, k, lim) → b < W.heap.size) ∧
    ∃ (v : V) (zs : List (Int × Int)), VRel σ (GS W bl) (.slice a0 len cap) v ∧ (v = .nilsl ∧ zs = [] ∨ v = .sl c 0 0 (zs.map spV)) := by
  rcases Go.Deep.open_slice_pairs ht he ce o0 o1 c0 c1 h with ⟨hcs, hx⟩ | ⟨a, len', cap', m, n, V0, V1, D0, D1, P0, P1, hcs, _, hl, hm, hmm, hx, hcell⟩
  · simp only [List.cons.injEq, Value.slice.injEq, and_true] at hcs
    obtain ⟨rfl, rfl, rfl⟩ := hcs
    exact ⟨fun _ _ _ _ h => (by cases h), .nilsl, [], .nilsl, .inl ⟨rfl, rfl⟩⟩
  · simp only [List.cons.injEq, Value.slice.injEq, and_true] at hcs
    obtain ⟨rfl, rfl, rfl⟩ := hcs
    obtain ⟨hs, hlt, _⟩ := okWide_at ht hok
    obtain ⟨b, p, spot⟩ := a
    simp only at hs
    subst hs
    have hml : len ≤ m := by rw [hmm]; split <;> omega
    have key : ∀ i, i < len → ∃ z0 z1 : Int, W.cell? ⟨b, p + i * 2, none⟩ = some (.int .i64 z0) ∧ W.cell? ⟨b, p + i * 2 + 1, none⟩ = some (.int .i64 z1) := by
      intro i hi
      obtain ⟨h1, h2, h3, h4⟩ := hcell i (by omega)
      obtain ⟨z0, e0, _⟩ := DataW.trod_int u0 h3
      obtain ⟨z1, e1, _⟩ := DataW.trod_int u1 h4
      simp only [List.cons.injEq, and_true] at e0 e1
      rw [add_none] at h1 h2
      exact ⟨z0, z1, by rw [h1, e0], by rw [show p + i * 2 + 1 = p + (i * 2 + 1) by omega, h2, e1]⟩
    let z : Nat → Int × Int := fun i => if h : i < len then ((key i h).choose, (key i h).choose_spec.choose) else (0, 0)
    refine ⟨fun b' _ _ _ h => ?_, _, (List.range len).map z, VRel.pairs hb hl (by simp) (fun i hi => ?_), .inr rfl⟩
    · simp only [home, Option.some.injEq, Prod.mk.injEq] at h
      rw [← h.1]; exact hlt
    · have hi' : i < len := by simpa using hi
      have hz : ((List.range len).map z)[i] = ((key i hi').choose, (key i hi').choose_spec.choose) := by
        simp only [List.getElem_map, List.getElem_range, z, dif_pos hi']
      rw [hz]
      exact (key i hi').choose_spec.choose_spec

/-- What is left behind: all that was there. -/
theorem Keep.below {g g' : G} {w w' : World} (h : Keep g w g' w') (hg : ∀ b, g.own b = none) : Below w.heap.size w w' :=
  ⟨h.os, h.tape, h.output, h.size, fun k hk => (h.own k hk (hg k)).2⟩

/-- A law that answers true. -/
theorem law_true {f : Nat} {args : List V} {n : Nat} {W : World} {bl : Nat → Option (Nat × Nat × Nat × Nat)} {vargs : Array Value} (h : CallSound P σ f args (StN n) (fun v _ => v = .bool true)) (hb : ∀ i b base k lim, bl i = some (b, base, k, lim) → i < n ∧ b < W.heap.size)
    (ha : ArgsRel σ (GS W bl) vargs args) : Calls P (σ f) vargs W fun e W' => e = .returned (.bool true) ∧ Below W.heap.size W W' := by
  refine (h.2 _ W vargs (Sim.start W n bl hb) ha).mono fun e w' h => ?_
  obtain ⟨val, v1, s1, g1, rfl, rfl, hv, hk, _⟩ := h
  cases hv
  exact ⟨rfl, hk.below fun _ => rfl⟩
theorem argsR1 {g : G} {v0 : Value} {x0 : V} (h0 : VRel σ g v0 x0) : ArgsRel σ g #[v0] [x0] := ⟨rfl, fun i v x hv hx => by
  match i with
  | 0 => simp at hv hx; subst hv; subst hx; exact h0
  | i + 1 => simp at hx⟩
theorem argsR2 {g : G} {v0 v1 : Value} {x0 x1 : V} (h0 : VRel σ g v0 x0) (h1 : VRel σ g v1 x1) : ArgsRel σ g #[v0, v1] [x0, x1] := ⟨rfl, fun i v x hv hx => by
  match i with
  | 0 => simp at hv hx; subst hv; subst hx; exact h0
  | 1 => simp at hv hx; subst hv; subst hx; exact h1
  | i + 2 => simp at hx⟩
end Go.VS
