/-
  Part 15 of 43 of the proof of SubcorpusSetsSaid, by an abstract machine that stands in for the Go program: lemmas without conditions of their own.
-/
import Derived.Test.YtclfgmlnechmkaaGreatP01
import Derived.WalkKit
set_option linter.unusedSimpArgs false
set_option linter.unusedVariables false
namespace Go.VS

/-- What is known of memory: cells that are never written any more; where an entity lies (block, first cell, cells an element, cells of the block); whose a block is. -/
structure G where
  fix : Nat → Nat → Option Value
  blk : Nat → Nat → Option (Nat × Nat × Nat × Nat)
  own : Nat → Option Nat

structure G.Le (g g' : G) : Prop where
  fix : ∀ b p v, g.fix b p = some v → g'.fix b p = some v
  blk : ∀ i n x, g.blk i n = some x → g'.blk i n = some x

theorem G.Le.refl (g : G) : G.Le g g := ⟨fun _ _ _ h => h, fun _ _ _ h => h⟩
theorem G.Le.trans {a b c : G} (h : G.Le a b) (k : G.Le b c) : G.Le a c := ⟨fun _ _ _ x => k.fix _ _ _ (h.fix _ _ _ x), fun _ _ _ x => k.blk _ _ _ (h.blk _ _ _ x)⟩

def bytesOf (s : ByteArray) : List Nat := s.data.toList.map UInt8.toNat

inductive VRel (σ : Nat → Nat) (g : G) : Value → V → Prop where
  | int (k n) : VRel σ g (.int k n) (.int k n)
  | bool (b) : VRel σ g (.bool b) (.bool b)
  | str {s l} (h : bytesOf s = l) : VRel σ g (.string s) (.str l)
  | nilsl : VRel σ g (.slice none 0 0) .nilsl
  | sl {b p len cap c gn off : Nat} {xs : List V} (k : Nat) (vals : Nat → Nat → Value) (hlen : len = xs.length) (hcap : len ≤ cap)
      (hk : ∀ x ∈ xs, x.cells.length = k) (hc : ∀ x ∈ xs, x.notTup = true ∧ ∀ y ∈ x.cells, y.isCell = true)
      (hfix : ∀ (i j : Nat) x y, xs[i]? = some x → x.cells[j]? = some y → g.fix b (p + i * k + j) = some (vals i j))
      (hrel : ∀ (i j : Nat) x y, xs[i]? = some x → x.cells[j]? = some y → VRel σ g (vals i j) y)
      (hpos : cap = 0 ∨ ∃ base lim, g.blk c gn = some (b, base, k, lim) ∧ p = base + off * k ∧ p + cap * k ≤ lim) :
      VRel σ g (.slice (some ⟨b, p, none⟩) len cap) (.sl c gn off xs)
  | row {b p len cap r k off} (hcap : len ≤ cap)
      (hpos : cap = 0 ∨ ∃ base lim, g.blk r 0 = some (b, base, k, lim) ∧ p = base + off * k ∧ p + cap * k ≤ lim) :
      VRel σ g (.slice (some ⟨b, p, none⟩) len cap) (.row r k off len)
  | nilptr : VRel σ g (.pointer none) .nilptr
  | ptr {b k lim o p} (h : g.blk o 0 = some (b, 0, k, lim)) : VRel σ g (.pointer (some ⟨b, p, none⟩)) (.ptr o p)
  | eptr {b base k lim r i p} (h : g.blk r 0 = some (b, base, k, lim)) : VRel σ g (.pointer (some ⟨b, base + i * k + p, none⟩)) (.eptr r k i p)
  | cptr {b p c gn i off : Nat} {cells : List V} (vals : Nat → Value) (hc : ∀ y ∈ cells, y.isCell = true)
      (hfix : ∀ (j : Nat) y, cells[j]? = some y → g.fix b (p + j) = some (vals j)) (hrel : ∀ (j : Nat) y, cells[j]? = some y → VRel σ g (vals j) y)
      (hpos : ∃ base k lim, g.blk c gn = some (b, base, k, lim) ∧ p = base + i * k + off) :
      VRel σ g (.pointer (some ⟨b, p, none⟩)) (.cptr c gn i off cells)
  | agg {vs : Array Value} {xs : List V} (hl : vs.size = xs.length) (hc : ∀ y ∈ xs, y.isCell = true) (h : ∀ (i : Nat) v x, vs[i]? = some v → xs[i]? = some x → VRel σ g v x) : VRel σ g (.agg vs) (.agg xs)
  | nilmap : VRel σ g (.map none) .nilmap
  | map {b k lim m} (h : g.blk m 0 = some (b, 0, k, lim)) : VRel σ g (.map (some b)) (.map m)
  | iter {b k lim m} (h : g.blk m 0 = some (b, 0, k, lim)) : VRel σ g (.pointer (some ⟨b, 0, none⟩)) (.iter m)
  | fn {f : Nat} {fs cs : Array Value} {xs ys : List V} (hl : fs.size = xs.length) (hl' : cs.size = ys.length) (h : ∀ (i : Nat) v x, fs[i]? = some v → xs[i]? = some x → VRel σ g v x)
      (h' : ∀ (i : Nat) v x, cs[i]? = some v → ys[i]? = some x → VRel σ g v x) : VRel σ g (.func (.func (σ f)) fs cs) (.fn f xs ys)
  | nilfn : VRel σ g .nilFunc .nilfn
  | iface {t v x} (h : VRel σ g v x) : VRel σ g (.iface t v) (.iface t x)
  | niliface : VRel σ g .nilIface .niliface
  | tup {vs : Array Value} {xs : List V} (hl : vs.size = xs.length) (h : ∀ (i : Nat) v x, vs[i]? = some v → xs[i]? = some x → VRel σ g v x) : VRel σ g (.tuple vs) (.tup xs)

theorem VRel.mono {σ : Nat → Nat} {g g' : G} (hg : G.Le g g') {v : Value} {x : V} (h : VRel σ g v x) : VRel σ g' v x := by
  induction h with
  | int k n => exact .int k n
  | bool b => exact .bool b
  | str h => exact .str h
  | nilsl => exact .nilsl
  | sl k vals hlen hcap hk hc hfix hrel hpos ih =>
    exact .sl k vals hlen hcap hk hc (fun i j x y h1 h2 => hg.fix _ _ _ (hfix i j x y h1 h2)) ih (hpos.imp id fun ⟨base, lim, h1, h2, h3⟩ => ⟨base, lim, hg.blk _ _ _ h1, h2, h3⟩)
  | row hcap hpos => exact .row hcap (hpos.imp id fun ⟨base, lim, h1, h2, h3⟩ => ⟨base, lim, hg.blk _ _ _ h1, h2, h3⟩)
  | nilptr => exact .nilptr
  | ptr h => exact .ptr (hg.blk _ _ _ h)
  | eptr h => exact .eptr (hg.blk _ _ _ h)
  | cptr vals hc hfix hrel hpos ih =>
    exact .cptr vals hc (fun j y h => hg.fix _ _ _ (hfix j y h)) ih (let ⟨base, k, lim, h1, h2⟩ := hpos; ⟨base, k, lim, hg.blk _ _ _ h1, h2⟩)
  | agg hl hc h ih => exact .agg hl hc ih
  | nilmap => exact .nilmap
  | map h => exact .map (hg.blk _ _ _ h)
  | iter h => exact .iter (hg.blk _ _ _ h)
  | fn hl hl' h h' ih ih' => exact .fn hl hl' ih ih'
  | nilfn => exact .nilfn
  | iface h ih => exact .iface ih
  | niliface => exact .niliface
  | tup hl h ih => exact .tup hl ih

theorem VRel.undef (σ : Nat → Nat) (g : G) : VRel σ g Go.undef V.undef := .tup rfl (fun i v x h => by simp at h)

/-- The cells of related values are related. -/
theorem VRel.cells {σ : Nat → Nat} {g : G} {v : Value} {x : V} (h : VRel σ g v x) : v.cells.size = x.cells.length ∧ ∀ (i : Nat) u y, v.cells[i]? = some u → x.cells[i]? = some y → VRel σ g u y := by
  cases h with
  | agg hl hc h => exact ⟨hl, h⟩
  | _ =>
    refine ⟨rfl, fun i u y h1 h2 => ?_⟩
    cases i with
    | zero =>
      simp only [Value.cells, V.cells, List.getElem?_toArray, List.getElem?_cons_zero, Option.some.injEq] at h1 h2
      subst h1; subst h2
      first
        | assumption
        | constructor <;> assumption
    | succ i => simp [V.cells] at h2

theorem VRel.isCell {σ : Nat → Nat} {g : G} {v : Value} {x : V} (h : VRel σ g v x) (hx : x.isCell = true) : v.oneCell' = true := by
  cases h <;> first | rfl | (simp [V.isCell] at hx)

theorem VRel.cellsOne {σ : Nat → Nat} {g : G} {v : Value} {x : V} (h : VRel σ g v x) (hx : x.notTup = true) : ∀ y ∈ x.cells, y.isCell = true := by
  cases h with
  | agg hl hc h => exact hc
  | tup => simp [V.notTup] at hx
  | _ => simp [V.cells, V.isCell]

/-- The frozen cells of a block lie beyond its n cells. -/
def nf (fr : Nat × Nat) (n : Nat) : Prop := ∀ p, p < n → ¬ (fr.1 ≤ p ∧ p < fr.2)

/-- A block of cells as the entities own it. -/
structure Own (g : G) (w : World) (id b lim : Nat) (cs : Array Value) : Prop where
  own : g.own b = some id
  heap : ∃ t fr, w.heap[b]? = some (.cells cs t fr) ∧ nf fr cs.size
  size : cs.size = lim

inductive EntRel (σ : Nat → Nat) (g : G) (w : World) (id : Nat) : Ent → Prop where
  | obj {cells : List V} (h : ∀ b base k lim, g.blk id 0 = some (b, base, k, lim) → base = 0 ∧ (∀ p, g.fix b p = none) ∧ ∃ cs, Own g w id b lim cs ∧ cs.size = cells.length ∧
      (∀ y ∈ cells, y.isCell = true) ∧ ∀ (i : Nat) v x, cs[i]? = some v → cells[i]? = some x → VRel σ g v x) : EntRel σ g w id (.obj cells)
  | row {xs : List V} (h : ∀ b base k lim, g.blk id 0 = some (b, base, k, lim) → (∀ p, g.fix b p = none) ∧ base + xs.length * k ≤ lim ∧
      (∀ x ∈ xs, x.cells.length = k) ∧ (∀ x ∈ xs, x.notTup = true ∧ ∀ y ∈ x.cells, y.isCell = true) ∧
      ∃ cs, Own g w id b lim cs ∧ ∀ (i j : Nat) x y, xs[i]? = some x → x.cells[j]? = some y → ∃ v, cs[base + i * k + j]? = some v ∧ VRel σ g v y) : EntRel σ g w id (.row xs)
  | tip {gn n kk} (h : ∀ b base k lim, g.blk id gn = some (b, base, k, lim) → k = kk ∧ base + n * k ≤ lim ∧ (∀ p, p < base ∨ base + n * k ≤ p → g.fix b p = none) ∧ ∃ cs, Own g w id b lim cs) : EntRel σ g w id (.tip gn n kk)
  | siter {l pos} (h : ∀ b base k lim, g.blk id 0 = some (b, base, k, lim) → g.own b = some id ∧ ∃ s, bytesOf s = l ∧ w.heap[b]? = some (.stringIter s pos)) : EntRel σ g w id (.siter l pos)
  | map {es : List (V × V)} (h : ∀ b base k lim, g.blk id 0 = some (b, base, k, lim) → g.own b = some id ∧ ∃ (entries : Array MapEntry) (clock : Nat), w.heap[b]? = some (.map entries clock) ∧ entries.size = es.length ∧
      ∀ (i : Nat) e x, entries[i]? = some e → es[i]? = some x → VRel σ g e.key x.1 ∧ VRel σ g e.val x.2) : EntRel σ g w id (.map es)

structure Sim (σ : Nat → Nat) (g : G) (s : St) (w : World) : Prop where
  fixc : ∀ b p v, g.fix b p = some v → w.cell? ⟨b, p, none⟩ = some v
  ent : ∀ id e, s.mem id = some e → EntRel σ g w id e
  lt : ∀ id e, s.mem id = some e → id < s.next
  blt : ∀ id n x, g.blk id n = some x → id < s.next
  gens : ∀ id gn n k m, s.mem id = some (.tip gn n k) → gn < m → g.blk id m = none
  own : ∀ b, w.heap.size ≤ b → g.own b = none
  back : ∀ id n b base k lim, g.blk id n = some (b, base, k, lim) → b < w.heap.size

/-- What a step leaves alone: blocks that no entity owns, the streams, the tape. -/
structure Keep (g : G) (w : World) (g' : G) (w' : World) : Prop where
  le : G.Le g g'
  own : ∀ b, b < w.heap.size → g.own b = none → g'.own b = none ∧ w'.heap[b]? = w.heap[b]?
  size : w.heap.size ≤ w'.heap.size
  os : w'.os = w.os
  tape : w'.tape = w.tape
  output : w'.output = w.output
  drawn : w.drawn ≤ w'.drawn

theorem Keep.refl (g : G) (w : World) : Keep g w g w := ⟨G.Le.refl g, fun _ _ h => ⟨h, rfl⟩, Nat.le_refl _, rfl, rfl, rfl, Nat.le_refl _⟩
theorem Keep.trans {g₁ g₂ g₃ : G} {a b c : World} (h : Keep g₁ a g₂ b) (k : Keep g₂ b g₃ c) : Keep g₁ a g₃ c :=
  ⟨h.le.trans k.le, fun x hx hn => let ⟨h1, h2⟩ := h.own x hx hn; let ⟨k1, k2⟩ := k.own x (Nat.lt_of_lt_of_le hx h.size) h1; ⟨k1, k2.trans h2⟩,
    Nat.le_trans h.size k.size, k.os.trans h.os, k.tape.trans h.tape, k.output.trans h.output, Nat.le_trans h.drawn k.drawn⟩

/-- A world that differs in nothing but the count of draws. -/
theorem Sim.drawn {σ : Nat → Nat} {g : G} {s : St} {w : World} (h : Sim σ g s w) (n : Nat) : Sim σ g s { w with drawn := n } := by
  refine ⟨h.fixc, fun id e he => ?_, h.lt, h.blt, h.gens, h.own, h.back⟩
  have := h.ent id e he
  cases this with
  | obj h => exact .obj fun b base k lim hb => let ⟨h1, h2, cs, o, r⟩ := h b base k lim hb; ⟨h1, h2, cs, ⟨o.own, o.heap, o.size⟩, r⟩
  | row h => exact .row fun b base k lim hb => let ⟨h1, h2, h3, h4, cs, o, r⟩ := h b base k lim hb; ⟨h1, h2, h3, h4, cs, ⟨o.own, o.heap, o.size⟩, r⟩
  | tip h => exact .tip fun b base k lim hb => let ⟨h0, h1, h2, cs, o⟩ := h b base k lim hb; ⟨h0, h1, h2, cs, ⟨o.own, o.heap, o.size⟩⟩
  | siter h => exact .siter h
  | map h => exact .map h

theorem Keep.draws (g : G) (w : World) (n : Nat) (hn : w.drawn ≤ n) : Keep g w g { w with drawn := n } := ⟨G.Le.refl g, fun _ _ h => ⟨h, rfl⟩, Nat.le_refl _, rfl, rfl, rfl, hn⟩

/-- An entity whose own blocks have not turned. -/
theorem EntRel.keep {σ : Nat → Nat} {g g' : G} {w w' : World} {id : Nat} {e : Ent} (hle : G.Le g g') (hblk : ∀ n, g'.blk id n = g.blk id n)
    (hown : ∀ b, g.own b = some id → g'.own b = some id ∧ (∀ p, g'.fix b p = g.fix b p) ∧ w'.heap[b]? = w.heap[b]?) (h : EntRel σ g w id e) : EntRel σ g' w' id e := by
  cases h with
  | obj h =>
    refine .obj fun b base k lim hb => ?_
    rw [hblk] at hb
    obtain ⟨h1, h2, cs, o, h3, h4, h5⟩ := h b base k lim hb
    obtain ⟨k1, k2, k3⟩ := hown b o.own
    exact ⟨h1, fun p => (k2 p).trans (h2 p), cs, ⟨k1, by rw [k3]; exact o.heap, o.size⟩, h3, h4, fun i v x a c => (h5 i v x a c).mono hle⟩
  | row h =>
    refine .row fun b base k lim hb => ?_
    rw [hblk] at hb
    obtain ⟨h1, h2, h3, h4, cs, o, h5⟩ := h b base k lim hb
    obtain ⟨k1, k2, k3⟩ := hown b o.own
    exact ⟨fun p => (k2 p).trans (h1 p), h2, h3, h4, cs, ⟨k1, by rw [k3]; exact o.heap, o.size⟩, fun i j x y a c => let ⟨v, v1, v2⟩ := h5 i j x y a c; ⟨v, v1, v2.mono hle⟩⟩
  | tip h =>
    refine .tip fun b base k lim hb => ?_
    rw [hblk] at hb
    obtain ⟨h0, h1, h2, cs, o⟩ := h b base k lim hb
    obtain ⟨k1, k2, k3⟩ := hown b o.own
    exact ⟨h0, h1, fun p hp => (k2 p).trans (h2 p hp), cs, ⟨k1, by rw [k3]; exact o.heap, o.size⟩⟩
  | siter h =>
    refine .siter fun b base k lim hb => ?_
    rw [hblk] at hb
    obtain ⟨h1, s, h2, h3⟩ := h b base k lim hb
    obtain ⟨k1, _, k3⟩ := hown b h1
    exact ⟨k1, s, h2, k3.trans h3⟩
  | map h =>
    refine .map fun b base k lim hb => ?_
    rw [hblk] at hb
    obtain ⟨h1, es, cl, h2, h3, h4⟩ := h b base k lim hb
    obtain ⟨k1, _, k3⟩ := hown b h1
    exact ⟨k1, es, cl, k3.trans h2, h3, fun i e x a c => let ⟨u1, u2⟩ := h4 i e x a c; ⟨u1.mono hle, u2.mono hle⟩⟩

/-- An entity none of whose blocks is known. -/
theorem EntRel.unmapped {σ : Nat → Nat} {g : G} {w : World} {id : Nat} (e : Ent) (h : ∀ n, g.blk id n = none) (hm : ∀ m s, e ≠ .miter m s) : EntRel σ g w id e := by
  cases e with
  | obj => exact .obj fun _ _ _ _ hb => by simp [h] at hb
  | row => exact .row fun _ _ _ _ hb => by simp [h] at hb
  | tip => exact .tip fun _ _ _ _ hb => by simp [h] at hb
  | siter => exact .siter fun _ _ _ _ hb => by simp [h] at hb
  | map => exact .map fun _ _ _ _ hb => by simp [h] at hb
  | miter m s => exact absurd rfl (hm m s)

end Go.VS
