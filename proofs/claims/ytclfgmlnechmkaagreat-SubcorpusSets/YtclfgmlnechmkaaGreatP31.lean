/-
  Part 31 of 43 of the proof of SubcorpusSetsSaid, by an abstract machine that stands in for the Go program: lemmas without conditions of their own.
-/
import Derived.Test.YtclfgmlnechmkaaGreatP27
set_option linter.unusedSimpArgs false
set_option linter.unusedVariables false
namespace Go.VS

variable {P : Program} {σ : Nat → Nat} {g g' : G} {s s' : St} {w w' : World}

theorem appn_run {t u ty e k m : Nat} {ik : IntKind} {i : TypeInfo} {zv : Value} (ht : P.underlying t = some (.slice e)) (hu : P.underlying u = some (.int ik)) (hi : P.info? e = some i) (hk : i.size = k) (hz : i.zero = some zv)
    (hm : 0 < m) (hm2 : m ≤ most) (hb : i.bytes ≤ 4096) :
    (Builtin.append_ #[t, u] ty #[.slice none 0 0, .int .i64 m]).run P w =
      .ok (.slice (some ⟨w.heap.size, 0, none⟩) m (grownCap w m 0 e))
        (w.drew.alloc (.cells ((if m * k = 0 then #[] else Builtin.zeroCells zv.cells m) ++ Builtin.zeroCells zv.cells (grownCap w m 0 e - m)) e)) := by
  unfold most at hm2
  have h1 : IntKind.i64.wrap (m : Int) = m := by simp [IntKind.wrap, IntKind.signed, IntKind.bits]; omega
  have h2 : ¬ ((m : Int) < 0) := by omega
  have h3 : ¬ (281474976710656 < (m : Int) * (i.bytes : Int)) := by
    have : m * i.bytes ≤ 1073741824 * 4096 := Nat.mul_le_mul hm2 hb
    have : ((m * i.bytes : Nat) : Int) ≤ ((1073741824 * 4096 : Nat) : Int) := Int.ofNat_le.2 this
    rw [Int.natCast_mul] at this
    omega
  have hn : ¬ (m ≤ 0) := by omega
  have h63' : ¬ (9223372036854775807 < (m : Int)) := by omega
  have hfit := growslice_fits (old := 0) (need := m) (bytes := i.bytes) (by omega) (Nat.le_trans (Nat.mul_le_mul hm2 hb) (by omega))
  have h48' : ¬ (281474976710656 < Builtin.nextslicecap m 0 * i.bytes) := by omega
  by_cases h0 : m * k = 0
  · have h0' : m = 0 ∨ k = 0 := Nat.mul_eq_zero.1 h0
    simp [Builtin.append_, run_underlying ht, run_underlying hu, sizeOf, typeInfo, zeroValue, hi, hk, hz, asInt, asIntOf, h1, h2, h3, hn, h63', h48', Question.forced, newRow, grownCap, Builtin.firstCells, h0, h0']
    omega
  · have h0' : ¬ (m = 0 ∨ k = 0) := fun h => h0 (Nat.mul_eq_zero.2 h)
    simp [Builtin.append_, run_underlying ht, run_underlying hu, sizeOf, typeInfo, zeroValue, hi, hk, hz, asInt, asIntOf, h1, h2, h3, hn, h63', h48', Question.forced, newRow, grownCap, Builtin.firstCells, h0, h0']
    omega

theorem appn_ok {t u ty e k m : Nat} {ik : IntKind} {i : TypeInfo} {zv : Value} (h : Sim σ g s w) (ht : P.underlying t = some (.slice e)) (hu : P.underlying u = some (.int ik)) (hi : P.info? e = some i) (hk : i.size = k)
    (hz : i.zero = some zv) (hzk : zv.cells.size = k) (hm : 0 < m) (hm2 : m ≤ most) (hb : i.bytes ≤ 4096) :
    Good σ g w ((Builtin.append_ #[t, u] ty #[.slice none 0 0, .int .i64 m]).run P w) (.row s.next k 0 m) (s.new (.row [])) := by
  have hrun := appn_run (P := P) (w := w) (ty := ty) ht hu hi hk hz hm hm2 hb
  have hge := grown_ge w m 0 e
  have hs : ((if m * k = 0 then #[] else Builtin.zeroCells zv.cells m) ++ Builtin.zeroCells zv.cells (grownCap w m 0 e - m)).size = grownCap w m 0 e * k := by
    have e1 : (if m * k = 0 then #[] else Builtin.zeroCells zv.cells m).size = m * k := by
      split
      · rename_i h0; rw [h0]; rfl
      · exact zeroCells_size hzk
    rw [Array.size_append, e1, zeroCells_size hzk, ← Nat.add_mul]
    congr 1; omega
  obtain ⟨g', a1, a2, a3⟩ := h.drew.newRow (xs := []) (k := k) (cap := grownCap w m 0 e) e (nf_zero _) hs (by simp) (fun x hx => by simp at hx) (fun x hx => by simp at hx) (fun i j x y hx => by simp at hx)
  refine ⟨_, _, g', hrun, ?_, (Keep.draws g w _ (Nat.le_succ _)).trans a2, a3⟩
  obtain ⟨b, p, cap, e1, _, e3⟩ := vrel_cap a1
  cases e1
  exact .row hge e3

end Go.VS
