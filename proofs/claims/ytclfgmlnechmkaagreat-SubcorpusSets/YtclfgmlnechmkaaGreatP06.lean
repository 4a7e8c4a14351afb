/-
  Part 6 of 43 of the proof of SubcorpusSetsSaid, by an abstract machine that stands in for the Go program: lemmas without conditions of their own.
-/
import Derived.Test.YtclfgmlnechmkaaGreatP05
set_option linter.unusedSimpArgs false
set_option linter.unusedVariables false
namespace Go.VS

theorem w64 {x : Int} (h : -9223372036854775808 ≤ x) (k : x < 9223372036854775808) : IntKind.i64.wrap x = x := by
  simp [IntKind.wrap, IntKind.signed, IntKind.bits]
  omega

variable {s : St}
theorem ldm_ptr {k o off : Nat} {ag : Bool} : loadV k ag (.ptr o off) s = match s.mem o with | some (.obj cs) => getCells cs off k ag | _ => none := by
  simp only [loadV]; cases s.mem o with
  | none => rfl
  | some e => cases e <;> rfl
theorem stm_ptr {k o off : Nat} {x : V} :
    storeV k (.ptr o off) x s = if x.cells.length = k then (if x.notTup = true then (match s.mem o with | some (.obj cs) => if off + k ≤ cs.length then some (s.set o (.obj (setCells cs off x.cells))) else none | _ => none) else none) else none := by
  cases h : s.mem o with
  | none => by_cases h1 : x.cells.length = k <;> by_cases h2 : x.notTup = true <;> simp [storeV, h, h1, h2]
  | some e =>
    cases e with
    | obj cs => rw [st_ptr h]
    | _ => by_cases h1 : x.cells.length = k <;> by_cases h2 : x.notTup = true <;> simp [storeV, h, h1, h2]

/-- Where a slice's cells lie: for pointers into it. -/
def V.pc : V → Nat | .sl c _ _ _ => c | _ => 0
def V.pg : V → Nat | .sl _ g _ _ => g | _ => 0
def V.po : V → Nat | .sl _ _ o _ => o | _ => 0

theorem IsL.ix {v : V} {xs : List V} {i k : Nat} {kk : IntKind} (h : IsL v xs) (hi : i < xs.length) : idxV k v (.int kk (i : Int)) = if xs[i].cells.length = k then some (.cptr v.pc v.pg (v.po + i) 0 xs[i].cells) else none := by
  rcases h with ⟨rfl, rfl⟩ | ⟨c, g, off, rfl⟩
  · simp at hi
  · rw [ix_sl (List.getElem?_eq_getElem hi)]; rfl
theorem IsL.ixm {α : Type} {v : V} {f : α → V} {ys : List α} {i k : Nat} {kk : IntKind} (h : IsL v (ys.map f)) (hi : i < ys.length) : idxV k v (.int kk (i : Int)) = if (f ys[i]).cells.length = k then some (.cptr v.pc v.pg (v.po + i) 0 (f ys[i]).cells) else none := by
  rw [h.ix (by rw [List.length_map]; exact hi), List.getElem_map]
theorem IsL.ixz {α : Type} {v : V} {f : α → V} {ys : List α} {k : Nat} {x : Int} {kk : IntKind} (h : IsL v (ys.map f)) (h0 : 0 ≤ x) (hi : x.toNat < ys.length) : idxV k v (.int kk x) = if (f ys[x.toNat]).cells.length = k then some (.cptr v.pc v.pg (v.po + x.toNat) 0 (f ys[x.toNat]).cells) else none := by
  rw [← h.ixm (kk := kk) hi]
  congr 2
  omega
theorem IsL.lenm {α : Type} {v : V} {f : α → V} {ys : List α} (h : IsL v (ys.map f)) : lenV v = some ys.length := by
  rw [h.len, List.length_map]
theorem IsL.cells {v : V} {xs : List V} (h : IsL v xs) : v.cells = [v] := h.cells1

/-- Part of a slice. -/
theorem IsL.slice {v : V} {xs : List V} {k l h : Nat} (hv : IsL v xs) (hw : wOk k xs = true) (h1 : l ≤ h) (h2 : h ≤ xs.length) : ∃ u, sliceV k v (some (.int .i64 (l : Int))) (some (.int .i64 (h : Int))) none s = some (u, s) ∧ IsL u ((xs.take h).drop l) := by
  rcases hv with ⟨rfl, rfl⟩ | ⟨c, g, off, rfl⟩
  · simp at h2
    subst h2
    simp at h1
    subst h1
    exact ⟨.nilsl, by simp [sliceV, lenV, asIdx], .inl ⟨rfl, by simp⟩⟩
  · exact ⟨.sl c g (off + l) ((xs.take h).drop l), by simp [sliceV, lenV, asIdx, h1, h2, hw], .sl⟩

section
variable {T : Nat → Option FnDef} {F : Frame} {K : Frame → St → Prop} {r : List Lo} {Q : Post}

/-- A guarded operation whose guard is not known yet. -/
def GC (T : Nat → Option FnDef) (b w : Bool) (l : Lo) (r : List Lo) (F : Frame) (s : St) (K : Frame → St → Prop) : Prop := if b = w then D T (.ops (l :: r) F s K) else D T (.ops r (F.putO l.d V.undef) s K)
theorem GC_tt {l : Lo} : GC T true true l r F s K = D T (.ops (l :: r) F s K) := if_pos rfl
theorem GC_ff {l : Lo} : GC T false false l r F s K = D T (.ops (l :: r) F s K) := if_pos rfl
theorem GC_tf {d : Option Nat} {op : VOp} {g : Option (Nat × Bool)} {chk : List Chk} : GC T true false ⟨d, op, g, chk⟩ r F s K = D T (.ops r (F.putO d V.undef) s K) := if_neg (by simp)
theorem GC_ft {d : Option Nat} {op : VOp} {g : Option (Nat × Bool)} {chk : List Chk} : GC T false true ⟨d, op, g, chk⟩ r F s K = D T (.ops r (F.putO d V.undef) s K) := if_neg (by simp)
theorem GC_case_t {b : Bool} {l : Lo} (h1 : b = true → GC T true true l r F s K) (h2 : b = false → GC T false true l r F s K) : GC T b true l r F s K := by
  cases b
  · exact h2 rfl
  · exact h1 rfl
theorem GC_case_f {b : Bool} {l : Lo} (h1 : b = false → GC T false false l r F s K) (h2 : b = true → GC T true false l r F s K) : GC T b false l r F s K := by
  cases b
  · exact h1 rfl
  · exact h2 rfl
theorem X_gm {d : Option Nat} {op : VOp} {g : Nat} {w : Bool} {chk : List Chk} :
    D T (.ops (⟨d, op, some (g, w), chk⟩ :: r) F s K) = (match F g with | .bool b => GC T b w ⟨d, op, none, chk⟩ r F s K | _ => D T (.ops r (F.putO d V.undef) s K)) := by
  cases hg : F g with
  | bool b => exact X_guard hg
  | _ =>
    simp only
    refine propext ⟨fun h => ?_, fun h => .skipped (by simp [Lo.wanted, hg]) h⟩
    cases h with
    | skipped hw h => exact h
    | step hw => simp [Lo.wanted, hg] at hw
    | frz hw => simp [Lo.wanted, hg] at hw
    | frzc hw => simp [Lo.wanted, hg] at hw
    | call hw => simp [Lo.wanted, hg] at hw

theorem seqK_n {d : Frame → St → Prop} : seqK d Q .normal F s = d F s := rfl
theorem seqK_r {d : Frame → St → Prop} : seqK d Q .ret F s = Q .ret F s := rfl
theorem seqK_e {d : Frame → St → Prop} {m : Nat} : seqK d Q (.exit m) F s = Q (.exit m) F s := rfl
theorem blockK_n {n : Nat} : blockK n Q .normal F s = Q .normal F s := rfl
theorem blockK_r {n : Nat} : blockK n Q .ret F s = Q .ret F s := rfl
theorem blockK_e {n m : Nat} : blockK n Q (.exit m) F s = if m = n then Q .normal F s else Q (.exit m) F s := by
  simp only [blockK]
  by_cases h : m = n
  · subst h; simp
  · rw [if_neg h, show Nat.beq m n = false by rw [Bool.eq_false_iff, ne_eq, Nat.beq_eq]; exact h]; rfl
theorem rangeK_n {b0 b1 : Nat} {I : Frame → St → Prop} : rangeK b0 b1 I Q .normal F s = I F s := rfl
theorem rangeK_r {b0 b1 : Nat} {I : Frame → St → Prop} : rangeK b0 b1 I Q .ret F s = Q .ret F s := rfl
theorem rangeK_e {b0 b1 m : Nat} {I : Frame → St → Prop} : rangeK b0 b1 I Q (.exit m) F s = if m = b1 then I F s else if m = b0 then Q .normal F s else Q (.exit m) F s := rfl
theorem retR_n {res : List ResV} {K : V → St → Prop} : retR res K .normal F s = match resAll F s res with | some l => K (resV l) s | none => False := rfl
theorem retR_r {res : List ResV} {K : V → St → Prop} : retR res K .ret F s = match resAll F s res with | some l => K (resV l) s | none => False := rfl

theorem ite_case {p : Prop} [Decidable p] {A B : Prop} (h1 : p → A) (h2 : ¬ p → B) : if p then A else B := by
  by_cases h : p
  · rw [if_pos h]; exact h1 h
  · rw [if_neg h]; exact h2 h

theorem W.bs {n : Nat} {a b : Code} (h : D T (.code (.seq a b) F s (blockK n Q))) : D T (.code (.block n (.seq a b)) F s Q) := .block h
theorem W.bo {n : Nat} {l : List Lo} (h : D T (.code (.ops l) F s (blockK n Q))) : D T (.code (.block n (.ops l)) F s Q) := .block h
theorem W.bc {n : Nat} {c : Opd} {a b : Code} (h : D T (.code (.cond c a b) F s (blockK n Q))) : D T (.code (.block n (.cond c a b)) F s Q) := .block h
theorem W.sbs {n : Nat} {a b c : Code} (h : D T (.code (.seq a b) F s (blockK n (seqK (fun F s => D T (.code c F s Q)) Q)))) : D T (.code (.seq (.block n (.seq a b)) c) F s Q) := W.seq (.block h)
theorem W.sbo {n : Nat} {l : List Lo} {c : Code} (h : D T (.code (.ops l) F s (blockK n (seqK (fun F s => D T (.code c F s Q)) Q)))) : D T (.code (.seq (.block n (.ops l)) c) F s Q) := W.seq (.block h)
theorem W.sbc {n : Nat} {x : Opd} {a b c : Code} (h : D T (.code (.cond x a b) F s (blockK n (seqK (fun F s => D T (.code c F s Q)) Q)))) : D T (.code (.seq (.block n (.cond x a b)) c) F s Q) := W.seq (.block h)
/-- A loop in its block, with a measure. -/
theorem W.bloop {b : Nat} {a : Code} {F0 : Frame} {s0 : St} (I : Nat → Frame → St → Prop) (n : Nat) (h0 : I n F0 s0)
    (hr : ∀ n F s, (∀ r, a.wr r = false → F r = F0 r) → I n F s → D T (.code a F s (seqK (fun F' s' => ∃ m, m < n ∧ I m F' s') (blockK b Q)))) : D T (.code (.block b (.loop a)) F0 s0 Q) :=
  .block (W.loopF I n h0 hr)
theorem W.sskip {c : Code} (h : D T (.code c F s Q)) : D T (.code (.seq .skip c) F s Q) := W.seq (.skip h)
theorem St.LeW.mem0 {s s' : St} (h : St.Le s s') {i : Nat} (hi : i < s.next) : s'.mem i = s.mem i := h.2 i hi (by simp)
theorem mem_new_at {s : St} {e : Ent} {j : Nat} (h : j = s.next) : (s.new e).mem j = some e := by rw [mem_new', if_pos h]
theorem mem_new_ne {s : St} {e : Ent} {j : Nat} (h : j ≠ s.next) : (s.new e).mem j = s.mem j := by rw [mem_new', if_neg h]
theorem mem_set_at {s : St} {e : Ent} {i j : Nat} (h : j = i) : (s.set i e).mem j = some e := by rw [mem_set', if_pos h]
theorem mem_set_ne {s : St} {e : Ent} {i j : Nat} (h : j ≠ i) : (s.set i e).mem j = s.mem j := by rw [mem_set', if_neg h]
theorem mem_kill_ne {s : St} {i j : Nat} (h : j ≠ i) : (s.kill i).mem j = s.mem j := by rw [mem_kill', if_neg h]
theorem St.Le.new_ {s0 s : St} {e : Ent} (h : St.Le s0 s) : St.Le s0 (s.new e) := h.trans (St.LeW.new _ _ _)
theorem St.Le.set_ {s0 s : St} {i : Nat} {e : Ent} (h : St.Le s0 s) (hi : s0.next ≤ i) : St.Le s0 (s.set i e) :=
  ⟨h.1, fun id hd hw => by rw [mem_set', if_neg (by omega)]; exact h.2 id hd hw⟩
theorem St.Le.kill_ {s0 s : St} {i : Nat} (h : St.Le s0 s) (hi : s0.next ≤ i) : St.Le s0 (s.kill i) :=
  ⟨h.1, fun id hd hw => by rw [mem_kill', if_neg (by omega)]; exact h.2 id hd hw⟩
theorem St.Le.of_new {s0 s : St} {e : Ent} (h : St.Le (s0.new e) s) : St.Le s0 s := (St.LeW.new _ _ _).trans h
/-- Elements of a slice at an integer. -/
theorem IsL.ixi {v : V} {xs : List V} {k : Nat} {x : Int} {kk : IntKind} (h : IsL v xs) (h0 : 0 ≤ x) (hi : x.toNat < xs.length) : idxV k v (.int kk x) = if xs[x.toNat].cells.length = k then some (.cptr v.pc v.pg (v.po + x.toNat) 0 xs[x.toNat].cells) else none := by
  rw [← h.ix (kk := kk) hi]
  congr 2
  omega
theorem eq_sb (a c : List Nat) (b d : Bool) : eqV (.agg [.s, .b]) (.agg [.str a, .bool b]) (.agg [.str c, .bool d]) = some (decide (a = c ∧ b = d)) := by
  have e1 : (a == c) = decide (a = c) := by by_cases h : a = c <;> simp [h]
  have e2 : (b == d) = decide (b = d) := by by_cases h : b = d <;> simp [h]
  simp only [eqV, cellsEq, scalarEq, e1, e2]
  by_cases h : a = c <;> by_cases k : b = d <;> simp only [h, k, decide_true, decide_false, and_true, and_false, and_self, false_and]
theorem eq_bb (b d : Bool) : eqV .bool (.bool b) (.bool d) = some (b == d) := rfl
/-- X, where nothing that was there has changed, as δ grew from it. -/
def St.over (X δ : St) : St := ⟨δ.next, fun i => if i < X.next then X.mem i else δ.mem i⟩
theorem next_over (X δ : St) : (X.over δ).next = δ.next := by cases δ; rfl
theorem nx_new (s : St) (e : Ent) : (s.new e).next = s.next + 1 := by cases s; rfl
theorem nx_set (s : St) (i : Nat) (e : Ent) : (s.set i e).next = s.next := by cases s; rfl
theorem nx_kill (s : St) (i : Nat) : (s.kill i).next = s.next := by cases s; rfl
theorem mem_over {X δ : St} {i : Nat} (h : i < X.next) : (X.over δ).mem i = X.mem i := by simp only [St.over]; rw [if_pos h]
abbrev St.Gr (s s' : St) : Prop := ∃ δ : St, s.next ≤ δ.next ∧ s' = s.over δ
theorem St.LeW.gr {s s' : St} (h : St.Le s s') : St.Gr s s' := by
  refine ⟨s', h.1, ?_⟩
  cases s' with
  | mk n m =>
    simp only [St.over]
    congr 1
    funext i
    by_cases hi : i < s.next
    · rw [if_pos hi]; exact h.2 i hi (by simp)
    · rw [if_neg hi]
theorem St.Le.over_ {s0 X δ : St} (h : St.Le s0 X) (hd : X.next ≤ δ.next) : St.Le s0 (X.over δ) :=
  h.trans ⟨hd, fun i hi _ => mem_over hi⟩
theorem St.Gr.refl (s : St) : St.Gr s s := (St.LeW.refl _ _).gr
theorem St.Gr.le {s s' : St} (h : St.Gr s s') : St.Le s s' := by
  obtain ⟨δ, hd, rfl⟩ := h
  exact St.Le.over_ (St.LeW.refl _ _) hd
/-! ### parts of slices -/
def V.sub (v : V) (l h : Nat) : V := match v with | .sl c g off xs => .sl c g (off + l) ((xs.take h).drop l) | v => v
theorem IsL.sub {v : V} {xs : List V} (hv : IsL v xs) (l h : Nat) : IsL (v.sub l h) ((xs.take h).drop l) := by
  rcases hv with ⟨rfl, rfl⟩ | ⟨c, g, off, rfl⟩
  · exact .inl ⟨rfl, by simp⟩
  · exact .inr ⟨c, g, off + l, rfl⟩
theorem IsL.sl_ab {v : V} {xs : List V} {k l h : Nat} {k1 k2 : IntKind} (hv : IsL v xs) (hw : wOk k xs = true) (h1 : l ≤ h) (h2 : h ≤ xs.length) : sliceV k v (some (.int k1 (l : Int))) (some (.int k2 (h : Int))) none s = some (v.sub l h, s) := by
  rcases hv with ⟨rfl, rfl⟩ | ⟨c, g, off, rfl⟩
  · simp at h2
    subst h2
    simp at h1
    subst h1
    simp [sliceV, lenV, asIdx, V.sub]
  · simp [sliceV, lenV, asIdx, h1, h2, hw, V.sub]
theorem IsL.sl_b {v : V} {xs : List V} {k h : Nat} {k2 : IntKind} (hv : IsL v xs) (hw : wOk k xs = true) (h2 : h ≤ xs.length) : sliceV k v none (some (.int k2 (h : Int))) none s = some (v.sub 0 h, s) := by
  rcases hv with ⟨rfl, rfl⟩ | ⟨c, g, off, rfl⟩
  · simp at h2
    subst h2
    simp [sliceV, lenV, asIdx, V.sub]
  · simp [sliceV, lenV, asIdx, h2, hw, V.sub]
theorem IsL.sl_a {v : V} {xs : List V} {k l : Nat} {k1 : IntKind} (hv : IsL v xs) (hw : wOk k xs = true) (h1 : l ≤ xs.length) : sliceV k v (some (.int k1 (l : Int))) none none s = some (v.sub l xs.length, s) := by
  rcases hv with ⟨rfl, rfl⟩ | ⟨c, g, off, rfl⟩
  · simp at h1
    subst h1
    simp [sliceV, lenV, asIdx, V.sub]
  · simp [sliceV, lenV, asIdx, h1, hw, V.sub]
theorem sl_str_ab {k : Nat} {l : List Nat} {a b : Nat} {k1 k2 : IntKind} (h1 : a ≤ b) (h2 : b ≤ l.length) : sliceV k (.str l) (some (.int k1 (a : Int))) (some (.int k2 (b : Int))) none s = some (.str ((l.take b).drop a), s) := by
  simp [sliceV, lenV, asIdx, h1, h2]
theorem wOk_of {k : Nat} {xs : List V} (h : ∀ x ∈ xs, x.cells.length = k) : wOk k xs = true := by
  cases xs with
  | nil => rfl
  | cons x r => simpa [wOk] using h x (by simp)

/-! ### slices under construction -/
/-- A slice at the end of its row, which is newer than S0. -/
def Tip0 (S0 s : St) (v : V) (k : Nat) (xs : List V) : Prop := IsTip s v k xs ∧ ∀ i ∈ v.own, S0.next ≤ i
theorem Tip0.isL {S0 s : St} {v : V} {k : Nat} {xs : List V} (h : Tip0 S0 s v k xs) : IsL v xs := h.1.isL
theorem Tip0.nil {S0 s : St} {k : Nat} : Tip0 S0 s .nilsl k [] := ⟨.inl ⟨rfl, rfl⟩, by simp [V.own]⟩
theorem Tip0.le_ {S0 s s' : St} {v : V} {k : Nat} {xs : List V} (h : Tip0 S0 s v k xs) (hl : St.Le s s') : Tip0 S0 s' v k xs := ⟨h.1.mono hl, h.2⟩
theorem Tip0.new_ {S0 s : St} {v : V} {k : Nat} {xs : List V} {e : Ent} (h : Tip0 S0 s v k xs) : Tip0 S0 (s.new e) v k xs := h.le_ (St.LeW.new _ _ _)
theorem Tip0.over_ {S0 s δ : St} {v : V} {k : Nat} {xs : List V} (h : Tip0 S0 s v k xs) (hd : s.next ≤ δ.next) : Tip0 S0 (s.over δ) v k xs := h.le_ (St.Le.over_ (St.LeW.refl _ _) hd)
theorem Tip0.set_ {S0 s : St} {v : V} {k i : Nat} {xs : List V} {e : Ent} {cs : List V} (h : Tip0 S0 s v k xs) (hi : s.mem i = some (.obj cs)) : Tip0 S0 (s.set i e) v k xs := by
  refine ⟨h.1.imp id fun ⟨c, g, h1, h2, h3⟩ => ⟨c, g, h1, h2, ?_⟩, h.2⟩
  rw [mem_set', if_neg]
  · exact h3
  · rintro rfl
    rw [h3] at hi
    simp at hi
/-- Objects and rows are as they were. -/
def St.ovo (s δ : St) : St := ⟨δ.next, fun i => if i < s.next then (match s.mem i with | some (.obj cs) => some (.obj cs) | some (.row xs) => some (.row xs) | _ => δ.mem i) else δ.mem i⟩
theorem nx_ovo (s δ : St) : (s.ovo δ).next = δ.next := by cases δ; rfl
theorem mem_ovo {s δ : St} {i : Nat} (h : i < s.next) : (s.ovo δ).mem i = match s.mem i with | some (.obj cs) => some (.obj cs) | some (.row xs) => some (.row xs) | _ => δ.mem i := by simp only [St.ovo]; rw [if_pos h]

theorem X_app {S0 : St} {d k by_ : Nat} {x y : Opd} {xs ys : List V} (ht : Tip0 S0 s (x.ev F) k xs) (hle : St.Le S0 s) (hw : elems (y.ev F) s = some ys) (hr : rowOk (y.ev F) k = true) (h1 : wOk k ys = true) (h2 : wOk k xs = true) (hl : xs.length + ys.length ≤ most) (hb : by_ ≤ 4096)
    (h : ∀ v' δ, Tip0 S0 (s.ovo δ) v' k (xs ++ ys) → St.Le S0 (s.ovo δ) → s.next ≤ δ.next → D T (.ops r (F.put d v') (s.ovo δ) K)) : D T (.ops (⟨some d, .append false k by_ x y, none, []⟩ :: r) F s K) := by
  obtain ⟨v', s', e, ht', hlw, hown⟩ := append_tip ht.1 hw hr h1 h2 hl hb
  have hs : s' = s.ovo s' := by
    cases hs' : s' with
    | mk n m =>
      subst hs'
      simp only [St.ovo]
      congr 1
      funext i
      by_cases hi : i < s.next
      · rw [if_pos hi]
        cases hm : s.mem i with
        | none => rfl
        | some en =>
          have key : (∀ g n k', en ≠ .tip g n k') → m i = some en := by
            intro hne
            rw [← hm]
            refine hlw.2 i hi fun hio => ?_
            rcases ht.1 with ⟨hv, _⟩ | ⟨c, g, hv, hc, hmc⟩
            · rw [hv] at hio; simp [V.own] at hio
            · rw [hv] at hio
              simp [V.own] at hio
              subst hio
              rw [hmc] at hm
              injection hm with hm
              exact hne _ _ _ hm.symm
          cases en with
          | obj cs => exact key (by simp)
          | row xs => exact key (by simp)
          | _ => rfl
      · rw [if_neg hi]
  rw [X_append]
  simp only [opS, e]
  rw [hs]
  rw [hs] at ht' hlw
  refine h v' s' ⟨ht', fun i hi => ?_⟩ ?_ hlw.1
  · rcases hown i hi with h1 | h1
    · exact ht.2 i h1
    · exact Nat.le_trans hle.1 h1
  · refine ⟨Nat.le_trans hle.1 hlw.1, fun i hi hw => ?_⟩
    rw [hlw.2 i (Nat.lt_of_lt_of_le hi hle.1) (fun hio => ?_)]
    · exact hle.2 i hi hw
    · have := ht.2 i hio
      omega
theorem asIdx_i {k : IntKind} {n : Int} (h : 0 ≤ n) : asIdx (.int k n) = some n.toNat := by simp [asIdx, h]
theorem ldm_eptr {k r' kk i off : Nat} {ag : Bool} : loadV k ag (.eptr r' kk i off) s = match s.mem r' with | some (.row xs) => (match xs[i]? with | some x => if x.cells.length = kk then getCells x.cells off k ag else none | none => none) | _ => none := by
  simp only [loadV]
  cases h : s.mem r' with
  | none => rfl
  | some e =>
    cases e with
    | row xs => simp only; cases xs[i]? <;> rfl
    | _ => rfl
theorem stm_eptr {k r' kk i off : Nat} {x : V} : storeV k (.eptr r' kk i off) x s =
    match s.mem r' with
    | some (.row xs) =>
      (match xs[i]? with
      | some y => if x.cells.length = k then (if x.notTup = true then (if y.cells.length = kk then (if off + k ≤ kk then (match putElem y off x with | some z => some (s.set r' (.row (xs.set i z))) | none => none) else none) else none) else none) else none
      | none => none)
    | _ => none := by
  cases h : s.mem r' with
  | none => by_cases h1 : x.cells.length = k <;> by_cases h2 : x.notTup = true <;> simp [storeV, h, h1, h2]
  | some e =>
    cases e with
    | row xs =>
      cases hy : xs[i]? with
      | none => by_cases h1 : x.cells.length = k <;> by_cases h2 : x.notTup = true <;> simp [storeV, h, hy, h1, h2]
      | some y => rw [st_eptr h hy]; simp only [hy]; rfl
    | _ => by_cases h1 : x.cells.length = k <;> by_cases h2 : x.notTup = true <;> simp [storeV, h, h1, h2]
theorem ix_rowi {k r' off len : Nat} {x : Int} {kk : IntKind} (h0 : 0 ≤ x) (h : x.toNat < len) : idxV k (.row r' k off len) (.int kk x) = some (.eptr r' k (off + x.toNat) 0) := by
  simp [idxV, asIdx, h, h0]
theorem mkrow_m {k by_ n : Nat} {z : V} {k1 k2 : IntKind} (h : n ≤ 100000) (hb : by_ ≤ 4096) : mkrowV true k by_ z (.int k1 (n : Int)) (.int k2 (n : Int)) s = some (.row s.next k 0 n, s.new (.row (List.replicate n z))) := by
  have : n ≤ most := by simp only [most]; omega
  simp [mkrowV, asIdx, this, hb]
/-- What holds in the middle, by name; what was not written is as it was. -/
theorem W.midF {a b : Code} (R : Frame → St → Prop) (ha : D T (.code a F s (seqK R Q))) (hb : ∀ F1 s1, (∀ r, a.wr r = false → F1 r = F r) → R F1 s1 → D T (.code b F1 s1 Q)) : D T (.code (.seq a b) F s Q) := by
  refine W.seq ((D.fr ha).mono_code fun e F1 s1 k => ?_)
  obtain ⟨k1, k2⟩ := k
  cases e with
  | normal => exact hb F1 s1 k2 k1
  | ret => exact k1
  | exit m => exact k1
theorem W.bloopG {b : Nat} {a : Code} {F0 : Frame} {s0 : St} (I : Nat → Frame → St → Prop) (n : Nat) (h0 : I n F0 s0)
    (hr : ∀ n F δ, (∀ r, a.wr r = false → F r = F0 r) → s0.next ≤ δ.next → I n F (s0.over δ) → D T (.code a F (s0.over δ) (seqK (fun F' s' => St.Gr s0 s' ∧ ∃ m, m < n ∧ I m F' s') (blockK b Q)))) : D T (.code (.block b (.loop a)) F0 s0 Q) := by
  refine W.bloop (fun n F s => St.Gr s0 s ∧ I n F s) n ⟨St.Gr.refl _, h0⟩ ?_
  rintro n F s hfr ⟨⟨δ, hd, rfl⟩, hI⟩
  refine (hr n F δ hfr hd hI).mono_code fun e F' s' k => ?_
  cases e with
  | normal => obtain ⟨k1, m, hm, k2⟩ := k; exact ⟨m, hm, k1, k2⟩
  | ret => exact k
  | exit m => exact k
theorem W.bloop0 {b : Nat} {a : Code} {F0 : Frame} {s0 : St} (I : Nat → Frame → Prop) (n : Nat) (h0 : I n F0)
    (hr : ∀ n F, (∀ r, a.wr r = false → F r = F0 r) → I n F → D T (.code a F s0 (seqK (fun F' s' => s0 = s' ∧ ∃ m, m < n ∧ I m F') (blockK b Q)))) : D T (.code (.block b (.loop a)) F0 s0 Q) := by
  refine W.bloop (fun n F s => s0 = s ∧ I n F) n ⟨rfl, h0⟩ ?_
  rintro n F s hfr ⟨rfl, hI⟩
  refine (hr n F hfr hI).mono_code fun e F' s' k => ?_
  cases e with
  | normal => obtain ⟨k1, m, hm, k2⟩ := k; exact ⟨m, hm, k1, k2⟩
  | ret => exact k
  | exit m => exact k
theorem W.rangeG {i n t t2 b0 b1 : Nat} {B : Code} {F0 : Frame} {s0 : St} {N : Nat} (I : Nat → Frame → St → Prop)
    (hi : F0 i = .int .i64 0) (hn : F0 n = .int .i64 N) (hN : N < 4611686018427387904)
    (hreg : (!Nat.beq t n && !Nat.beq n t && !Nat.beq i t && !Nat.beq n i && !Nat.beq n t2 && !B.wr i && !B.wr n && !Nat.beq b0 b1) = true)
    (hst : ∀ k F s x y z, I k F s → I k (((F.put t2 x).put i y).put t z) s)
    (h0 : I 0 F0 s0)
    (step : ∀ k F δ, k < N → (∀ r, rangeWr i t t2 B r = false → F r = F0 r) → F i = .int .i64 k → s0.next ≤ δ.next → I k F (s0.over δ) → D T (.code B F (s0.over δ) (rangeK b0 b1 (fun F s => St.Gr s0 s ∧ I (k + 1) F s) Q)))
    (done : ∀ F δ, (∀ r, rangeWr i t t2 B r = false → F r = F0 r) → s0.next ≤ δ.next → I N F (s0.over δ) → Q .normal F (s0.over δ)) : D T (.code (rangeCode i n t t2 b0 b1 B) F0 s0 Q) := by
  refine W.range (fun k F s => St.Gr s0 s ∧ I k F s) hi hn hN hreg (fun k F s x y z h => ⟨h.1, hst k F s x y z h.2⟩) ⟨St.Gr.refl _, h0⟩ ?_ ?_
  · rintro k F s hk hfr hi ⟨⟨δ, hd, rfl⟩, hI⟩
    exact step k F δ hk hfr hi hd hI
  · rintro F s hfr ⟨⟨δ, hd, rfl⟩, hI⟩
    exact done F δ hfr hd hI
theorem W.range0 {i n t t2 b0 b1 : Nat} {B : Code} {F0 : Frame} {s0 : St} {N : Nat} (I : Nat → Frame → Prop)
    (hi : F0 i = .int .i64 0) (hn : F0 n = .int .i64 N) (hN : N < 4611686018427387904)
    (hreg : (!Nat.beq t n && !Nat.beq n t && !Nat.beq i t && !Nat.beq n i && !Nat.beq n t2 && !B.wr i && !B.wr n && !Nat.beq b0 b1) = true)
    (hst : ∀ k F x y z, I k F → I k (((F.put t2 x).put i y).put t z))
    (h0 : I 0 F0)
    (step : ∀ k F, k < N → (∀ r, rangeWr i t t2 B r = false → F r = F0 r) → F i = .int .i64 k → I k F → D T (.code B F s0 (rangeK b0 b1 (fun F s => s0 = s ∧ I (k + 1) F) Q)))
    (done : ∀ F, (∀ r, rangeWr i t t2 B r = false → F r = F0 r) → I N F → Q .normal F s0) : D T (.code (rangeCode i n t t2 b0 b1 B) F0 s0 Q) := by
  refine W.range (fun k F s => s0 = s ∧ I k F) hi hn hN hreg (fun k F s x y z h => ⟨h.1, hst k F x y z h.2⟩) ⟨rfl, h0⟩ ?_ ?_
  · rintro k F s hk hfr hi ⟨rfl, hI⟩
    exact step k F hk hfr hi hI
  · rintro F s hfr ⟨rfl, hI⟩
    exact done F hfr hI
theorem W.mid0 {a b : Code} (R : Frame → Prop) (ha : D T (.code a F s (seqK (fun F' s' => s = s' ∧ R F') Q))) (hb : ∀ F1, (∀ r, a.wr r = false → F1 r = F r) → R F1 → D T (.code b F1 s Q)) : D T (.code (.seq a b) F s Q) := by
  refine W.midF _ ha ?_
  rintro F1 s1 hfr ⟨rfl, h⟩
  exact hb F1 hfr h
end
end Go.VS
