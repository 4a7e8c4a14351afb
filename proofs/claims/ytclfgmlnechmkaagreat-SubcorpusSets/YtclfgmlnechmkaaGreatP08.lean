/-
  Part 8 of 43 of the proof of SubcorpusSetsSaid, by an abstract machine that stands in for the Go program: lemmas without conditions of their own.
-/
import Derived.Test.YtclfgmlnechmkaaGreatP07
set_option linter.unusedSimpArgs false
set_option linter.unusedVariables false
namespace Go.VS
section
variable {T : Nat → Option FnDef} {F : Frame} {s s' : St} {K : Frame → St → Prop} {r : List Lo} {Q : Post}

theorem T_nil : D T (.tree .nil F s K) = K F s := propext ⟨fun h => by cases h; assumption, fun h => .tnil h⟩
theorem T_fork {a b : Tree} (ha : D T (.tree a F s K)) (hb : D T (.tree b F s K)) : D T (.tree (.fork a b) F s K) := .fork ha hb
theorem ops_cons {l : Lo} (h : D T (.ops (l :: r) F s K)) : D T (.ops [l] F s (fun F s => D T (.ops r F s K))) := by
  cases h with
  | skipped hw h => exact .skipped hw (.nil h)
  | step hw h hc hr => exact .step hw h hc (.nil hr)
  | frz hw h hf hc hd hr => exact .frz hw h hf hc hd (.nil hr)
  | frzc hw h hf hc hd hr => exact .frzc hw h hf hc hd (.nil hr)
  | call hw h hf hcall hc hr => exact .call hw h hf hcall hc fun v s' k => .nil (hr v s' k)
theorem T_app {l : List Lo} {t : Tree} (h : D T (.ops l F s (fun F s => D T (.tree t F s K)))) : D T (.tree (Tree.app l t) F s K) := by
  induction l generalizing F s with
  | nil => cases h with | nil h => exact h
  | cons x xs ih => exact .tcons (ops_cons h) fun F s k => ih k
theorem W.sot {t : Tree} {b : Code} (h : ∀ K : Frame → St → Prop, (∀ F s, D T (.code b F s Q) → K F s) → D T (.tree t F s K)) : D T (.code (.seq (.tree t) b) F s Q) :=
  W.seq (W.tree (h _ fun _ _ h => h))
theorem W.tree' {t : Tree} (h : ∀ K : Frame → St → Prop, (∀ F s, Q .normal F s → K F s) → D T (.tree t F s K)) : D T (.code (.tree t) F s Q) := W.tree (h _ fun _ _ h => h)

theorem X_mksl_c {d : Option Nat} {mt : Bool} {k n : Nat} {z : V} {ps : List (Nat × Opd)} {c : Chk} {cs : List Chk} : D T (.ops (⟨d, .mksl mt k z n ps, none, c :: cs⟩ :: r) F s K) = (match opS (.mksl mt k z n ps) F s with | some (v, s') => AndK (chkAll F s s' (c :: cs)) (D T (.ops r (F.putO d v) s' K)) | none => False) := X_opc rfl
theorem X_alloc_c {d : Option Nat} {z : List V} {c : Chk} {cs : List Chk} : D T (.ops (⟨d, .alloc z, none, c :: cs⟩ :: r) F s K) = (match opS (.alloc z) F s with | some (v, s') => AndK (chkAll F s s' (c :: cs)) (D T (.ops r (F.putO d v) s' K)) | none => False) := X_opc rfl

/-- A string of a constant list. -/
def strAt (xs : List V) (i : Nat) : List Nat := match xs[i]? with | some (.str a) => a | _ => []
def allStr : List V → Bool
  | [] => true
  | .str _ :: r => allStr r
  | _ :: _ => false
theorem strAt_eq {xs : List V} (h : allStr xs = true) {i : Nat} (hi : i < xs.length) : xs[i]? = some (.str (strAt xs i)) := by
  induction xs generalizing i with
  | nil => simp at hi
  | cons x r ih =>
    cases x with
    | str a =>
      cases i with
      | zero => rfl
      | succ i =>
        simp only [List.getElem?_cons_succ, strAt]
        exact ih h (by simpa using hi)
    | _ => simp [allStr] at h
theorem ix_str {c g off : Nat} {xs : List V} {n : Int} {kk : IntKind} (h : allStr xs = true) (h0 : 0 ≤ n) (h1 : n.toNat < xs.length) : idxV 1 (.sl c g off xs) (.int kk n) = some (.cptr c g (off + n.toNat) 0 [.str (strAt xs n.toNat)]) := by
  simp only [idxV, asIdx, h0, if_true, strAt_eq h h1]
  rfl
theorem ix_lit {k c g off : Nat} {xs : List V} {n : Int} {kk : IntKind} (h0 : 0 ≤ n) : idxV k (.sl c g off xs) (.int kk n) = match xs[n.toNat]? with | some x => if x.cells.length = k then some (.cptr c g (off + n.toNat) 0 x.cells) else none | none => none := by
  simp only [idxV, asIdx, h0, if_true]; rfl

/-! ### all but what W names is as it was -/
theorem LeW.new_ {W : List Nat} {s0 s : St} {e : Ent} (h : St.LeW W s0 s) : St.LeW W s0 (s.new e) := h.trans (St.LeW.new _ _ _)
theorem LeW.set_ {W : List Nat} {s0 s : St} {i : Nat} {e : Ent} (h : St.LeW W s0 s) (hi : s0.next ≤ i) : St.LeW W s0 (s.set i e) :=
  ⟨h.1, fun id hd hw => by rw [mem_set', if_neg (by omega)]; exact h.2 id hd hw⟩
theorem LeW.seto {o : Nat} {s0 s : St} {e : Ent} (h : St.LeW [o] s0 s) : St.LeW [o] s0 (s.set o e) :=
  ⟨h.1, fun id hd hw => by rw [mem_set', if_neg (by simpa using hw)]; exact h.2 id hd hw⟩
theorem LeW.kill_ {W : List Nat} {s0 s : St} {i : Nat} (h : St.LeW W s0 s) (hi : s0.next ≤ i) : St.LeW W s0 (s.kill i) :=
  ⟨h.1, fun id hd hw => by rw [mem_kill', if_neg (by omega)]; exact h.2 id hd hw⟩
theorem LeW.over_ {W : List Nat} {s0 X δ : St} (h : St.LeW W s0 X) (hd : X.next ≤ δ.next) : St.LeW W s0 (X.over δ) :=
  h.trans ⟨hd, fun i hi _ => mem_over hi⟩
theorem LeW.ovr_ {W : List Nat} {s0 s δ : St} {w : Nat} (h : St.LeW W s0 s) (hw : s0.next ≤ w) (hd : s.next ≤ δ.next) : St.LeW W s0 (s.ovr w δ) :=
  ⟨Nat.le_trans h.1 hd, fun i hi hh => by rw [mem_ovr (Nat.lt_of_lt_of_le hi h.1) (by omega)]; exact h.2 i hi hh⟩
theorem LeW.ovro {o : Nat} {s0 s δ : St} (h : St.LeW [o] s0 s) (hd : s.next ≤ δ.next) : St.LeW [o] s0 (s.ovr o δ) :=
  ⟨Nat.le_trans h.1 hd, fun i hi hh => by rw [mem_ovr (Nat.lt_of_lt_of_le hi h.1) (by simpa using hh)]; exact h.2 i hi hh⟩
theorem LeW.setm {W : List Nat} {i : Nat} {s0 s : St} {e : Ent} (h : St.LeW W s0 s) (hi : i ∈ W) : St.LeW W s0 (s.set i e) :=
  ⟨h.1, fun id hd hw => by rw [mem_set', if_neg (by rintro rfl; exact hw hi)]; exact h.2 id hd hw⟩
theorem LeW.ovrm {W : List Nat} {o : Nat} {s0 s δ : St} (h : St.LeW W s0 s) (ho : o ∈ W) (hd : s.next ≤ δ.next) : St.LeW W s0 (s.ovr o δ) :=
  ⟨Nat.le_trans h.1 hd, fun i hi hh => by rw [mem_ovr (Nat.lt_of_lt_of_le hi h.1) (by rintro rfl; exact hh ho)]; exact h.2 i hi hh⟩
theorem LeW.of_le {W : List Nat} {s0 s : St} (h : St.Le s0 s) : St.LeW W s0 s := h.weaken (by simp)

/-- The store behind a call that may have drawn from the tape o. -/
def St.tp (s : St) (o : Nat) (lv : V) (a : Nat) (δ : St) : St := (s.ovr o δ).set o (.obj [lv, .int .i64 a])
theorem nx_tp {s : St} {o : Nat} {lv : V} {a : Nat} {δ : St} : (s.tp o lv a δ).next = δ.next := by cases δ; rfl
theorem mem_tp_o {s : St} {o : Nat} {lv : V} {a : Nat} {δ : St} : (s.tp o lv a δ).mem o = some (.obj [lv, .int .i64 a]) := mem_set_at rfl
theorem mem_tp {s : St} {o : Nat} {lv : V} {a : Nat} {δ : St} {i : Nat} (h : i < s.next) (h2 : i ≠ o) : (s.tp o lv a δ).mem i = s.mem i := by
  rw [St.tp, mem_set_ne h2, mem_ovr h h2]
theorem LeW.tp_ {o : Nat} {s0 s δ : St} {lv : V} {a : Nat} (h : St.LeW [o] s0 s) (hd : s.next ≤ δ.next) : St.LeW [o] s0 (s.tp o lv a δ) := LeW.seto (LeW.ovro h hd)
theorem LeW.tpm {W : List Nat} {o : Nat} {s0 s δ : St} {lv : V} {a : Nat} (h : St.LeW W s0 s) (ho : o ∈ W) (hd : s.next ≤ δ.next) : St.LeW W s0 (s.tp o lv a δ) := LeW.setm (LeW.ovrm h ho hd) ho
abbrev St.Tp (s : St) (o : Nat) (lv : V) (s' : St) : Prop := ∃ (a : Nat) (δ : St), a ≤ 1000 ∧ s.next ≤ δ.next ∧ s' = s.tp o lv a δ
theorem LeW.tp {o : Nat} {s s' : St} {lv : V} {a : Nat} (h : St.LeW [o] s s') (ha : a ≤ 1000) (hm : s'.mem o = some (.obj [lv, .int .i64 a])) : St.Tp s o lv s' := by
  refine ⟨a, s', ha, h.1, ?_⟩
  cases s' with
  | mk n m =>
    simp only [St.tp, St.ovr, St.set]
    congr 1
    funext i
    by_cases hi : i = o
    · subst hi; simp at hm ⊢; exact hm
    · rw [show Nat.beq i o = false by rw [Bool.eq_false_iff, ne_eq, Nat.beq_eq]; exact hi]
      by_cases h2 : i < s.next ∧ i ≠ o
      · rw [cond_false, if_pos h2]; exact h.2 i h2.1 (by simpa using h2.2)
      · rw [cond_false, if_neg h2]

/-- The store behind a call that may have drawn from the tape o and has changed the object c. -/
theorem LeW.tpc {o c : Nat} {s s' : St} {lv : V} {a : Nat} {cs : List V} (h : St.LeW [o, c] s s') (hoc : c ≠ o) (hm : s'.mem o = some (.obj [lv, .int .i64 a])) (hc : s'.mem c = some (.obj cs)) : s' = (s.tp o lv a s').set c (.obj cs) := by
  cases s' with
  | mk n m =>
    simp only [St.tp, St.ovr, St.set]
    congr 1
    funext i
    by_cases hi : i = c
    · subst hi; simp at hc ⊢; exact hc
    · rw [show Nat.beq i c = false by rw [Bool.eq_false_iff, ne_eq, Nat.beq_eq]; exact hi, cond_false]
      by_cases hio : i = o
      · subst hio; simp at hm ⊢; exact hm
      · rw [show Nat.beq i o = false by rw [Bool.eq_false_iff, ne_eq, Nat.beq_eq]; exact hio]
        by_cases h2 : i < s.next ∧ i ≠ o
        · rw [cond_false, if_pos h2]; exact h.2 i h2.1 (by simp [hio, hi])
        · rw [cond_false, if_neg h2]

theorem X_appW {W : List Nat} {S0 : St} {d k by_ : Nat} {x y : Opd} {v w : V} {xs ys : List V} {chk : List Chk} (hx : x.ev F = v) (hy : y.ev F = w) (ht : Tip0 S0 s v k xs) (hle : St.LeW W S0 s) (hw : elems w s = some ys) (hr : rowOk w k = true) (h1 : wOk k ys = true) (h2 : wOk k xs = true) (hl : xs.length + ys.length ≤ 1000000) (hb : by_ ≤ 4096)
    (hc : ∀ δ, s.next ≤ δ.next → chkAll F s (s.ovo δ) chk)
    (h : ∀ v' δ, Tip0 S0 (s.ovo δ) v' k (xs ++ ys) → St.LeW W S0 (s.ovo δ) → s.next ≤ δ.next → D T (.ops r (F.put d v') (s.ovo δ) K)) : D T (.ops (⟨some d, .append false k by_ x y, none, chk⟩ :: r) F s K) := by
  have hm : 1000000 ≤ most := by simp only [most]; omega
  obtain ⟨v', s', e, ht', hlw, hown⟩ := append_tip ht.1 hw hr h1 h2 (by omega) hb
  have hs : s' = s.ovo s' := by
    cases hs' : s' with
    | mk n m =>
      subst hs'
      simp only [St.ovo]
      congr 1
      funext i
      by_cases hi : i < s.next
      · rw [if_pos hi]
        cases hm : s.mem i with
        | none => rfl
        | some en =>
          have key : (∀ g n k', en ≠ .tip g n k') → m i = some en := by
            intro hne
            rw [← hm]
            refine hlw.2 i hi fun hio => ?_
            rcases ht.1 with ⟨hv, _⟩ | ⟨c, g, hv, hc, hmc⟩
            · rw [hv] at hio; simp [V.own] at hio
            · rw [hv] at hio
              simp [V.own] at hio
              subst hio
              rw [hmc] at hm
              injection hm with hm
              exact hne _ _ _ hm.symm
          cases en with
          | obj cs => exact key (by simp)
          | row xs => exact key (by simp)
          | _ => rfl
      · rw [if_neg hi]
  refine .step (v := v') (s' := s') rfl ?_ ?_ ?_
  · simp only [opS, hx, hy, e]
  · rw [hs]; exact chkAll_mem (hc s' hlw.1)
  rw [hs]
  rw [hs] at ht' hlw
  refine h v' s' ⟨ht', fun i hi => ?_⟩ ?_ hlw.1
  · rcases hown i hi with h1 | h1
    · exact ht.2 i h1
    · exact Nat.le_trans hle.1 h1
  · refine ⟨Nat.le_trans hle.1 hlw.1, fun i hi hw => ?_⟩
    rw [hlw.2 i (Nat.lt_of_lt_of_le hi hle.1) (fun hio => ?_)]
    · exact hle.2 i hi hw
    · have := ht.2 i hio
      omega

theorem W.midL {a : Code} (R : Frame → St → Prop) (ha : D T (.code a F s (seqK R Q))) (hb : ∀ F1 s1, (∀ r, a.wr r = false → F1 r = F r) → R F1 s1 → Q .normal F1 s1) : D T (.code a F s Q) := by
  refine (D.fr ha).mono_code fun e F1 s1 k => ?_
  obtain ⟨k1, k2⟩ := k
  cases e with
  | normal => exact hb F1 s1 k2 k1
  | ret => exact k1
  | exit m => exact k1
theorem Tip0.tp_ {S0 s δ : St} {v : V} {k o a : Nat} {lv : V} {xs : List V} {cs : List V} (h : Tip0 S0 s v k xs) (hd : s.next ≤ δ.next) (ho : s.mem o = some (.obj cs)) : Tip0 S0 (s.tp o lv a δ) v k xs := by
  refine ⟨h.1.imp id fun ⟨c, g, h1, h2, h3⟩ => ⟨c, g, h1, by rw [nx_tp]; omega, ?_⟩, h.2⟩
  rw [mem_tp h2]
  · exact h3
  · rintro rfl
    rw [h3] at ho
    simp at ho
end
end Go.VS
