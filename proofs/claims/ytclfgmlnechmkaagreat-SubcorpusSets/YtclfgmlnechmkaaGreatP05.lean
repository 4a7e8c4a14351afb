/-
  Part 5 of 43 of the proof of SubcorpusSetsSaid, by an abstract machine that stands in for the Go program: lemmas without conditions of their own.
-/
import Derived.Test.YtclfgmlnechmkaaGreatP04
set_option linter.unusedSimpArgs false
set_option linter.unusedVariables false
namespace Go.VS
variable {T : Nat → Option FnDef}

def Lo.wr (r : Nat) (l : Lo) : Bool :=
  (match l.d with | some d => Nat.beq r d | none => false) || (match l.op with | .frz t => Nat.beq r t | _ => false)
def wrL (r : Nat) : List Lo → Bool
  | [] => false
  | l :: ls => l.wr r || wrL r ls
def Tree.wr (r : Nat) : Tree → Bool
  | .nil => false
  | .cons l t => l.wr r || t.wr r
  | .fork a b => a.wr r || b.wr r
def Code.wr (r : Nat) : Code → Bool
  | .skip => false
  | .ret => false
  | .exit _ => false
  | .ops l => wrL r l
  | .tree t => t.wr r
  | .seq a b => a.wr r || b.wr r
  | .cond _ a b => a.wr r || b.wr r
  | .block _ a => a.wr r
  | .loop a => a.wr r

def J.fr : J → J
  | .call f args s K => .call f args s K
  | .code c F s Q => .code c F s (fun e F' s' => Q e F' s' ∧ ∀ r, c.wr r = false → F' r = F r)
  | .ops l F s K => .ops l F s (fun F' s' => K F' s' ∧ ∀ r, wrL r l = false → F' r = F r)
  | .tree t F s K => .tree t F s (fun F' s' => K F' s' ∧ ∀ r, t.wr r = false → F' r = F r)

theorem putO_wr {d : Option Nat} {op : VOp} {gd : Option (Nat × Bool)} {chk : List Chk} {r : Nat} (F : Frame) (v : V) (h : Lo.wr r ⟨d, op, gd, chk⟩ = false) : F.putO d v r = F r := by
  cases d with
  | none => rfl
  | some d =>
    simp only [Lo.wr, Bool.or_eq_false_iff] at h
    simp only [Frame.putO, Frame.put, h.1, cond_false]

theorem D.fr {j : J} (h : D T j) : D T j.fr := by
  induction h with
  | body hT hn hb => exact .body hT hn hb
  | prim hT he hK => exact .prim hT he hK
  | skip h => exact .skip ⟨h, fun _ _ => rfl⟩
  | ret h => exact .ret ⟨h, fun _ _ => rfl⟩
  | exit h => exact .exit ⟨h, fun _ _ => rfl⟩
  | opsc h hK ih =>
    refine .opsc ih fun F s k => ⟨hK _ _ k.1, k.2⟩
  | treec h hK ih =>
    refine .treec ih fun F s k => ⟨hK _ _ k.1, k.2⟩
  | @seq a b F s Q R h hn he ih ihn =>
    refine .seq ih (fun F1 s1 k => (ihn F1 s1 k.1).mono_code fun e F2 s2 k2 => ⟨k2.1, fun r hr => ?_⟩) (fun e F1 s1 h1 k => ⟨he _ _ _ h1 k.1, fun r hr => ?_⟩)
    · simp only [Code.wr, Bool.or_eq_false_iff] at hr
      exact (k2.2 r hr.2).trans (k.2 r hr.1)
    · simp only [Code.wr, Bool.or_eq_false_iff] at hr
      exact k.2 r hr.1
  | condT hc h ih =>
    refine .condT hc (ih.mono_code fun e F2 s2 k2 => ⟨k2.1, fun r hr => ?_⟩)
    simp only [Code.wr, Bool.or_eq_false_iff] at hr
    exact k2.2 r hr.1
  | condF hc h ih =>
    refine .condF hc (ih.mono_code fun e F2 s2 k2 => ⟨k2.1, fun r hr => ?_⟩)
    simp only [Code.wr, Bool.or_eq_false_iff] at hr
    exact k2.2 r hr.2
  | @block n a F s Q h ih =>
    refine .block (ih.mono_code fun e F2 s2 k2 => ?_)
    obtain ⟨k1, k2⟩ := k2
    cases e with
    | exit m =>
      simp only [blockK] at k1 ⊢
      cases hb : Nat.beq m n <;> rw [hb] at k1 <;> exact ⟨k1, k2⟩
    | _ => exact ⟨k1, k2⟩
  | @loop a F s Q R h hn he ih ihn =>
    refine .loop ih (fun F1 s1 k => (ihn F1 s1 k.1).mono_code fun e F2 s2 k2 => ⟨k2.1, fun r hr => ?_⟩) (fun e F1 s1 h1 k => ⟨he _ _ _ h1 k.1, k.2⟩)
    exact (k2.2 r hr).trans (k.2 r hr)
  | nil h => exact .nil ⟨h, fun _ _ => rfl⟩
  | tnil h => exact .tnil ⟨h, fun _ _ => rfl⟩
  | @tcons l r F s K R h hr ih ihr =>
    refine .tcons ih fun F1 s1 k => ?_
    refine (ihr F1 s1 k.1).weaken (.tree r F1 s1 _) ⟨rfl, rfl, rfl, fun F2 s2 k2 => ⟨k2.1, fun r hr => ?_⟩⟩
    simp only [Tree.wr, Bool.or_eq_false_iff] at hr
    refine (k2.2 r hr.2).trans (k.2 r ?_)
    simp only [wrL, hr.1, Bool.or_false]
  | fork ha hb iha ihb =>
    refine .fork (iha.weaken (.tree _ _ _ _) ⟨rfl, rfl, rfl, fun F2 s2 k2 => ⟨k2.1, fun r hr => ?_⟩⟩) (ihb.weaken (.tree _ _ _ _) ⟨rfl, rfl, rfl, fun F2 s2 k2 => ⟨k2.1, fun r hr => ?_⟩⟩)
    · simp only [Tree.wr, Bool.or_eq_false_iff] at hr
      exact k2.2 r hr.1
    · simp only [Tree.wr, Bool.or_eq_false_iff] at hr
      exact k2.2 r hr.2
  | skipped hw h ih =>
    refine .skipped hw (ih.mono_ops fun F2 s2 k2 => ⟨k2.1, fun r hr => ?_⟩)
    simp only [wrL, Bool.or_eq_false_iff] at hr
    exact (k2.2 r hr.2).trans (putO_wr _ _ hr.1)
  | step hw h hc hr ih =>
    refine .step hw h hc (ih.mono_ops fun F2 s2 k2 => ⟨k2.1, fun r hr => ?_⟩)
    simp only [wrL, Bool.or_eq_false_iff] at hr
    exact (k2.2 r hr.2).trans (putO_wr _ _ hr.1)
  | frz hw h hf hc hd hr ih =>
    refine .frz hw h hf hc hd (ih.mono_ops fun F2 s2 k2 => ⟨k2.1, fun r hr => ?_⟩)
    simp only [wrL, Bool.or_eq_false_iff, Lo.wr, h] at hr
    refine (k2.2 r hr.2).trans ?_
    simp only [Frame.put, hr.1.2, cond_false]
  | frzc hw h hf hc hd hr ih =>
    refine .frzc hw h hf hc hd (ih.mono_ops fun F2 s2 k2 => ⟨k2.1, fun r hr => ?_⟩)
    simp only [wrL, Bool.or_eq_false_iff] at hr
    exact k2.2 r hr.2
  | call hw h hf hcall hc hr ihc ih =>
    refine .call hw h hf hcall hc fun v s' k => (ih v s' k).mono_ops fun F2 s2 k2 => ⟨k2.1, fun r hr => ?_⟩
    simp only [wrL, Bool.or_eq_false_iff] at hr
    exact (k2.2 r hr.2).trans (putO_wr _ _ hr.1)

/-- A loop with a measure; what its body does not write is as it was before the loop. -/
theorem W.loopF {a : Code} {F0 : Frame} {s0 : St} {Q : Post} (I : Nat → Frame → St → Prop) (n : Nat) (h0 : I n F0 s0)
    (hr : ∀ n F s, (∀ r, a.wr r = false → F r = F0 r) → I n F s → D T (.code a F s (seqK (fun F' s' => ∃ m, m < n ∧ I m F' s') Q))) : D T (.code (.loop a) F0 s0 Q) := by
  refine W.loop (fun n F s => (∀ r, a.wr r = false → F r = F0 r) ∧ I n F s) n ⟨fun _ _ => rfl, h0⟩ fun n F s h => ?_
  refine (D.fr (hr n F s h.1 h.2)).mono_code fun e F' s' k => ?_
  obtain ⟨k1, k2⟩ := k
  cases e with
  | normal =>
    obtain ⟨m, hm, hI⟩ := k1
    exact ⟨m, hm, fun r hr => (k2 r hr).trans (h.1 r hr), hI⟩
  | ret => exact k1
  | exit m => exact k1

/-- What holds behind the body of a 'range' loop. -/
def rangeK (b0 b1 : Nat) (I : Frame → St → Prop) (Q : Post) : Post := fun e F s =>
  match e with
  | .normal => I F s
  | .exit m => if m = b1 then I F s else if m = b0 then Q .normal F s else Q (.exit m) F s
  | .ret => Q .ret F s

def rangeCode (i n t t2 b0 b1 : Nat) (B : Code) : Code :=
  .block b0 (.loop (.seq (.ops [o t (.bin .lss (.t i) (.t n))]) (.seq (.cond (.t t) .skip (.exit b0)) (.seq (.block b1 B) (.ops [o t2 (.bin .add (.t i) (.c (.int .i64 1))), o i (.mv (.t t2))])))))

/-- May be written in a 'range' loop. -/
def rangeWr (i t t2 : Nat) (B : Code) (r : Nat) : Bool := Nat.beq r i || Nat.beq r t || Nat.beq r t2 || B.wr r

theorem beqF {a b : Nat} (h : Nat.beq a b = false) : a ≠ b := by rintro rfl; simp at h

theorem W.range {i n t t2 b0 b1 : Nat} {B : Code} {F0 : Frame} {s0 : St} {Q : Post} {N : Nat} (I : Nat → Frame → St → Prop)
    (hi : F0 i = .int .i64 0) (hn : F0 n = .int .i64 N) (hN : N < 4611686018427387904)
    (hreg : (!Nat.beq t n && !Nat.beq n t && !Nat.beq i t && !Nat.beq n i && !Nat.beq n t2 && !B.wr i && !B.wr n && !Nat.beq b0 b1) = true)
    (hst : ∀ k F s x y z, I k F s → I k (((F.put t2 x).put i y).put t z) s)
    (h0 : I 0 F0 s0)
    (step : ∀ k F s, k < N → (∀ r, rangeWr i t t2 B r = false → F r = F0 r) → F i = .int .i64 k → I k F s → D T (.code B F s (rangeK b0 b1 (I (k + 1)) Q)))
    (done : ∀ F s, (∀ r, rangeWr i t t2 B r = false → F r = F0 r) → I N F s → Q .normal F s) : D T (.code (rangeCode i n t t2 b0 b1 B) F0 s0 Q) := by
  simp only [Bool.and_eq_true, Bool.not_eq_true'] at hreg
  obtain ⟨⟨⟨⟨⟨⟨⟨h1, h2⟩, h3⟩, h4⟩, h5⟩, h6⟩, h7⟩, h8⟩ := hreg
  have g1 := beqF h1
  have g2 := beqF h2
  have g3 := beqF h3
  have g4 := beqF h4
  have g5 := beqF h5
  have g8 := beqF h8
  refine .block (W.loop (fun m F s => ∃ k, m = N - k ∧ k ≤ N ∧ F i = .int .i64 k ∧ F n = .int .i64 N ∧ (∀ r, rangeWr i t t2 B r = false → F r = F0 r) ∧ I k F s) N ⟨0, rfl, Nat.zero_le _, hi, hn, fun _ _ => rfl, h0⟩ ?_)
  rintro m F s ⟨k, rfl, hk, fi, fn, hfr, hI⟩
  refine W.so fun K hK => ?_
  rw [X_bin]
  simp only [opS, ev_t, fi, fn, bv_lss, X_nil]
  refine hK _ _ ?_
  clear hK K
  have ht := hst k F s (F t2) (F i) (.bool (decide ((k : Int) < (N : Int)))) hI
  have hfp : ((F.put t2 (F t2)).put i (F i)).put t (.bool (decide ((k : Int) < (N : Int)))) = F.put t (.bool (decide ((k : Int) < (N : Int)))) := by
    funext r
    simp only [put_at]
    split
    · rfl
    · split
      · rename_i h; rw [h]
      · split
        · rename_i h; rw [h]
        · rfl
  rw [hfp] at ht
  have hfr' : ∀ r, rangeWr i t t2 B r = false → (F.put t (.bool (decide ((k : Int) < (N : Int))))) r = F0 r := by
    intro r hr
    have : Nat.beq r t = false := by simp only [rangeWr, Bool.or_eq_false_iff] at hr; exact hr.1.1.2
    simp only [Frame.put, this, cond_false]
    exact hfr r hr
  have fi' : (F.put t (.bool (decide ((k : Int) < (N : Int))))) i = .int .i64 k := by rw [put_at, if_neg g3, fi]
  have fn' : (F.put t (.bool (decide ((k : Int) < (N : Int))))) n = .int .i64 N := by rw [put_at, if_neg g2, fn]
  have ft : (F.put t (.bool (decide ((k : Int) < (N : Int))))) t = .bool (decide ((k : Int) < (N : Int))) := by rw [put_at, if_pos rfl]
  generalize F.put t (.bool (decide ((k : Int) < (N : Int)))) = G at *
  refine W.test (t := decide ((k : Int) < (N : Int))) ft (fun h => ?_) (fun h => ?_)
  · have hkN : k < N := by have := of_decide_eq_true h; omega
    refine .skip ?_
    simp only [seqK]
    refine W.seq (.block ?_)
    refine (D.fr (step k G s hkN hfr' fi' ht)).mono_code fun e F' s' kk => ?_
    obtain ⟨k1, k2⟩ := kk
    have fin : I (k + 1) F' s' → D T (.code (.ops [o t2 (.bin .add (.t i) (.c (.int .i64 1))), o i (.mv (.t t2))]) F' s' (seqK (fun F' s' => ∃ m, m < N - k ∧ ∃ k, m = N - k ∧ k ≤ N ∧ F' i = .int .i64 k ∧ F' n = .int .i64 N ∧ (∀ r, rangeWr i t t2 B r = false → F' r = F0 r) ∧ I k F' s') (blockK b0 Q))) := by
      intro hI'
      refine W.ops' fun K hK => ?_
      rw [X_bin]
      simp only [opS, ev_t, ev_c, k2 i h6, fi', bv_add]
      rw [X_mv]
      simp only [opS, ev_t, put_at, if_pos, X_nil]
      refine hK _ _ ?_
      simp only [seqK]
      have hw : IntKind.i64.wrap ((k : Int) + 1) = ((k + 1 : Nat) : Int) := by
        simp [IntKind.wrap, IntKind.signed, IntKind.bits]
        omega
      refine ⟨N - (k + 1), by omega, k + 1, rfl, hkN, ?_, ?_, fun r hr => ?_, ?_⟩
      · rw [put_at, if_pos rfl, hw]
      · rw [put_at, if_neg g4, put_at, if_neg g5, k2 n h7, fn']
      · have hr' := hr
        simp only [rangeWr, Bool.or_eq_false_iff] at hr
        rw [put_at, if_neg (beqF hr.1.1.1), put_at, if_neg (beqF hr.1.2), k2 r hr.2, hfr' r hr']
      · have h := hst (k + 1) F' s' (.int .i64 (IntKind.i64.wrap ((k : Int) + 1))) (.int .i64 (IntKind.i64.wrap ((k : Int) + 1))) (if t = i then .int .i64 (IntKind.i64.wrap ((k : Int) + 1)) else if t = t2 then .int .i64 (IntKind.i64.wrap ((k : Int) + 1)) else F' t) hI'
        have e : (((F'.put t2 (.int .i64 (IntKind.i64.wrap ((k : Int) + 1)))).put i (.int .i64 (IntKind.i64.wrap ((k : Int) + 1)))).put t (if t = i then .int .i64 (IntKind.i64.wrap ((k : Int) + 1)) else if t = t2 then .int .i64 (IntKind.i64.wrap ((k : Int) + 1)) else F' t)) = ((F'.put t2 (.int .i64 (IntKind.i64.wrap ((k : Int) + 1)))).put i (.int .i64 (IntKind.i64.wrap ((k : Int) + 1)))) := by
          funext r
          by_cases hr : r = t
          · subst hr; simp only [put_at, if_pos]
          · rw [put_at, if_neg hr]
        rw [e] at h
        exact h
    cases e with
    | normal => exact fin k1
    | ret => exact k1
    | exit m =>
      simp only [rangeK] at k1
      simp only [blockK]
      by_cases hm : m = b1
      · rw [if_pos hm] at k1
        rw [show Nat.beq m b1 = true by rw [hm]; simp]
        exact fin k1
      · rw [if_neg hm] at k1
        rw [show Nat.beq m b1 = false by rw [Bool.eq_false_iff, ne_eq, Nat.beq_eq]; exact hm]
        simp only [cond_false, seqK, blockK]
        by_cases hm0 : m = b0
        · rw [if_pos hm0] at k1
          rw [show Nat.beq m b0 = true by rw [hm0]; simp]
          exact k1
        · rw [if_neg hm0] at k1
          rw [show Nat.beq m b0 = false by rw [Bool.eq_false_iff, ne_eq, Nat.beq_eq]; exact hm0]
          exact k1
  · have hkN : k = N := by have := of_decide_eq_false h; omega
    subst hkN
    refine .exit ?_
    simp only [seqK, blockK, Nat.beq_refl, cond_true]
    exact done G s hfr' ht
end Go.VS
