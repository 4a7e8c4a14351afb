/-
  Part 2 of 43 of the proof of SubcorpusSetsSaid, by an abstract machine that stands in for the Go program: lemmas without conditions of their own.
-/
import Derived.Test.YtclfgmlnechmkaaGreatP01
set_option linter.unusedSimpArgs false
set_option linter.unusedVariables false
namespace Go.VS

variable {T : Nat → Option FnDef}

/-- A judgement with a weaker post. -/
def J.Le : J → J → Prop
  | .call f args s K, .call f' args' s' K' => f' = f ∧ args' = args ∧ s' = s ∧ ∀ v s, K v s → K' v s
  | .code c F s Q, .code c' F' s' Q' => c' = c ∧ F' = F ∧ s' = s ∧ ∀ e F s, Q e F s → Q' e F s
  | .ops l F s K, .ops l' F' s' K' => l' = l ∧ F' = F ∧ s' = s ∧ ∀ F s, K F s → K' F s
  | .tree t F s K, .tree t' F' s' K' => t' = t ∧ F' = F ∧ s' = s ∧ ∀ F s, K F s → K' F s
  | _, _ => False

theorem D.weaken {j : J} (h : D T j) : ∀ j', J.Le j j' → D T j' := by
  induction h with
  | @body f fn args s K hT hn _ ih =>
    rintro (⟨f', args', s', K'⟩ | _ | _ | _) hle <;> simp only [J.Le] at hle
    obtain ⟨rfl, rfl, rfl, hK⟩ := hle
    refine .body hT hn (ih _ ⟨rfl, rfl, rfl, fun e F s h => ?_⟩)
    simp only [retK] at h ⊢
    split at h
    · exact h.elim
    · split at h
      · exact hK _ _ h
      · exact h.elim
  | prim hT he hK =>
    rintro (⟨f', args', s', K'⟩ | _ | _ | _) hle <;> simp only [J.Le] at hle
    obtain ⟨rfl, rfl, rfl, hK'⟩ := hle
    exact .prim hT he (hK' _ _ hK)
  | skip h =>
    rintro (_ | ⟨c, F, s, Q⟩ | _ | _) hle <;> simp only [J.Le] at hle
    obtain ⟨rfl, rfl, rfl, hK⟩ := hle
    exact .skip (hK _ _ _ h)
  | ret h =>
    rintro (_ | ⟨c, F, s, Q⟩ | _ | _) hle <;> simp only [J.Le] at hle
    obtain ⟨rfl, rfl, rfl, hK⟩ := hle
    exact .ret (hK _ _ _ h)
  | exit h =>
    rintro (_ | ⟨c, F, s, Q⟩ | _ | _) hle <;> simp only [J.Le] at hle
    obtain ⟨rfl, rfl, rfl, hK⟩ := hle
    exact .exit (hK _ _ _ h)
  | opsc h hn _ =>
    rintro (_ | ⟨c, F, s, Q⟩ | _ | _) hle <;> simp only [J.Le] at hle
    obtain ⟨rfl, rfl, rfl, hK⟩ := hle
    exact .opsc h fun F s k => hK _ _ _ (hn F s k)
  | seq h _ he ih ihn =>
    rintro (_ | ⟨c, F, s, Q⟩ | _ | _) hle <;> simp only [J.Le] at hle
    obtain ⟨rfl, rfl, rfl, hK⟩ := hle
    exact .seq h (fun F s k => ihn F s k _ ⟨rfl, rfl, rfl, hK⟩) (fun e F s h1 h2 => hK _ _ _ (he e F s h1 h2))
  | condT hc _ ih =>
    rintro (_ | ⟨c, F, s, Q⟩ | _ | _) hle <;> simp only [J.Le] at hle
    obtain ⟨rfl, rfl, rfl, hK⟩ := hle
    exact .condT hc (ih _ ⟨rfl, rfl, rfl, hK⟩)
  | condF hc _ ih =>
    rintro (_ | ⟨c, F, s, Q⟩ | _ | _) hle <;> simp only [J.Le] at hle
    obtain ⟨rfl, rfl, rfl, hK⟩ := hle
    exact .condF hc (ih _ ⟨rfl, rfl, rfl, hK⟩)
  | @block n a F s Q _ ih =>
    rintro (_ | ⟨c, F, s, Q'⟩ | _ | _) hle <;> simp only [J.Le] at hle
    obtain ⟨rfl, rfl, rfl, hK⟩ := hle
    refine .block (ih _ ⟨rfl, rfl, rfl, fun e F s h => ?_⟩)
    cases e with
    | exit m =>
      simp only [blockK] at h ⊢
      cases hb : Nat.beq m n <;> rw [hb] at h <;> exact hK _ _ _ h
    | _ => exact hK _ _ _ h
  | loop h _ he ih ihn =>
    rintro (_ | ⟨c, F, s, Q⟩ | _ | _) hle <;> simp only [J.Le] at hle
    obtain ⟨rfl, rfl, rfl, hK⟩ := hle
    exact .loop h (fun F s k => ihn F s k _ ⟨rfl, rfl, rfl, hK⟩) (fun e F s h1 h2 => hK _ _ _ (he e F s h1 h2))
  | nil h =>
    rintro (_ | _ | ⟨l, F, s, K⟩ | _) hle <;> simp only [J.Le] at hle
    obtain ⟨rfl, rfl, rfl, hK⟩ := hle
    exact .nil (hK _ _ h)
  | treec h hn _ =>
    rintro (_ | ⟨c, F, s, Q⟩ | _ | _) hle <;> simp only [J.Le] at hle
    obtain ⟨rfl, rfl, rfl, hK⟩ := hle
    exact .treec h fun F s k => hK _ _ _ (hn F s k)
  | tnil h =>
    rintro (_ | _ | _ | ⟨l, F, s, K⟩) hle <;> simp only [J.Le] at hle
    obtain ⟨rfl, rfl, rfl, hK⟩ := hle
    exact .tnil (hK _ _ h)
  | tcons h _ ih ihr =>
    rintro (_ | _ | _ | ⟨l, F, s, K⟩) hle <;> simp only [J.Le] at hle
    obtain ⟨rfl, rfl, rfl, hK⟩ := hle
    exact .tcons h fun F s k => ihr F s k _ ⟨rfl, rfl, rfl, hK⟩
  | fork _ _ iha ihb =>
    rintro (_ | _ | _ | ⟨l, F, s, K⟩) hle <;> simp only [J.Le] at hle
    obtain ⟨rfl, rfl, rfl, hK⟩ := hle
    exact .fork (iha _ ⟨rfl, rfl, rfl, hK⟩) (ihb _ ⟨rfl, rfl, rfl, hK⟩)
  | skipped hw _ ih =>
    rintro (_ | _ | ⟨l, F, s, K⟩ | _) hle <;> simp only [J.Le] at hle
    obtain ⟨rfl, rfl, rfl, hK⟩ := hle
    exact .skipped hw (ih _ ⟨rfl, rfl, rfl, hK⟩)
  | step hw h hc _ ih =>
    rintro (_ | _ | ⟨l, F, s, K⟩ | _) hle <;> simp only [J.Le] at hle
    obtain ⟨rfl, rfl, rfl, hK⟩ := hle
    exact .step hw h hc (ih _ ⟨rfl, rfl, rfl, hK⟩)
  | frz hw h hf hc hd _ ih =>
    rintro (_ | _ | ⟨l, F, s, K⟩ | _) hle <;> simp only [J.Le] at hle
    obtain ⟨rfl, rfl, rfl, hK⟩ := hle
    exact .frz hw h hf hc hd (ih _ ⟨rfl, rfl, rfl, hK⟩)
  | frzc hw h hf hc hd _ ih =>
    rintro (_ | _ | ⟨l, F, s, K⟩ | _) hle <;> simp only [J.Le] at hle
    obtain ⟨rfl, rfl, rfl, hK⟩ := hle
    exact .frzc hw h hf hc hd (ih _ ⟨rfl, rfl, rfl, hK⟩)
  | call hw h hf hcall hc _ _ ih =>
    rintro (_ | _ | ⟨l, F, s, K⟩ | _) hle <;> simp only [J.Le] at hle
    obtain ⟨rfl, rfl, rfl, hK⟩ := hle
    exact .call hw h hf hcall hc fun v s' hR => ih v s' hR _ ⟨rfl, rfl, rfl, hK⟩

theorem D.mono_call {f : Nat} {args : List V} {s : St} {K K' : V → St → Prop} (h : D T (.call f args s K)) (k : ∀ v s, K v s → K' v s) : D T (.call f args s K') := h.weaken _ ⟨rfl, rfl, rfl, k⟩
theorem D.mono_code {c : Code} {F : Frame} {s : St} {Q Q' : Post} (h : D T (.code c F s Q)) (k : ∀ e F s, Q e F s → Q' e F s) : D T (.code c F s Q') := h.weaken _ ⟨rfl, rfl, rfl, k⟩
theorem D.mono_ops {l : List Lo} {F : Frame} {s : St} {K K' : Frame → St → Prop} (h : D T (.ops l F s K)) (k : ∀ F s, K F s → K' F s) : D T (.ops l F s K') := h.weaken _ ⟨rfl, rfl, rfl, k⟩

/-! ### rules -/

section
variable {F : Frame} {s s' : St} {Q : Post} {K : Frame → St → Prop} {r : List Lo}

theorem W.seq {a b : Code} (h : D T (.code a F s (seqK (fun F s => D T (.code b F s Q)) Q))) : D T (.code (.seq a b) F s Q) :=
  .seq h (fun _ _ k => k) (fun e F s h1 h2 => by cases e <;> first | exact absurd rfl h1 | exact h2)

theorem W.ops {l : List Lo} (h : D T (.ops l F s (fun F s => Q .normal F s))) : D T (.code (.ops l) F s Q) := .opsc h fun _ _ k => k
theorem W.tree {t : Tree} (h : D T (.tree t F s (fun F s => Q .normal F s))) : D T (.code (.tree t) F s Q) := .treec h fun _ _ k => k

theorem W.cond {c : Opd} {a b : Code} {t : Bool} (hc : c.ev F = .bool t) (h1 : t = true → D T (.code a F s Q)) (h2 : t = false → D T (.code b F s Q)) : D T (.code (.cond c a b) F s Q) := by
  cases t with
  | true => exact .condT hc (h1 rfl)
  | false => exact .condF hc (h2 rfl)

/-- A loop with an invariant and a measure. -/
theorem W.loop {a : Code} (I : Nat → Frame → St → Prop) (n : Nat) (h0 : I n F s) (hr : ∀ n F s, I n F s → D T (.code a F s (seqK (fun F' s' => ∃ m, m < n ∧ I m F' s') Q))) : D T (.code (.loop a) F s Q) := by
  induction n using Nat.strongRecOn generalizing F s with
  | _ n ih =>
    refine .loop (hr n F s h0) (fun F' s' h => ?_) (fun e F s h1 h2 => by cases e <;> first | exact absurd rfl h1 | exact h2)
    obtain ⟨m, hm, hI⟩ := h
    exact ih m hm hI

/-- One operation; 'op'' is 'op' with its operands read. -/
theorem X.step {d : Nat} {op op' : VOp} {v : V} (F0 : Frame) (hr : opS op F s = opS op' F0 s) (h : opS op' F0 s = some (v, s')) (k : D T (.ops r (F.put d v) s' K)) : D T (.ops (⟨some d, op, none, []⟩ :: r) F s K) :=
  .step rfl (hr.trans h) (by simp) k
theorem X.step_ {op op' : VOp} {v : V} (F0 : Frame) (hr : opS op F s = opS op' F0 s) (h : opS op' F0 s = some (v, s')) (k : D T (.ops r F s' K)) : D T (.ops (⟨none, op, none, []⟩ :: r) F s K) :=
  .step rfl (hr.trans h) (by simp) k
/-- The same, guarded. -/
theorem X.gstep {d g : Nat} {w b : Bool} {op op' : VOp} (F0 : Frame) (hg : F g = .bool b) (hr : opS op F s = opS op' F0 s)
    (h1 : b = w → ∃ v s', opS op' F0 s = some (v, s') ∧ D T (.ops r (F.put d v) s' K)) (h2 : b = !w → D T (.ops r (F.put d V.undef) s K)) : D T (.ops (⟨some d, op, some (g, w), []⟩ :: r) F s K) := by
  by_cases hb : b = w
  · obtain ⟨v, s', h, k⟩ := h1 hb
    exact .step (by simp [Lo.wanted, hg, hb]) (hr.trans h) (by simp) k
  · exact .skipped (by simp [Lo.wanted, hg, hb]) (h2 (by cases b <;> cases w <;> simp_all))
theorem X.call {d : Nat} {f : Opd} {args : List Opd} {id : Nat} {fi ca : List V} (hf : f.ev F = .fn id fi ca) (h : D T (.call id (fi ++ args.map (Opd.ev F) ++ ca) s (fun v s' => D T (.ops r (F.put d v) s' K)))) :
    D T (.ops (⟨some d, .call f args, none, []⟩ :: r) F s K) := .call rfl rfl hf h (fun _ _ _ => by simp) (fun _ _ k => k)
theorem X.call_ {f : Opd} {args : List Opd} {id : Nat} {fi ca : List V} (hf : f.ev F = .fn id fi ca) (h : D T (.call id (fi ++ args.map (Opd.ev F) ++ ca) s (fun _ s' => D T (.ops r F s' K)))) :
    D T (.ops (⟨none, .call f args, none, []⟩ :: r) F s K) := .call rfl rfl hf h (fun _ _ _ => by simp) (fun _ _ k => k)

theorem C.body {f : Nat} {fn : VFn} {args : List V} {K : V → St → Prop} (h : T f = some (.body fn)) (hn : args.length = fn.nargs) (hb : D T (.code fn.code (frame args) s (retK fn K))) : D T (.call f args s K) := .body h hn hb

end
end Go.VS
