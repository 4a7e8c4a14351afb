/-
  Part 3 of 43 of the proof of SubcorpusSetsSaid, by an abstract machine that stands in for the Go program: lemmas without conditions of their own.
-/
import Derived.Test.YtclfgmlnechmkaaGreatP02
set_option linter.unusedSimpArgs false
set_option linter.unusedVariables false
namespace Go.VS

variable {T : Nat → Option FnDef} {F : Frame} {s s' : St} {K : Frame → St → Prop} {r : List Lo}

def VOp.plain : VOp → Bool
  | .call .. => false
  | .frz _ => false
  | .frzc _ _ => false
  | .cap _ => true
  | .appn .. => true
  | .rng .. => true
  | .nxt .. => true
  | .fail => true
  | .mv .. => true
  | .pick .. => true
  | .alloc .. => true
  | .box .. => true
  | .build .. => true
  | .mksl .. => true
  | .mkrow .. => true
  | .load .. => true
  | .store .. => true
  | .nilck .. => true
  | .bin .. => true
  | .eq .. => true
  | .un .. => true
  | .conv .. => true
  | .mkfn .. => true
  | .mkifc .. => true
  | .slice .. => true
  | .fld .. => true
  | .getf .. => true
  | .idx .. => true
  | .idxa .. => true
  | .idxs .. => true
  | .idxv .. => true
  | .ext .. => true
  | .len .. => true
  | .append .. => true
  | .copy .. => true
  | .clear .. => true
  | .mm .. => true

theorem X_nil : D T (.ops [] F s K) = K F s := propext ⟨fun h => by cases h; assumption, fun h => .nil h⟩

theorem opS_plain {op : VOp} {v : V} (h : opS op F s = some (v, s')) : op.plain = true := by
  cases op <;> first | rfl | simp [opS] at h

theorem X_op {d : Nat} {op : VOp} (hp : op.plain = true) : D T (.ops (⟨some d, op, none, []⟩ :: r) F s K) = (match opS op F s with | some (v, s') => D T (.ops r (F.put d v) s' K) | none => False) := by
  refine propext ⟨fun h => ?_, fun h => ?_⟩
  · cases h with
    | skipped hw => simp [Lo.wanted] at hw
    | step hw h hc hr =>
      have h : opS op F s = some (_, _) := h
      rw [h]; exact hr
    | frz hw h => have h : op = _ := h; subst h; simp [VOp.plain] at hp
    | frzc hw h => have h : op = _ := h; subst h; simp [VOp.plain] at hp
    | call hw h => have h : op = _ := h; subst h; simp [VOp.plain] at hp
  · split at h
    · rename_i v s' he
      exact .step rfl he (by simp) h
    · exact h.elim

theorem X_op_ {op : VOp} (hp : op.plain = true) : D T (.ops (⟨none, op, none, []⟩ :: r) F s K) = (match opS op F s with | some (_, s') => D T (.ops r F s' K) | none => False) := by
  refine propext ⟨fun h => ?_, fun h => ?_⟩
  · cases h with
    | skipped hw => simp [Lo.wanted] at hw
    | step hw h hc hr =>
      have h : opS op F s = some (_, _) := h
      rw [h]; exact hr
    | frz hw h => have h : op = _ := h; subst h; simp [VOp.plain] at hp
    | frzc hw h => have h : op = _ := h; subst h; simp [VOp.plain] at hp
    | call hw h => have h : op = _ := h; subst h; simp [VOp.plain] at hp
  · split at h
    · rename_i v s' he
      exact .step rfl he (by simp) h
    · exact h.elim

theorem X_mv {d : Nat} {x : Opd} : D T (.ops (⟨some d, .mv x, none, []⟩ :: r) F s K) = (match opS (.mv x) F s with | some (v, s') => D T (.ops r (F.put d v) s' K) | none => False) := X_op rfl
theorem X_pick {d : Nat} {c a b : Opd} : D T (.ops (⟨some d, .pick c a b, none, []⟩ :: r) F s K) = (match opS (.pick c a b) F s with | some (v, s') => D T (.ops r (F.put d v) s' K) | none => False) := X_op rfl
theorem X_alloc {d : Nat} {z : List V} : D T (.ops (⟨some d, .alloc z, none, []⟩ :: r) F s K) = (match opS (.alloc z) F s with | some (v, s') => D T (.ops r (F.put d v) s' K) | none => False) := X_op rfl
theorem X_box {d : Nat} {x : Opd} : D T (.ops (⟨some d, .box x, none, []⟩ :: r) F s K) = (match opS (.box x) F s with | some (v, s') => D T (.ops r (F.put d v) s' K) | none => False) := X_op rfl
theorem X_build {d : Nat} {z : List V} {parts : List (Nat × Nat × Opd)} : D T (.ops (⟨some d, .build z parts, none, []⟩ :: r) F s K) = (match opS (.build z parts) F s with | some (v, s') => D T (.ops r (F.put d v) s' K) | none => False) := X_op rfl
theorem X_mksl {d : Nat} {mt : Bool} {k : Nat} {z : V} {n : Nat} {parts : List (Nat × Opd)} : D T (.ops (⟨some d, .mksl mt k z n parts, none, []⟩ :: r) F s K) = (match opS (.mksl mt k z n parts) F s with | some (v, s') => D T (.ops r (F.put d v) s' K) | none => False) := X_op rfl
theorem X_mkrow {d : Nat} {mt : Bool} {k by_ : Nat} {z : V} {len cap : Opd} : D T (.ops (⟨some d, .mkrow mt k by_ z len cap, none, []⟩ :: r) F s K) = (match opS (.mkrow mt k by_ z len cap) F s with | some (v, s') => D T (.ops r (F.put d v) s' K) | none => False) := X_op rfl
theorem X_load {d : Nat} {k : Nat} {ag : Bool} {a : Opd} : D T (.ops (⟨some d, .load k ag a, none, []⟩ :: r) F s K) = (match opS (.load k ag a) F s with | some (v, s') => D T (.ops r (F.put d v) s' K) | none => False) := X_op rfl
theorem X_nilck {d : Nat} {x : Opd} : D T (.ops (⟨some d, .nilck x, none, []⟩ :: r) F s K) = (match opS (.nilck x) F s with | some (v, s') => D T (.ops r (F.put d v) s' K) | none => False) := X_op rfl
theorem X_bin {d : Nat} {op : BinOp} {x y : Opd} : D T (.ops (⟨some d, .bin op x y, none, []⟩ :: r) F s K) = (match opS (.bin op x y) F s with | some (v, s') => D T (.ops r (F.put d v) s' K) | none => False) := X_op rfl
theorem X_eq {d : Nat} {q : EqK} {neg : Bool} {x y : Opd} : D T (.ops (⟨some d, .eq q neg x y, none, []⟩ :: r) F s K) = (match opS (.eq q neg x y) F s with | some (v, s') => D T (.ops r (F.put d v) s' K) | none => False) := X_op rfl
theorem X_un {d : Nat} {op : UnOp} {x : Opd} : D T (.ops (⟨some d, .un op x, none, []⟩ :: r) F s K) = (match opS (.un op x) F s with | some (v, s') => D T (.ops r (F.put d v) s' K) | none => False) := X_op rfl
theorem X_conv {d : Nat} {c : ConvK} {x : Opd} : D T (.ops (⟨some d, .conv c x, none, []⟩ :: r) F s K) = (match opS (.conv c x) F s with | some (v, s') => D T (.ops r (F.put d v) s' K) | none => False) := X_op rfl
theorem X_mkfn {d : Nat} {f : Nat} {first caps : List Opd} : D T (.ops (⟨some d, .mkfn f first caps, none, []⟩ :: r) F s K) = (match opS (.mkfn f first caps) F s with | some (v, s') => D T (.ops r (F.put d v) s' K) | none => False) := X_op rfl
theorem X_mkifc {d : Nat} {t : Nat} {x : Opd} : D T (.ops (⟨some d, .mkifc t x, none, []⟩ :: r) F s K) = (match opS (.mkifc t x) F s with | some (v, s') => D T (.ops r (F.put d v) s' K) | none => False) := X_op rfl
theorem X_slice {d : Nat} {st : Bool} {k : Nat} {x : Opd} {lo hi mx : Option Opd} : D T (.ops (⟨some d, .slice st k x lo hi mx, none, []⟩ :: r) F s K) = (match opS (.slice st k x lo hi mx) F s with | some (v, s') => D T (.ops r (F.put d v) s' K) | none => False) := X_op rfl
theorem X_fld {d : Nat} {off : Nat} {a : Opd} : D T (.ops (⟨some d, .fld off a, none, []⟩ :: r) F s K) = (match opS (.fld off a) F s with | some (v, s') => D T (.ops r (F.put d v) s' K) | none => False) := X_op rfl
theorem X_getf {d : Nat} {off k : Nat} {ag : Bool} {x : Opd} : D T (.ops (⟨some d, .getf off k ag x, none, []⟩ :: r) F s K) = (match opS (.getf off k ag x) F s with | some (v, s') => D T (.ops r (F.put d v) s' K) | none => False) := X_op rfl
theorem X_idx {d : Nat} {k : Nat} {a i : Opd} : D T (.ops (⟨some d, .idx k a i, none, []⟩ :: r) F s K) = (match opS (.idx k a i) F s with | some (v, s') => D T (.ops r (F.put d v) s' K) | none => False) := X_op rfl
theorem X_idxa {d : Nat} {n k : Nat} {a i : Opd} : D T (.ops (⟨some d, .idxa n k a i, none, []⟩ :: r) F s K) = (match opS (.idxa n k a i) F s with | some (v, s') => D T (.ops r (F.put d v) s' K) | none => False) := X_op rfl
theorem X_idxs {d : Nat} {x i : Opd} : D T (.ops (⟨some d, .idxs x i, none, []⟩ :: r) F s K) = (match opS (.idxs x i) F s with | some (v, s') => D T (.ops r (F.put d v) s' K) | none => False) := X_op rfl
theorem X_idxv {d : Nat} {n k : Nat} {ag : Bool} {x i : Opd} : D T (.ops (⟨some d, .idxv n k ag x i, none, []⟩ :: r) F s K) = (match opS (.idxv n k ag x i) F s with | some (v, s') => D T (.ops r (F.put d v) s' K) | none => False) := X_op rfl
theorem X_ext {d : Nat} {x : Opd} {i : Nat} : D T (.ops (⟨some d, .ext x i, none, []⟩ :: r) F s K) = (match opS (.ext x i) F s with | some (v, s') => D T (.ops r (F.put d v) s' K) | none => False) := X_op rfl
theorem X_len {d : Nat} {st : Bool} {x : Opd} : D T (.ops (⟨some d, .len st x, none, []⟩ :: r) F s K) = (match opS (.len st x) F s with | some (v, s') => D T (.ops r (F.put d v) s' K) | none => False) := X_op rfl
theorem X_append {d : Nat} {mt : Bool} {k by_ : Nat} {x y : Opd} : D T (.ops (⟨some d, .append mt k by_ x y, none, []⟩ :: r) F s K) = (match opS (.append mt k by_ x y) F s with | some (v, s') => D T (.ops r (F.put d v) s' K) | none => False) := X_op rfl
theorem X_copy {d : Nat} {k : Nat} {x y : Opd} : D T (.ops (⟨some d, .copy k x y, none, []⟩ :: r) F s K) = (match opS (.copy k x y) F s with | some (v, s') => D T (.ops r (F.put d v) s' K) | none => False) := X_op rfl
theorem X_mm {d : Nat} {mx : Bool} {x y : Opd} : D T (.ops (⟨some d, .mm mx x y, none, []⟩ :: r) F s K) = (match opS (.mm mx x y) F s with | some (v, s') => D T (.ops r (F.put d v) s' K) | none => False) := X_op rfl
theorem X_appn {d : Nat} {k by_ : Nat} {x n : Opd} : D T (.ops (⟨some d, .appn k by_ x n, none, []⟩ :: r) F s K) = (match opS (.appn k by_ x n) F s with | some (v, s') => D T (.ops r (F.put d v) s' K) | none => False) := X_op rfl
theorem X_rng {d : Nat} {x : Opd} : D T (.ops (⟨some d, .rng x, none, []⟩ :: r) F s K) = (match opS (.rng x) F s with | some (v, s') => D T (.ops r (F.put d v) s' K) | none => False) := X_op rfl
theorem X_nxt {d : Nat} {x : Opd} : D T (.ops (⟨some d, .nxt x, none, []⟩ :: r) F s K) = (match opS (.nxt x) F s with | some (v, s') => D T (.ops r (F.put d v) s' K) | none => False) := X_op rfl
theorem X_cap {d : Nat} {x : Opd} : D T (.ops (⟨some d, .cap x, none, []⟩ :: r) F s K) = (match opS (.cap x) F s with | some (v, s') => D T (.ops r (F.put d v) s' K) | none => False) := X_op rfl
theorem X_store_ {k : Nat} {a x : Opd} : D T (.ops (⟨none, .store k a x, none, []⟩ :: r) F s K) = (match opS (.store k a x) F s with | some (_, s') => D T (.ops r F s' K) | none => False) := X_op_ rfl
theorem X_copy_ {k : Nat} {x y : Opd} : D T (.ops (⟨none, .copy k x y, none, []⟩ :: r) F s K) = (match opS (.copy k x y) F s with | some (_, s') => D T (.ops r F s' K) | none => False) := X_op_ rfl
theorem X_clear_ {k : Nat} {z : V} {x : Opd} : D T (.ops (⟨none, .clear k z x, none, []⟩ :: r) F s K) = (match opS (.clear k z x) F s with | some (_, s') => D T (.ops r F s' K) | none => False) := X_op_ rfl

/-- A guard: the operation counts, or its slot is left empty. -/
theorem X_guard {d : Option Nat} {op : VOp} {g : Nat} {w b : Bool} {chk : List Chk} (hg : F g = .bool b) :
    D T (.ops (⟨d, op, some (g, w), chk⟩ :: r) F s K) = (if b = w then D T (.ops (⟨d, op, none, chk⟩ :: r) F s K) else D T (.ops r (F.putO d V.undef) s K)) := by
  by_cases hb : b = w
  · rw [if_pos hb]
    refine propext ⟨fun h => ?_, fun h => ?_⟩
    · cases h with
      | skipped hw => simp [Lo.wanted, hg, hb] at hw
      | step hw h hc hr => exact .step rfl h hc hr
      | frz hw h hf hc hd hr => exact .frz rfl h hf hc hd hr
      | frzc hw h hf hc hd hr => exact .frzc rfl h hf hc hd hr
      | call hw h hf hcall hc hr => exact .call rfl h hf hcall hc hr
    · cases h with
      | skipped hw => simp [Lo.wanted] at hw
      | step hw h hc hr => exact .step (by simp [Lo.wanted, hg, hb]) h hc hr
      | frz hw h hf hc hd hr => exact .frz (by simp [Lo.wanted, hg, hb]) h hf hc hd hr
      | frzc hw h hf hc hd hr => exact .frzc (by simp [Lo.wanted, hg, hb]) h hf hc hd hr
      | call hw h hf hcall hc hr => exact .call (by simp [Lo.wanted, hg, hb]) h hf hcall hc hr
  · rw [if_neg hb]
    refine propext ⟨fun h => ?_, fun h => .skipped (by simp [Lo.wanted, hg, hb]) h⟩
    cases h with
    | skipped hw h => exact h
    | step hw => simp [Lo.wanted, hg, hb] at hw
    | frz hw => simp [Lo.wanted, hg, hb] at hw
    | frzc hw => simp [Lo.wanted, hg, hb] at hw
    | call hw => simp [Lo.wanted, hg, hb] at hw

theorem X_frz {t : Nat} : D T (.ops (⟨none, .frz t, none, []⟩ :: r) F s K) = (match freezeV (F t) s with | some (v, s') => D T (.ops r (F.put t v) s' K) | none => False) := by
  refine propext ⟨fun h => ?_, fun h => ?_⟩
  · cases h with
    | skipped hw => simp [Lo.wanted] at hw
    | step hw h => simp [opS] at h
    | frz hw h hf hc hd hr =>
      injection h with h
      subst h
      rw [hf]; exact hr
    | frzc hw h => cases h
    | call hw h => cases h
  · split at h
    · rename_i v s' he
      exact .frz rfl rfl he rfl rfl h
    · exact h.elim

theorem X_frzc {a : Opd} {d : Nat} : D T (.ops (⟨none, .frzc a d, none, []⟩ :: r) F s K) = (match frzcV (a.ev F) d s with | some s' => D T (.ops r F s' K) | none => False) := by
  refine propext ⟨fun h => ?_, fun h => ?_⟩
  · cases h with
    | skipped hw => simp [Lo.wanted] at hw
    | step hw h => simp [opS] at h
    | frz hw h => cases h
    | frzc hw h hf hc hd hr =>
      injection h with h h'
      subst h h'
      rw [hf]; exact hr
    | call hw h => cases h
  · split at h
    · rename_i s' he
      exact .frzc rfl rfl he rfl rfl h
    · exact h.elim

theorem X_call {d : Nat} {f : Opd} {args : List Opd} {id : Nat} {fi ca : List V} (hf : f.ev F = .fn id fi ca) (h : D T (.call id (fi ++ args.map (Opd.ev F) ++ ca) s (fun v s' => D T (.ops r (F.put d v) s' K)))) :
    D T (.ops (⟨some d, .call f args, none, []⟩ :: r) F s K) := X.call hf h

theorem X_callc {d : Option Nat} {f : Opd} {args : List Opd} {chk : List Chk} {id : Nat} {fi ca : List V} (hf : f.ev F = .fn id fi ca)
    (h : D T (.call id (fi ++ args.map (Opd.ev F) ++ ca) s (fun v s' => (∀ k ∈ chk, k.ok F s s') ∧ D T (.ops r (F.putO d v) s' K)))) : D T (.ops (⟨d, .call f args, none, chk⟩ :: r) F s K) :=
  .call rfl rfl hf h (fun _ _ k => k.1) (fun _ _ k => k.2)

/-- The operations of a region, what follows behind a letter. -/
theorem W.ops' {l : List Lo} {Q : Post} (h : ∀ K : Frame → St → Prop, (∀ F s, Q .normal F s → K F s) → D T (.ops l F s K)) : D T (.code (.ops l) F s Q) := W.ops (h _ fun _ _ h => h)

/-- What a function hands back. -/
def retR (res : List ResV) (K : V → St → Prop) : Post := fun e F s =>
  match e with
  | .exit _ => False
  | _ => match resAll F s res with | some l => K (resV l) s | none => False

theorem C.fn {f : Nat} {fn : VFn} {args : List V} {s : St} {K : V → St → Prop} (h : T f = some (.body fn)) (hn : args.length = fn.nargs) (hb : D T (.code fn.code (frame args) s (retR fn.res K))) : D T (.call f args s K) := .body h hn hb

theorem W.so {l : List Lo} {b : Code} {Q : Post} (h : ∀ K : Frame → St → Prop, (∀ F s, D T (.code b F s Q) → K F s) → D T (.ops l F s K)) : D T (.code (.seq (.ops l) b) F s Q) :=
  W.seq (W.ops (h _ fun _ _ h => h))

/-- A test, then what follows. -/
theorem W.test {c : Opd} {x y b : Code} {t : Bool} {Q : Post} (hc : c.ev F = .bool t) (h1 : t = true → D T (.code x F s (seqK (fun F s => D T (.code b F s Q)) Q))) (h2 : t = false → D T (.code y F s (seqK (fun F s => D T (.code b F s Q)) Q))) :
    D T (.code (.seq (.cond c x y) b) F s Q) := W.seq (W.cond hc h1 h2)

theorem D.elim_seq {b c : Code} {Q : Post} (h : D T (.code (.seq b c) F s Q)) : D T (.code b F s (seqK (fun F s => D T (.code c F s Q)) Q)) := by
  cases h with
  | seq h hn he =>
    refine h.mono_code fun e F s k => ?_
    cases e with
    | normal => exact hn F s k
    | ret => exact he .ret F s (by simp) k
    | exit i => exact he (.exit i) F s (by simp) k

theorem W.assoc {a b c : Code} {Q : Post} (h : D T (.code (.seq a (.seq b c)) F s Q)) : D T (.code (.seq (.seq a b) c) F s Q) := by
  cases h with
  | seq h hn he =>
    refine W.seq (W.seq (h.mono_code fun e F s k => ?_))
    cases e with
    | normal => exact (hn F s k).elim_seq
    | ret => exact he .ret F s (by simp) k
    | exit i => exact he (.exit i) F s (by simp) k

theorem ev_t (F : Frame) (n : Nat) : (Opd.t n).ev F = F n := rfl
theorem ev_c (F : Frame) (v : V) : (Opd.c v).ev F = v := rfl
theorem put_at (F : Frame) (d : Nat) (v : V) (i : Nat) : (F.put d v) i = if i = d then v else F i := by
  simp only [Frame.put]
  by_cases h : i = d
  · subst h; simp
  · rw [if_neg h, show Nat.beq i d = false by rw [Bool.eq_false_iff, ne_eq, Nat.beq_eq]; exact h]; rfl
theorem frame_at (args : List V) (i : Nat) : frame args i = args.getD i V.undef := rfl
theorem putO_some (F : Frame) (d : Nat) (v : V) : F.putO (some d) v = F.put d v := rfl
theorem putO_none (F : Frame) (v : V) : F.putO none v = F := rfl

end Go.VS
