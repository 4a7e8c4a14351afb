/-
  Part 39 of 43 of the proof of SubcorpusSetsSaid, by an abstract machine that stands in for the Go program: lemmas without conditions of their own.
-/
import Derived.Test.YtclfgmlnechmkaaGreatP38
import Derived.Test.YtclfgmlnechmkaaGreatP02
set_option linter.unusedSimpArgs false
set_option linter.unusedVariables false
namespace Go.VS

inductive Job where
  | call (f : Nat) (args : List V) (s : St)
  | code (c : Code) (F : Frame) (s : St)
  | ops (l : List Lo) (F : Frame) (s : St)
  | tree (t : Tree) (F : Frame) (s : St)

inductive Out where
  | val (v : V) (s : St)
  | code (e : Exit) (F : Frame) (s : St)
  | ops (F : Frame) (s : St)

mutual
/-- Equality of values, decided. -/
def V.eqb : V → V → Bool
  | .int k n, .int k' n' => (k == k') && (n == n')
  | .bool a, .bool b => a == b
  | .str a, .str b => a == b
  | .nilsl, .nilsl => true
  | .sl c g o xs, .sl c' g' o' ys => Nat.beq c c' && Nat.beq g g' && Nat.beq o o' && V.eqbs xs ys
  | .row r k o n, .row r' k' o' n' => Nat.beq r r' && Nat.beq k k' && Nat.beq o o' && Nat.beq n n'
  | .nilptr, .nilptr => true
  | .ptr a b, .ptr c d => Nat.beq a c && Nat.beq b d
  | .eptr a b c d, .eptr a' b' c' d' => Nat.beq a a' && Nat.beq b b' && Nat.beq c c' && Nat.beq d d'
  | .cptr a b c d xs, .cptr a' b' c' d' ys => Nat.beq a a' && Nat.beq b b' && Nat.beq c c' && Nat.beq d d' && V.eqbs xs ys
  | .agg xs, .agg ys => V.eqbs xs ys
  | .nilfn, .nilfn => true
  | .fn f xs ys, .fn f' xs' ys' => Nat.beq f f' && V.eqbs xs xs' && V.eqbs ys ys'
  | .tup xs, .tup ys => V.eqbs xs ys
  | _, _ => false
def V.eqbs : List V → List V → Bool
  | [], [] => true
  | x :: xs, y :: ys => V.eqb x y && V.eqbs xs ys
  | _, _ => false
end

mutual
theorem V.eqb_eq : ∀ {x y : V}, V.eqb x y = true → x = y := by
  intro x y h
  cases x <;> cases y <;> simp only [V.eqb, Bool.false_eq_true, Bool.and_eq_true, beq_iff_eq, Nat.beq_eq] at h
  case int.int => obtain ⟨rfl, rfl⟩ := h; rfl
  case bool.bool => subst h; rfl
  case str.str => subst h; rfl
  case nilsl.nilsl => rfl
  case sl.sl => obtain ⟨⟨⟨rfl, rfl⟩, rfl⟩, h⟩ := h; rw [V.eqbs_eq h]
  case row.row => obtain ⟨⟨⟨rfl, rfl⟩, rfl⟩, rfl⟩ := h; rfl
  case nilptr.nilptr => rfl
  case ptr.ptr => obtain ⟨rfl, rfl⟩ := h; rfl
  case eptr.eptr => obtain ⟨⟨⟨rfl, rfl⟩, rfl⟩, rfl⟩ := h; rfl
  case cptr.cptr => obtain ⟨⟨⟨⟨rfl, rfl⟩, rfl⟩, rfl⟩, h⟩ := h; rw [V.eqbs_eq h]
  case agg.agg => rw [V.eqbs_eq h]
  case nilfn.nilfn => rfl
  case fn.fn => obtain ⟨⟨rfl, h⟩, h'⟩ := h; rw [V.eqbs_eq h, V.eqbs_eq h']
  case tup.tup => rw [V.eqbs_eq h]
theorem V.eqbs_eq : ∀ {xs ys : List V}, V.eqbs xs ys = true → xs = ys
  | [], [], _ => rfl
  | [], _ :: _, h => by simp [V.eqbs] at h
  | _ :: _, [], h => by simp [V.eqbs] at h
  | x :: xs, y :: ys, h => by
    simp only [V.eqbs, Bool.and_eq_true] at h
    rw [V.eqb_eq h.1, V.eqbs_eq h.2]
end

def optEqb : Option V → Option V → Bool
  | none, none => true
  | some a, some b => V.eqb a b
  | _, _ => false
theorem optEqb_eq {a b : Option V} (h : optEqb a b = true) : a = b := by
  cases a <;> cases b <;> simp only [optEqb, Bool.false_eq_true] at h
  · rfl
  · rw [V.eqb_eq h]
def Ent.eqb : Ent → Ent → Bool
  | .obj a, .obj b => V.eqbs a b
  | .row a, .row b => V.eqbs a b
  | .tip a b c, .tip a' b' c' => Nat.beq a a' && Nat.beq b b' && Nat.beq c c'
  | _, _ => false
def optEnt : Option Ent → Option Ent → Bool
  | none, none => true
  | some a, some b => Ent.eqb a b
  | _, _ => false
theorem optEnt_eq {a b : Option Ent} (h : optEnt a b = true) : a = b := by
  cases a <;> cases b <;> simp only [optEnt, Bool.false_eq_true] at h
  · rfl
  · rename_i x y
    cases x <;> cases y <;> simp only [Ent.eqb, Bool.false_eq_true, Bool.and_eq_true, Nat.beq_eq] at h
    · rw [V.eqbs_eq h]
    · rw [V.eqbs_eq h]
    · obtain ⟨⟨rfl, rfl⟩, rfl⟩ := h; rfl

def Chk.okb (F : Frame) (s s' : St) : Chk → Bool
  | .ld k ag a => optEqb (loadV k ag (a.ev F) s') (loadV k ag (a.ev F) s)
  | .ent a => match (a.ev F).ent with | some i => optEnt (s'.mem i) (s.mem i) | none => true
theorem Chk.okb_ok {F : Frame} {s s' : St} {k : Chk} (h : k.okb F s s' = true) : k.ok F s s' := by
  cases k with
  | ld k ag a => exact optEqb_eq h
  | ent a =>
    simp only [Chk.okb] at h
    simp only [Chk.ok]
    split at h
    · rename_i i hi; rw [hi]; exact optEnt_eq h
    · rename_i hi; rw [hi]; trivial
def okbs (F : Frame) (s s' : St) : List Chk → Bool
  | [] => true
  | k :: r => k.okb F s s' && okbs F s s' r
theorem okbs_ok {F : Frame} {s s' : St} {l : List Chk} (h : okbs F s s' l = true) : ∀ k ∈ l, k.ok F s s' := by
  induction l with
  | nil => simp
  | cons x r ih =>
    simp only [okbs, Bool.and_eq_true] at h
    intro k hk
    rcases List.mem_cons.1 hk with rfl | hk
    · exact Chk.okb_ok h.1
    · exact ih h.2 k hk

/-- What is computed now, not later. -/
def V.now : V → Bool
  | .int _ n => n == n
  | _ => true

inductive Kind where
  | call (f : Opd) (args : List Opd)
  | frz (t : Nat)
  | frzc (a : Opd) (d : Nat)
  | plain
def VOp.kind : VOp → Kind
  | .call f args => .call f args
  | .frz t => .frz t
  | .frzc a d => .frzc a d
  | .mv .. => .plain
  | .pick .. => .plain
  | .alloc .. => .plain
  | .box .. => .plain
  | .build .. => .plain
  | .mksl .. => .plain
  | .mkrow .. => .plain
  | .load .. => .plain
  | .store .. => .plain
  | .nilck .. => .plain
  | .bin .. => .plain
  | .eq .. => .plain
  | .un .. => .plain
  | .conv .. => .plain
  | .mkfn .. => .plain
  | .mkifc .. => .plain
  | .slice .. => .plain
  | .fld .. => .plain
  | .getf .. => .plain
  | .idx .. => .plain
  | .idxa .. => .plain
  | .idxs .. => .plain
  | .idxv .. => .plain
  | .ext .. => .plain
  | .len .. => .plain
  | .append .. => .plain
  | .copy .. => .plain
  | .clear .. => .plain
  | .mm .. => .plain
  | .cap .. => .plain
  | .appn .. => .plain
  | .rng .. => .plain
  | .nxt .. => .plain
  | .fail => .plain
theorem VOp.kind_call {op : VOp} {f : Opd} {args : List Opd} (h : op.kind = .call f args) : op = .call f args := by
  cases op <;> simp only [VOp.kind, reduceCtorEq, Kind.call.injEq] at h
  obtain ⟨rfl, rfl⟩ := h; rfl
theorem VOp.kind_frz {op : VOp} {t : Nat} (h : op.kind = .frz t) : op = .frz t := by
  cases op <;> simp only [VOp.kind, reduceCtorEq, Kind.frz.injEq] at h
  subst h; rfl
theorem VOp.kind_frzc {op : VOp} {a : Opd} {d : Nat} (h : op.kind = .frzc a d) : op = .frzc a d := by
  cases op <;> simp only [VOp.kind, reduceCtorEq, Kind.frzc.injEq] at h
  obtain ⟨rfl, rfl⟩ := h; rfl

def stepE (T : Nat → Option FnDef) (rec : Job → Option Out) : Job → Option Out
  | .call f args s =>
    match T f with
    | some (.body fn) =>
      match Nat.beq args.length fn.nargs with
      | true =>
        match rec (.code fn.code (frame args) s) with
        | some (.code e F s) =>
          match e with
          | .exit _ => none
          | _ => match resAll F s fn.res with | some l => some (.val (resV l) s) | none => none
        | _ => none
      | false => none
    | some (.prim g) => match g args s with | some (v, s) => some (.val v s) | none => none
    | none => none
  | .code c F s =>
    match c with
    | .skip => some (.code .normal F s)
    | .ret => some (.code .ret F s)
    | .exit n => some (.code (.exit n) F s)
    | .ops l => match rec (.ops l F s) with | some (.ops F s) => some (.code .normal F s) | _ => none
    | .tree t => match rec (.tree t F s) with | some (.ops F s) => some (.code .normal F s) | _ => none
    | .seq a b =>
      match rec (.code a F s) with
      | some (.code e F s) => match e with | .normal => rec (.code b F s) | e => some (.code e F s)
      | _ => none
    | .cond c a b => match c.ev F with | .bool true => rec (.code a F s) | .bool false => rec (.code b F s) | _ => none
    | .block n a =>
      match rec (.code a F s) with
      | some (.code e F s) =>
        match e with
        | .exit m => match Nat.beq m n with | true => some (.code .normal F s) | false => some (.code (.exit m) F s)
        | e => some (.code e F s)
      | _ => none
    | .loop a =>
      match rec (.code a F s) with
      | some (.code e F s) => match e with | .normal => rec (.code (.loop a) F s) | e => some (.code e F s)
      | _ => none
  | .tree t F s =>
    match t with
    | .nil => some (.ops F s)
    | .cons l r => match rec (.ops [l] F s) with | some (.ops F s) => rec (.tree r F s) | _ => none
    | .fork _ _ => none
  | .ops l F s =>
    match l with
    | [] => some (.ops F s)
    | l :: r =>
      match l.wanted F with
      | true =>
        match l.op.kind with
        | .call f args =>
          match f.ev F with
          | .fn id fi ca =>
            match rec (.call id (fi ++ args.map (Opd.ev F) ++ ca) s) with
            | some (.val v s') => match V.now v && okbs F s s' l.chk with | true => rec (.ops r (F.putO l.d v) s') | false => none
            | _ => none
          | _ => none
        | .frz t =>
          match l.chk, l.d, freezeV (F t) s with
          | [], none, some (v, s') => rec (.ops r (F.put t v) s')
          | _, _, _ => none
        | .frzc a d =>
          match l.chk, l.d, frzcV (a.ev F) d s with
          | [], none, some s' => rec (.ops r F s')
          | _, _, _ => none
        | .plain =>
          match opS l.op F s with
          | some (v, s') => match V.now v && okbs F s s' l.chk with | true => rec (.ops r (F.putO l.d v) s') | false => none
          | none => none
      | false => rec (.ops r (F.putO l.d V.undef) s)

def ev (T : Nat → Option FnDef) (n : Nat) : Job → Option Out := Nat.rec (fun _ => none) (fun _ rec => stepE T rec) n

/-- What a computed run says. -/
def Said (T : Nat → Option FnDef) : Job → Out → Prop
  | .call f args s, .val v s' => D T (.call f args s (fun v1 s1 => v1 = v ∧ s1 = s'))
  | .code c F s, .code e F' s' => D T (.code c F s (fun e1 F1 s1 => e1 = e ∧ F1 = F' ∧ s1 = s'))
  | .ops l F s, .ops F' s' => D T (.ops l F s (fun F1 s1 => F1 = F' ∧ s1 = s'))
  | .tree t F s, .ops F' s' => D T (.tree t F s (fun F1 s1 => F1 = F' ∧ s1 = s'))
  | _, _ => False

theorem ev_said {T : Nat → Option FnDef} : ∀ (n : Nat) (j : Job) (o : Out), ev T n j = some o → Said T j o := by
  intro n
  induction n with
  | zero => intro j o h; cases h
  | succ n ih =>
    intro j o h
    have h : stepE T (ev T n) j = some o := h
    cases j with
    | call f args s =>
      simp only [stepE] at h
      split at h
      · rename_i fn hT
        split at h
        · rename_i hn
          split at h
          · rename_i e F s1 hr
            have hd := ih _ _ hr
            simp only [Said] at hd
            have key : ∀ l, (∀ m, e ≠ .exit m) → resAll F s1 fn.res = some l → Said T (.call f args s) (.val (resV l) s1) := by
              intro l he hl
              refine .body hT (by simpa using hn) (hd.mono_code ?_)
              rintro e1 F1 s2 ⟨rfl, rfl, rfl⟩
              simp only [retK]
              cases e1 with
              | exit m => exact absurd rfl (he m)
              | _ => simp [hl]
            split at h
            · cases h
            · rename_i hne
              split at h
              · rename_i l hl
                injection h with h; subst h
                exact key l (fun m hm => hne m hm) hl
              · cases h
          · cases h
        · cases h
      · rename_i g hT
        split at h
        · rename_i v s' hg
          injection h with h; subst h
          exact .prim hT hg ⟨rfl, rfl⟩
        · cases h
      · cases h
    | code c F s =>
      cases c with
      | skip => simp only [stepE, Option.some.injEq] at h; subst h; exact .skip ⟨rfl, rfl, rfl⟩
      | ret => simp only [stepE, Option.some.injEq] at h; subst h; exact .ret ⟨rfl, rfl, rfl⟩
      | exit m => simp only [stepE, Option.some.injEq] at h; subst h; exact .exit ⟨rfl, rfl, rfl⟩
      | ops l =>
        simp only [stepE] at h
        split at h
        · rename_i F1 s1 hr
          injection h with h; subst h
          have hd := ih _ _ hr
          refine .opsc hd ?_
          rintro F s ⟨rfl, rfl⟩; exact ⟨rfl, rfl, rfl⟩
        · cases h
      | tree l =>
        simp only [stepE] at h
        split at h
        · rename_i F1 s1 hr
          injection h with h; subst h
          have hd := ih _ _ hr
          refine .treec hd ?_
          rintro F s ⟨rfl, rfl⟩; exact ⟨rfl, rfl, rfl⟩
        · cases h
      | seq a b =>
        simp only [stepE] at h
        split at h
        · rename_i e F1 s1 hr
          have hd := ih _ _ hr
          split at h
          · have hd2 := ih _ _ h
            cases o <;> simp only [Said] at hd2
            refine .seq hd ?_ ?_
            · rintro F s ⟨_, rfl, rfl⟩; exact hd2
            · rintro e F s hne ⟨rfl, _⟩; exact absurd rfl hne
          · injection h with h; subst h
            rename_i hne
            refine .seq hd ?_ ?_
            · rintro F s ⟨rfl, _⟩; exact absurd rfl hne
            · rintro e F s _ ⟨rfl, rfl, rfl⟩; exact ⟨rfl, rfl, rfl⟩
        · cases h
      | cond c a b =>
        simp only [stepE] at h
        split at h
        · rename_i hc
          have hd := ih _ _ h
          cases o <;> simp only [Said] at hd
          exact .condT hc hd
        · rename_i hc
          have hd := ih _ _ h
          cases o <;> simp only [Said] at hd
          exact .condF hc hd
        · cases h
      | block m a =>
        simp only [stepE] at h
        split at h
        · rename_i e F1 s1 hr
          have hd := ih _ _ hr
          simp only [Said] at hd
          split at h
          · rename_i m'
            split at h
            · rename_i hb
              injection h with h; subst h
              refine .block (hd.mono_code ?_)
              rintro e F s ⟨rfl, rfl, rfl⟩
              simp [blockK, hb]
            · rename_i hb
              injection h with h; subst h
              refine .block (hd.mono_code ?_)
              rintro e F s ⟨rfl, rfl, rfl⟩
              simp [blockK, hb]
          · injection h with h; subst h
            rename_i hne
            refine .block (hd.mono_code ?_)
            rintro e F s ⟨rfl, rfl, rfl⟩
            cases e with
            | exit m => exact absurd rfl (hne m)
            | _ => exact ⟨rfl, rfl, rfl⟩
        · cases h
      | loop a =>
        simp only [stepE] at h
        split at h
        · rename_i e F1 s1 hr
          have hd := ih _ _ hr
          split at h
          · have hd2 := ih _ _ h
            cases o <;> simp only [Said] at hd2
            refine .loop hd ?_ ?_
            · rintro F s ⟨_, rfl, rfl⟩; exact hd2
            · rintro e F s hne ⟨rfl, _⟩; exact absurd rfl hne
          · injection h with h; subst h
            rename_i hne
            refine .loop hd ?_ ?_
            · rintro F s ⟨rfl, _⟩; exact absurd rfl hne
            · rintro e F s _ ⟨rfl, rfl, rfl⟩; exact ⟨rfl, rfl, rfl⟩
        · cases h
    | tree t F s =>
      cases t with
      | nil => simp only [stepE, Option.some.injEq] at h; subst h; exact .tnil ⟨rfl, rfl⟩
      | cons l r =>
        simp only [stepE] at h
        split at h
        · rename_i F1 s1 hr
          have hd := ih _ _ hr
          have hd2 := ih _ _ h
          cases o <;> simp only [Said] at hd2
          refine .tcons hd ?_
          rintro F s ⟨rfl, rfl⟩; exact hd2
        · cases h
      | fork a b => simp [stepE] at h
    | ops l F s =>
      cases l with
      | nil => simp only [stepE, Option.some.injEq] at h; subst h; exact .nil ⟨rfl, rfl⟩
      | cons l r =>
        simp only [stepE] at h
        split at h
        · rename_i hw
          split at h
          · rename_i f args hk
            have hop := VOp.kind_call hk
            split at h
            · rename_i id fi ca hf
              split at h
              · rename_i v s' hr
                have hd := ih _ _ hr
                split at h
                · rename_i hb
                  simp only [Bool.and_eq_true] at hb
                  have hd2 := ih _ _ h
                  cases o <;> simp only [Said] at hd2
                  refine .call hw hop hf hd ?_ ?_
                  · rintro v1 s1 ⟨rfl, rfl⟩; exact okbs_ok hb.2
                  · rintro v1 s1 ⟨rfl, rfl⟩; exact hd2
                · cases h
              · cases h
            · cases h
          · rename_i t hk
            have hop := VOp.kind_frz hk
            split at h
            · rename_i v s' h1 h2 h3
              have hd2 := ih _ _ h
              cases o <;> simp only [Said] at hd2
              exact .frz hw hop h3 h1 h2 hd2
            · cases h
          · rename_i a d hk
            have hop := VOp.kind_frzc hk
            split at h
            · rename_i s' h1 h2 h3
              have hd2 := ih _ _ h
              cases o <;> simp only [Said] at hd2
              exact .frzc hw hop h3 h1 h2 hd2
            · cases h
          · split at h
            · rename_i v s' ho
              split at h
              · rename_i hb
                simp only [Bool.and_eq_true] at hb
                have hd2 := ih _ _ h
                cases o <;> simp only [Said] at hd2
                exact .step hw ho (okbs_ok hb.2) hd2
              · cases h
            · cases h
        · rename_i hw
          have hd2 := ih _ _ h
          cases o <;> simp only [Said] at hd2
          exact .skipped hw hd2

/-! ### what is computed from the empty store -/

def V.scalar : V → Bool
  | .int _ _ => true
  | .bool _ => true
  | .str _ => true
  | _ => false
theorem VRel.scalar {σ : Nat → Nat} {g g' : G} {v : Value} {x : V} (h : VRel σ g v x) (hx : x.scalar = true) : VRel σ g' v x := by
  cases h <;> simp only [V.scalar, Bool.false_eq_true] at hx
  · exact .int _ _
  · exact .bool _
  · rename_i h; exact .str h

/-- Functions of plain data whose answer the kernel has computed. -/
def evIs (T : Nat → Option FnDef) (n f : Nat) (args : List V) (v : V) : Bool :=
  match ev T n (.call f args St0) with
  | some (.val v1 _) => V.eqb v1 v
  | _ => false

theorem Sim.grownW {σ : Nat → Nat} {g : G} {s : St} {w w' : World} (h : Sim σ g s w) (ho : ∀ b, b < w.heap.size → w'.heap[b]? = w.heap[b]?) (hs : w.heap.size ≤ w'.heap.size) : Sim σ g s w' := by
  refine h.step (fun _ => False) (G.Le.refl g) ?_ (Nat.le_refl _) (fun _ _ _ h => h) (fun _ _ _ => rfl) ?_ (fun _ _ h => h.elim) (fun _ _ _ _ _ _ h => h.elim) (fun _ _ _ _ _ h => h.elim) hs (fun b hb => h.own b (by omega))
  · intro b p v hv
    have hc := h.fixc _ _ _ hv
    have hlt := World.block_lt_of_cell? w _ hc
    simp only [World.cell?] at hc ⊢
    rw [ho b hlt]; exact hc
  · intro b id hb _
    refine ⟨hb, fun _ => rfl, ho b ?_⟩
    by_cases hlt : b < w.heap.size
    · exact hlt
    · rw [h.own b (by omega)] at hb; cases hb

/-- A call at plain data, of which the judgement over the empty store is known, at any store. -/
theorem CallSound.anywhere {P : Program} {σ : Nat → Nat} {f : Nat} {args : List V} {v : V} (h : CallSound P σ f args St0 (fun v1 _ => v1 = v)) (ha : ∀ x ∈ args, x.scalar = true) (hv : v.scalar = true) (s : St) : CallSound P σ f args s (fun v1 s1 => v1 = v ∧ s1 = s) := by
  refine ⟨h.1, fun g w vargs hsim hargs => ?_⟩
  have hx := h.2 G0 w vargs (Sim.empty σ w) ⟨hargs.1, fun i u x hu hx => (hargs.2 i u x hu hx).scalar (ha x (List.mem_of_getElem? hx))⟩
  refine hx.mono fun e w' h => ?_
  obtain ⟨val, v1, s1, g1, rfl, rfl, hvr, hk, _⟩ := h
  have ho : ∀ b, b < w.heap.size → w'.heap[b]? = w.heap[b]? := fun b hb => (hk.own b hb rfl).2
  exact ⟨val, v1, s, g, rfl, ⟨rfl, rfl⟩, hvr.scalar hv, ⟨G.Le.refl g, fun b hb hn => ⟨hn, ho b hb⟩, hk.size, hk.os, hk.tape, hk.output, hk.drawn⟩, hsim.grownW ho hk.size⟩

theorem evIs_sound {P : Program} {σ : Nat → Nat} {T : Nat → Option FnDef} (L : Linked P σ T) {n f : Nat} {args : List V} {v : V} (h : evIs T n f args v = true) : CallSound P σ f args St0 (fun v1 _ => v1 = v) := by
  simp only [evIs] at h
  split at h
  · rename_i v1 s1 hr
    have hd := ev_said n _ _ hr
    have hs : JS P σ (.call f args St0 (fun v2 _ => v2 = v)) := D.sound L (D.mono_call hd (by rintro v2 s2 ⟨rfl, rfl⟩; exact V.eqb_eq h))
    exact hs
  · cases h

/-- A function that is known at a list of arguments only. -/
def tabP (tab : List (List V × V)) (args : List V) (s : St) : Option (V × St) :=
  match tab with
  | [] => none
  | (a, v) :: r => if V.eqbs a args then some (v, s) else tabP r args s
theorem tab_prim {P : Program} {σ : Nat → Nat} {T : Nat → Option FnDef} (L : Linked P σ T) {n f : Nat} {tab : List (List V × V)} (h : tab.all (fun x => evIs T n f x.1 x.2 && x.1.all V.scalar && x.2.scalar) = true) : PrimSound P σ f (tabP tab) := by
  intro args s v s' hs
  induction tab with
  | nil => cases hs
  | cons x r ih =>
    obtain ⟨a, u⟩ := x
    simp only [List.all_cons, Bool.and_eq_true] at h
    obtain ⟨⟨⟨h1, h2⟩, h3⟩, h4⟩ := h
    simp only [tabP] at hs
    split at hs
    · rename_i he
      have := V.eqbs_eq he
      subst this
      simp only [Option.some.injEq, Prod.mk.injEq] at hs
      obtain ⟨rfl, rfl⟩ := hs
      exact (evIs_sound L h1).anywhere (by simpa using h2) h3 s
    · exact ih h4 hs
end Go.VS
