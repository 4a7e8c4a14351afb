/-
  Part 37 of 43 of the proof of SubcorpusSetsSaid, by an abstract machine that stands in for the Go program: lemmas without conditions of their own.
-/
import Derived.Test.YtclfgmlnechmkaaGreatP36
set_option linter.unusedSimpArgs false
set_option linter.unusedVariables false
namespace Go.VS

variable {P : Program} {σ : Nat → Nat} {g g' : G} {s s' : St} {w w' : World}

def okDraw (P : Program) (σ : Nat → Nat) (n : Nat) (ops : Array Oper) : List Lo → Bool
  | [] => okPar P σ n ops .nil [] [] false
  | l :: ls =>
    match l.op with
    | .frz t => l.d.isNone && l.gd.isNone && Nat.blt t n && okDraw P σ n ops ls
    | .frzc a _ => l.d.isNone && l.gd.isNone && isTmp a && okDraw P σ n ops ls
    | _ => okPar P σ n ops (ofLos (l :: ls)) [] [] false

def okReg (P : Program) (σ : Nat → Nat) (n : Nat) (ops : Array Oper) (draw : Bool) (ls : List Lo) : Bool :=
  match draw with
  | true => okDraw P σ n ops ls
  | false => okOps P σ n ops ls ops.toList

theorem draw_sound {n : Nat} {id : Nat} {ops : Array Oper} {Q : Go.Exit → Act → World → Prop} (hm : P.follows .mixedOrders = true) : ∀ (ls : List Lo) (F : Frame) (s : St) (g : G) (w : World) (a : Act) (K : Frame → St → Prop),
    okDraw P σ n ops ls = true → SOps P σ ls F s K → FRel σ g a.tmps F → a.tmps.size = n → a.defers = [] → Sim σ g s w → (∀ a' w', Res σ n g w K a' w' → Q .normal a' w') → (Go.Code.region id ops true).wp P Q a w := by
  intro ls
  induction ls with
  | nil => intro F s g w a K hok hS hF hs hdf hsim hQ; exact par_sound (K := K) hm hok (show STree P σ .nil F s K from hS) hF hs hdf hsim hQ
  | cons l ls ih =>
    intro F s g w a K hok hS hF hs hdf hsim hQ
    rw [okDraw] at hok
    split at hok
    · rename_i t hlo
      simp only [Bool.and_eq_true, Option.isNone_iff_eq_none] at hok
      obtain ⟨⟨⟨hd, hg⟩, _⟩, hrest⟩ := hok
      have hw : l.wanted F = true := by simp [Lo.wanted, hg]
      simp only [SOps, hw, if_true, hlo] at hS
      obtain ⟨_, v, s', hf, hS'⟩ := hS
      obtain ⟨g', h1, h2, h3⟩ := freeze_ok hsim (hF t) hf
      refine ih (F.put t v) s' g' w a K hrest hS' (fun i => ?_) hs hdf h3 (fun a' w' hr => hQ a' w' (hr.from h2))
      simp only [Frame.put]
      by_cases e : i = t
      · subst e; simpa using h1
      · rw [beqf e]; exact (hF.mono h2.le) i
    · rename_i c cd hlo
      simp only [Bool.and_eq_true, Option.isNone_iff_eq_none] at hok
      obtain ⟨⟨⟨hd, hg⟩, ht⟩, hrest⟩ := hok
      have hw : l.wanted F = true := by simp [Lo.wanted, hg]
      simp only [SOps, hw, if_true, hlo] at hS
      obtain ⟨_, s', hf, hS'⟩ := hS
      obtain ⟨v, hv⟩ := isTmp_rel hF ht
      obtain ⟨g', h2, h3⟩ := frzc_ok hsim hv hf
      exact ih F s' g' w a K hrest hS' (hF.mono h2.le) hs hdf h3 (fun a' w' hr => hQ a' w' (hr.from h2))
    · exact par_sound hm hok (STree.of _ _ _ _ hS) hF hs hdf hsim hQ

theorem reg_sound {n : Nat} {id : Nat} {ops : Array Oper} {draw : Bool} {Q : Go.Exit → Act → World → Prop} (hm : P.follows .mixedOrders = true) {ls : List Lo} {F : Frame} {a : Act} {K : Frame → St → Prop}
    (hok : okReg P σ n ops draw ls = true) (hS : SOps P σ ls F s K) (hF : FRel σ g a.tmps F) (hs : a.tmps.size = n) (hdf : a.defers = []) (hsim : Sim σ g s w) (hQ : ∀ a' w', Res σ n g w K a' w' → Q .normal a' w') :
    (Go.Code.region id ops draw).wp P Q a w := by
  cases draw with
  | true => exact draw_sound hm ls F s g w a K hok hS hF hs hdf hsim hQ
  | false => exact wp_region_list (seq_sound ls ops.toList a w g F s K hok hS hF hs hdf hsim hQ)

def okCode (P : Program) (σ : Nat → Nat) (n : Nat) : Go.Code → Code → Bool
  | .skip, .skip => true
  | .label _, .skip => true
  | .ret, .ret => true
  | .exit i, .exit j => Nat.beq i j
  | .region _ ops draw, .ops ls => okReg P σ n ops draw ls
  | .region _ ops draw, .tree t => draw && okPar P σ n ops t [] [] false
  | .seq a b, .seq c d => okCode P σ n a c && okCode P σ n b d
  | .cond x a b, .cond y c d => okOpd σ x y && okCode P σ n a c && okCode P σ n b d
  | .block i a, .block j c => Nat.beq i j && okCode P σ n a c
  | .loop a, .loop c => okCode P σ n a c
  | _, _ => false

/-- Inside a loop, its body ahead. -/
def LoopW (P : Program) (c : Go.Code) (Q : Go.Exit → Act → World → Prop) (a : Act) (w : World) : Prop :=
  ∀ (b : Go.Frame) (k : List Item) (cs : List Go.Frame), ∃ e a' w', Q e a' w' ∧ Arrives P (lone (b.at a (.code c :: .inLoop c :: k)) cs w) b k cs e a' w'

theorem LoopW.wp {c : Go.Code} {Q : Go.Exit → Act → World → Prop} {a : Act} (h : LoopW P c Q a w) : (Go.Code.loop c).wp P Q a w := fun b k cs => by
  obtain ⟨e, a', w', hq, harr⟩ := h b k cs
  exact ⟨e, a', w', hq, .of_steps (.one step_loop) harr⟩

theorem LoopW.step {c : Go.Code} {Q : Go.Exit → Act → World → Prop} {a : Act} (h : c.wp P (Go.Exit.then (LoopW P c Q) Q) a w) : LoopW P c Q a w := fun b k cs => by
  obtain ⟨e, a₁, w₁, hq, harr⟩ := h b (.inLoop c :: k) cs
  cases e with
  | normal =>
    obtain ⟨e₂, a₂, w₂, hq₂, harr₂⟩ := hq b k cs
    exact ⟨e₂, a₂, w₂, hq₂, .of_steps (Steps.trans harr (.one step_inLoop)) harr₂⟩
  | exit id => exact ⟨_, a₁, w₁, hq, .pass (x := .inLoop c) rfl (fun _ _ => .inl (by simp)) harr⟩
  | goto l => exact ⟨_, a₁, w₁, hq, .pass (x := .inLoop c) rfl (fun _ _ => .inl (by simp)) harr⟩
  | ret => exact ⟨_, a₁, w₁, hq, .pass (x := .inLoop c) rfl (fun _ _ => .inl (by simp)) harr⟩
  | panic ch => exact ⟨_, a₁, w₁, hq, .pass (x := .inLoop c) rfl (fun _ _ => .inl (by simp)) harr⟩
  | outgrown => exact ⟨_, a₁, w₁, hq, .pass (x := .inLoop c) rfl (fun _ _ => .inl (by simp)) harr⟩

theorem LoopW.mono {c : Go.Code} {Q Q' : Go.Exit → Act → World → Prop} {a : Act} (h : LoopW P c Q a w) (hq : ∀ e a w, Q e a w → Q' e a w) : LoopW P c Q' a w := fun b k cs =>
  let ⟨e, a', w', h1, h2⟩ := h b k cs
  ⟨e, a', w', hq _ _ _ h1, h2⟩

def CodeS (P : Program) (σ : Nat → Nat) (c : Code) (F : Frame) (s : St) (Q : Post) : Prop :=
  ∀ n c0 g w (a : Act), okCode P σ n c0 c = true → FRel σ g a.tmps F → a.tmps.size = n → a.defers = [] → Sim σ g s w → c0.wp P (ResE σ n g w Q) a w

def LoopS (P : Program) (σ : Nat → Nat) (c : Code) (F : Frame) (s : St) (Q : Post) : Prop :=
  ∀ n c0 g w (a : Act), okCode P σ n c0 c = true → FRel σ g a.tmps F → a.tmps.size = n → a.defers = [] → Sim σ g s w → LoopW P c0 (ResE σ n g w Q) a w

/-! ### functions -/

def okRes (P : Program) (n : Nat) : ResultVar → ResV → Bool
  | .tmp t, .t u => Nat.beq t u && Nat.blt t n
  | .cell a t, .cell b k ag => Nat.beq a b && tyK P t k ag
  | _, _ => false

def okFn (P : Program) (σ : Nat → Nat) (gf : Func) (fn : VFn) : Bool :=
  (match gf.body with | some c => okCode P σ fn.ntmps c fn.code | none => false) && Nat.beq gf.ntmps fn.ntmps && Nat.ble fn.nargs fn.ntmps && all2 (okRes P fn.ntmps) gf.results.toList fn.res && !(gf.name == "runtime.NumGoroutine")

/-- A function whose meaning is laid down. -/
def PrimSound (P : Program) (σ : Nat → Nat) (f : Nat) (p : List V → St → Option (V × St)) : Prop :=
  ∀ args s v s', p args s = some (v, s') → CallSound P σ f args s (fun v1 s1 => v1 = v ∧ s1 = s')

structure Linked (P : Program) (σ : Nat → Nat) (T : Nat → Option FnDef) : Prop where
  mixed : P.follows .mixedOrders = true
  body : ∀ f fn, T f = some (.body fn) → ∃ gf, P.funcs[σ f]? = some gf ∧ okFn P σ gf fn = true
  prim : ∀ f p, T f = some (.prim p) → PrimSound P σ f p

theorem okRes_run {n : Nat} {F : Frame} {tmps : Array Value} (hF : FRel σ g tmps F) (hsim : Sim σ g s w) (f : ResultVar → Sem Value) (hf : ∀ u, f (.tmp u) = pure (tmps.getD u Go.undef))
    (hc : ∀ a t, f (.cell a t) = (do loadVar t (← asAddr (tmps.getD a Go.undef)))) : ∀ (rs : List ResultVar) (qs : List ResV) (l : List V), all2 (okRes P n) rs qs = true → resAll F s qs = some l →
    ∃ vs : List Value, (rs.mapM f).run P w = .ok vs w ∧ vs.length = l.length ∧ ∀ (i : Nat) v x, vs[i]? = some v → l[i]? = some x → VRel σ g v x
  | [], [], l, _, h => by
    simp only [resAll, Option.some.injEq] at h
    subst h
    exact ⟨[], by simp, rfl, by simp⟩
  | [], _ :: _, _, h, _ => by simp [all2] at h
  | _ :: _, [], _, h, _ => by simp [all2] at h
  | r :: rs, q :: qs, l, hok, h => by
    simp only [all2, Bool.and_eq_true] at hok
    simp only [resAll] at h
    split at h
    case h_2 => cases h
    rename_i x l' hx hl
    simp only [Option.some.injEq] at h
    subst h
    obtain ⟨vs, h1, h2, h3⟩ := okRes_run hF hsim f hf hc rs qs l' hok.2 hl
    have : ∃ v, (f r).run P w = .ok v w ∧ VRel σ g v x := by
      cases r with
      | tmp t =>
        cases q with
        | cell => simp [okRes] at hok
        | t u =>
          simp only [okRes, Bool.and_eq_true, Nat.beq_eq] at hok
          simp only [ResV.get, Option.some.injEq] at hx
          obtain ⟨⟨rfl, _⟩, _⟩ := hok
          exact ⟨_, by rw [hf]; rfl, hx ▸ hF t⟩
      | cell a t =>
        cases q with
        | t => simp [okRes] at hok
        | cell b k ag =>
          simp only [okRes, Bool.and_eq_true, Nat.beq_eq] at hok
          obtain ⟨⟨rfl, hk⟩, _⟩ := hok
          simp only [ResV.get] at hx
          obtain ⟨d, i, hd, hag, hi, hs⟩ := tyK_some hk
          obtain ⟨val, h1, h2⟩ := load_ok (P := P) hsim (hF a) hx hd hag hi hs
          refine ⟨val, ?_, h2⟩
          generalize hu : tmps.getD a Go.undef = u at h1
          rw [hc, hu]
          cases u with
          | pointer p => cases p with
            | some p => simpa [Instr.loadAt, Instr.sureAddr, asAddr] using h1
            | none => simp [Instr.loadAt, Instr.sureAddr] at h1
          | _ => simp [Instr.loadAt, Instr.sureAddr] at h1
    obtain ⟨v, e1, e2⟩ := this
    refine ⟨v :: vs, ?_, by simp [h2], fun i u y hu hy => ?_⟩
    · rw [List.mapM_cons]
      simp only [Sem.run_bind, e1, Result.andThen_ok, h1, Sem.run_pure]
    · cases i with
      | zero => simp only [List.getElem?_cons_zero, Option.some.injEq] at hu hy; subst hu hy; exact e2
      | succ i => simp only [List.getElem?_cons_succ] at hu hy; exact h3 i u y hu hy


theorem results_rel {n : Nat} {F : Frame} {tmps : Array Value} {gf : Func} {rs : List ResV} {l : List V} (hF : FRel σ g tmps F) (hsim : Sim σ g s w) (hok : all2 (okRes P n) gf.results.toList rs = true) (h : resAll F s rs = some l) :
    ∃ v, (results gf tmps).run P w = .ok v w ∧ VRel σ g v (resV l) := by
  unfold results
  rw [show gf.results = gf.results.toList.toArray by simp, List.mapM_toArray]
  generalize hfd : (fun x : ResultVar => (_ : Sem Value)) = f
  obtain ⟨vs, h1, h2, h3⟩ := okRes_run hF hsim f (fun u => by rw [← hfd]) (fun a t => by rw [← hfd]) _ _ _ hok h
  simp only [Sem.run_bind, Sem.run_map, h1, Result.andThen_ok, Sem.run_pure]
  cases vs with
  | nil =>
    cases l with
    | nil => exact ⟨_, rfl, VRel.undef σ g⟩
    | cons => simp at h2
  | cons v vs =>
    cases vs with
    | nil =>
      cases l with
      | nil => simp at h2
      | cons x l =>
        cases l with
        | nil => exact ⟨v, rfl, h3 0 v x rfl rfl⟩
        | cons => simp at h2
    | cons v2 vs =>
      cases l with
      | nil => simp at h2
      | cons x l =>
        cases l with
        | nil => simp at h2
        | cons x2 l => exact ⟨_, rfl, .tup (vs := (v :: v2 :: vs).toArray) (by simpa using h2) (fun i u y hu hy => h3 i u y (by simpa using hu) hy)⟩

theorem args_frame {n : Nat} {vargs : Array Value} {args : List V} (h : ArgsRel σ g vargs args) : FRel σ g (vargs ++ Array.replicate n Go.undef) (frame args) := by
  intro i
  simp only [frame, Array.getD_eq_getD_getElem?, List.getD_eq_getElem?_getD]
  by_cases hi : i < vargs.size
  · rw [Array.getElem?_append_left hi]
    have hi' : i < args.length := by rw [← h.1]; exact hi
    rw [Array.getElem?_eq_getElem hi, List.getElem?_eq_getElem hi']
    exact h.2 i _ _ (Array.getElem?_eq_getElem hi) (List.getElem?_eq_getElem hi')
  · rw [Array.getElem?_append_right (by omega), List.getElem?_eq_none (by rw [← h.1]; omega)]
    by_cases hj : i - vargs.size < n
    · rw [Array.getElem?_eq_getElem (by simpa using hj)]
      simpa using VRel.undef σ g
    · rw [Array.getElem?_eq_none (by simpa using hj)]
      exact VRel.undef σ g

def exOf : Go.Exit → Option Exit
  | .normal => some .normal
  | .ret => some .ret
  | .exit i => some (.exit i)
  | _ => none

theorem ResE_iff {n : Nat} {Q : Post} {e : Go.Exit} {a : Act} : ResE σ n g w Q e a w' ↔ ∃ x, exOf e = some x ∧ Res σ n g w (Q x) a w' := by
  cases e <;> simp [ResE, exOf]

theorem SOps.mono {K K' : Frame → St → Prop} : ∀ {l : List Lo} {F : Frame} {s : St}, SOps P σ l F s K → (∀ F s, K F s → K' F s) → SOps P σ l F s K'
  | [], _, _, h, k => k _ _ h
  | l :: r, F, s, h, k => by
    have ih := fun F s (h : SOps P σ r F s K) => SOps.mono h k
    simp only [SOps] at h ⊢
    split
    · rename_i hw
      simp only [hw, if_true] at h
      split at h
      · obtain ⟨id, fi, ca, R, h1, h2, h3⟩ := h
        exact ⟨id, fi, ca, R, h1, h2, fun v s' hR => ⟨(h3 v s' hR).1, ih _ _ (h3 v s' hR).2⟩⟩
      · obtain ⟨h1, v, s', h2, h3⟩ := h
        exact ⟨h1, v, s', h2, ih _ _ h3⟩
      · obtain ⟨h1, s', h2, h3⟩ := h
        exact ⟨h1, s', h2, ih _ _ h3⟩
      · obtain ⟨v, s', h1, h2, h3⟩ := h
        exact ⟨v, s', h1, h2, ih _ _ h3⟩
    · rename_i hw
      simp only [hw] at h
      exact ih _ _ h

/-- What the judgement says, of the model. -/
def JS (P : Program) (σ : Nat → Nat) : J → Prop
  | .call f args s K => CallSound P σ f args s K
  | .code (.loop c) F s Q => LoopS P σ c F s Q
  | .code c F s Q => CodeS P σ c F s Q
  | .ops l F s K => SOps P σ l F s K
  | .tree t F s K => STree P σ t F s K

theorem LoopS.code {c : Code} {F : Frame} {Q : Post} (h : LoopS P σ c F s Q) : CodeS P σ (.loop c) F s Q := by
  intro n c0 g w a hok hF hs hdf hsim
  cases c0 <;> simp only [okCode, Bool.false_eq_true] at hok
  exact (h n _ g w a hok hF hs hdf hsim).wp

theorem JS.code {c : Code} {F : Frame} {Q : Post} (h : JS P σ (.code c F s Q)) : CodeS P σ c F s Q := by
  cases c
  case loop => exact LoopS.code h
  all_goals exact h

theorem D.sound {T : Nat → Option FnDef} (L : Linked P σ T) {j : J} (h : D T j) : JS P σ j := by
  induction h with
  | @body f fn args s K hT hn _ ih =>
    obtain ⟨gf, hgf, hok⟩ := L.body f fn hT
    simp only [okFn, Bool.and_eq_true, Nat.beq_eq, Nat.ble_eq, Bool.not_eq_true'] at hok
    obtain ⟨⟨⟨⟨hc, hnt⟩, hna⟩, hres⟩, hname⟩ := hok
    split at hc
    case h_2 => cases hc
    rename_i c hb
    refine ⟨⟨gf, c, hgf, hb, hname⟩, fun g w vargs hsim hargs => ?_⟩
    have hsz : vargs.size ≤ fn.ntmps := by rw [hargs.1, hn]; exact hna
    refine calls_of_wp hgf hb (wp_mono (ih.code fn.ntmps c g w ⟨vargs ++ Array.replicate (gf.ntmps - vargs.size) Go.undef, []⟩ hc (args_frame hargs) ?_ rfl hsim) ?_)
    · simp [hnt]; omega
    · intro e a w' he
      have fin : Res σ fn.ntmps g w (fun F s => match resAll F s fn.res with | some l => K (resV l) s | none => False) a w' →
          a.defers = [] ∧ ∃ v, (results gf a.tmps).run P w' = .ok v w' ∧ ∃ val v1 s' g', Ending.returned v = .returned val ∧ K v1 s' ∧ VRel σ g' val v1 ∧ Keep g w g' w' ∧ Sim σ g' s' w' := by
        rintro ⟨F', s', g', h1, h2, h3, h4, h5, h6⟩
        split at h1
        case h_2 => cases h1
        rename_i l hl
        obtain ⟨v, hv, hrel⟩ := results_rel (P := P) h2 h6 hres hl
        exact ⟨h4, v, hv, v, resV l, s', g', rfl, h1, hrel, h5, h6⟩
      cases e with
      | normal => exact fin he
      | ret => exact fin he
      | exit i => obtain ⟨F', s', g', h1, _⟩ := he; exact h1.elim
      | _ => exact he.elim
  | @prim f p args s K v s' hT he hK =>
    obtain ⟨h1, h2⟩ := L.prim f p hT args s v s' he
    refine ⟨h1, fun g w vargs hsim hargs => (h2 g w vargs hsim hargs).mono fun e w' h => ?_⟩
    obtain ⟨val, v1, s1, g', e1, ⟨rfl, rfl⟩, e2⟩ := h
    exact ⟨val, v1, s1, g', e1, hK, e2⟩
  | @skip F s Q hQ =>
    intro n c0 g w a hok hF hs hdf hsim
    cases c0 <;> simp only [okCode, Bool.false_eq_true] at hok
    · exact wp_skip ⟨F, s, g, hQ, hF, hs, hdf, Keep.refl _ _, hsim⟩
    · exact wp_label ⟨F, s, g, hQ, hF, hs, hdf, Keep.refl _ _, hsim⟩
  | @ret F s Q hQ =>
    intro n c0 g w a hok hF hs hdf hsim
    cases c0 <;> simp only [okCode, Bool.false_eq_true] at hok
    exact wp_ret ⟨F, s, g, hQ, hF, hs, hdf, Keep.refl _ _, hsim⟩
  | @exit m F s Q hQ =>
    intro n c0 g w a hok hF hs hdf hsim
    cases c0 <;> simp only [okCode, Bool.false_eq_true] at hok
    simp only [Nat.beq_eq] at hok
    subst hok
    exact wp_exit ⟨F, s, g, hQ, hF, hs, hdf, Keep.refl _ _, hsim⟩
  | @opsc l F s Q K _ hK ih =>
    intro n c0 g w a hok hF hs hdf hsim
    cases c0 <;> simp only [okCode, Bool.false_eq_true] at hok
    exact reg_sound L.mixed hok ih hF hs hdf hsim fun a' w' hr => hr.mono hK
  | @seq x y F s Q R _ hn he ih ihn =>
    intro n c0 g w a hok hF hs hdf hsim
    cases c0 <;> simp only [okCode, Bool.false_eq_true] at hok
    simp only [Bool.and_eq_true] at hok
    refine wp_seq (wp_mono (ih.code n _ g w a hok.1 hF hs hdf hsim) fun e a' w' h => ?_)
    cases e with
    | normal =>
      obtain ⟨F', s', g', h1, h2, h3, h4, h5, h6⟩ := h
      exact wp_mono ((ihn F' s' h1).code n _ g' w' a' hok.2 h2 h3 h4 h6) fun e a'' w'' k => k.from h5
    | ret => exact Res.mono h (he .ret · · (by simp))
    | exit i => exact Res.mono h (he (.exit i) · · (by simp))
    | _ => exact h.elim
  | @condT c x y F s Q hc _ ih =>
    intro n c0 g w a hok hF hs hdf hsim
    cases c0 <;> simp only [okCode, Bool.false_eq_true] at hok
    simp only [Bool.and_eq_true] at hok
    have h1 := okOpd_rel hF hok.1.1
    rw [hc] at h1
    generalize hv : a.eval _ = u at h1
    cases h1
    exact wp_cond_true hv (ih.code n _ g w a hok.1.2 hF hs hdf hsim)
  | @condF c x y F s Q hc _ ih =>
    intro n c0 g w a hok hF hs hdf hsim
    cases c0 <;> simp only [okCode, Bool.false_eq_true] at hok
    simp only [Bool.and_eq_true] at hok
    have h1 := okOpd_rel hF hok.1.1
    rw [hc] at h1
    generalize hv : a.eval _ = u at h1
    cases h1
    exact wp_cond_false hv (ih.code n _ g w a hok.2 hF hs hdf hsim)
  | @block m x F s Q _ ih =>
    intro n c0 g w a hok hF hs hdf hsim
    cases c0 <;> simp only [okCode, Bool.false_eq_true] at hok
    simp only [Bool.and_eq_true, Nat.beq_eq] at hok
    obtain ⟨rfl, hok⟩ := hok
    refine wp_block (wp_mono (ih.code n _ g w a hok hF hs hdf hsim) fun e a' w' h => ?_)
    cases e with
    | normal => exact h
    | ret => exact h
    | exit i =>
      simp only [Exit.inBlock]
      obtain ⟨F', s', g', h1, h2⟩ := h
      simp only [blockK] at h1
      split
      · rename_i e; subst e
        rw [show Nat.beq i i = true by simp, cond_true] at h1
        exact ⟨F', s', g', h1, h2⟩
      · rename_i e
        rw [beqf e, cond_false] at h1
        exact ⟨F', s', g', h1, h2⟩
    | _ => exact h.elim
  | @loop x F s Q R _ hn he ih ihn =>
    intro n c0 g w a hok hF hs hdf hsim
    refine LoopW.step (wp_mono (ih.code n _ g w a hok hF hs hdf hsim) fun e a' w' h => ?_)
    cases e with
    | normal =>
      obtain ⟨F', s', g', h1, h2, h3, h4, h5, h6⟩ := h
      exact (ihn F' s' h1 n _ g' w' a' hok h2 h3 h4 h6).mono fun e a'' w'' k => k.from h5
    | ret => exact Res.mono h (he .ret · · (by simp))
    | exit i => exact Res.mono h (he (.exit i) · · (by simp))
    | _ => exact h.elim
  | nil h => exact h
  | @treec t F s Q K _ hK ih =>
    intro n c0 g w a hok hF hs hdf hsim
    cases c0 <;> simp only [okCode, Bool.false_eq_true] at hok
    simp only [Bool.and_eq_true] at hok
    obtain ⟨rfl, hok⟩ := hok
    exact par_sound L.mixed hok ih hF hs hdf hsim fun a' w' hr => hr.mono hK
  | tnil h => exact h
  | @tcons l r F s K R _ hr ih ihr => exact SOps.mono ih ihr
  | fork _ _ iha ihb => exact ⟨iha, ihb⟩
  | @skipped l r F s K hw _ ih =>
    simp only [JS, SOps, hw]
    exact ih
  | @step l r F s K v s' hw h hc _ ih =>
    simp only [JS, SOps, hw, if_true]
    split
    · rename_i e; rw [e] at h; simp [opS] at h
    · rename_i e; rw [e] at h; simp [opS] at h
    · rename_i e; rw [e] at h; simp [opS] at h
    · exact ⟨v, s', h, hc, ih⟩
  | @frz l r F s K t v s' hw h hf hc hd _ ih =>
    simp only [JS, SOps, hw, if_true, h]
    exact ⟨hd, v, s', hf, ih⟩
  | @frzc l r F s K a d s' hw h hf hc hd _ ih =>
    simp only [JS, SOps, hw, if_true, h]
    exact ⟨hd, s', hf, ih⟩
  | @call l r F s K f args id fi ca R hw h hf _ hc _ ihc ihr =>
    simp only [JS, SOps, hw, if_true, h]
    exact ⟨id, fi, ca, R, hf, ihc, fun v s' hR => ⟨hc v s' hR, ihr v s' hR⟩⟩

end Go.VS
