/-
  Part 19 of 43 of the proof of SubcorpusSetsSaid, by an abstract machine that stands in for the Go program: lemmas without conditions of their own.
-/
import Derived.Test.YtclfgmlnechmkaaGreatP18
set_option linter.unusedSimpArgs false
set_option linter.unusedVariables false
namespace Go.VS

variable {P : Program} {σ : Nat → Nat} {g : G}

theorem pure_un {op : UnOp} {a : Value} {x v : V} (ha : VRel σ g a x) (hv : unV op x = some v) : Pure1 P σ g (Op.unary op a) v := by
  cases ha <;> cases op <;> simp only [unV, binInt, Option.some.injEq, reduceCtorEq] at hv <;> subst hv
  · exact .of _ (.int _ _) (fun w => by simp [Op.unary, Op.intArith])
  · exact .of _ (.int _ _) (fun w => by simp [Op.unary, Op.intBits])
  · exact .of _ (.bool _) (fun w => by simp [Op.unary])

theorem pure_convii {a : Value} {x : V} {n : Int} {k kk : IntKind} {src dst : Nat} {d : TypeDesc} (ha : VRel σ g a x) (hx : x = .int kk n)
    (hs : P.underlying src = some d) (hd : P.underlying dst = some (.int k)) : Pure1 P σ g (convert src dst a) (.int k (k.wrap n)) := by
  subst hx; obtain rfl := ha.eq_int
  exact .of _ (.int _ _) (fun w => by simp [convert, run_underlying hs, run_underlying hd, Conv.intToInt])

theorem pure_convss {a : Value} {x : V} {l : List Nat} {src dst : Nat} {d : TypeDesc} (ha : VRel σ g a x) (hx : x = .str l)
    (hs : P.underlying src = some d) (hd : P.underlying dst = some .string) : Pure1 P σ g (convert src dst a) (.str l) := by
  subst hx
  cases ha with
  | str h => exact .of _ (.str h) (fun w => by simp [convert, run_underlying hs, run_underlying hd])

theorem vrel_list {vs : List Value} {xs : List V} (hr : ∀ (i : Nat) v x, vs[i]? = some v → xs[i]? = some x → VRel σ g v x) :
    ∀ (i : Nat) v x, vs.toArray[i]? = some v → xs[i]? = some x → VRel σ g v x := by
  intro i v x h1 h2; exact hr i v x (by simpa using h1) h2

theorem pure_mkfn {f : Nat} {fs cs : Array Value} {xs ys : List V} (hl : fs.size = xs.length) (hl' : cs.size = ys.length)
    (h : ∀ (i : Nat) v x, fs[i]? = some v → xs[i]? = some x → VRel σ g v x) (h' : ∀ (i : Nat) v x, cs[i]? = some v → ys[i]? = some x → VRel σ g v x) :
    Pure1 P σ g (Instr.makeFunc (.func (σ f)) fs cs) (.fn f xs ys) := .of _ (.fn hl hl' h h') (fun _ => rfl)

theorem pure_mkifc {a : Value} {x : V} {t : Nat} (ha : VRel σ g a x) (ht : ∃ d, P.underlying t = some d ∧ (∀ ms, d ≠ .interface ms)) : Pure1 P σ g (Instr.makeInterface t a) (.iface t x) := by
  obtain ⟨d, hd, hn⟩ := ht
  refine .of _ (.iface ha) (fun w => ?_)
  unfold Instr.makeInterface
  rw [Sem.run_bind, run_underlying hd, Result.andThen_ok]
  split
  · rename_i ms; exact absurd rfl (hn ms)
  · rfl

theorem pure_mm {mx : Bool} {a b : Value} {x y v : V} (ha : VRel σ g a x) (hb : VRel σ g b y) (hv : mmV mx x y = some v) :
    Pure1 P σ g (bif mx then Builtin.max2 a b else Builtin.min2 a b) v := by
  cases ha <;> simp only [mmV, reduceCtorEq] at hv
  cases hb <;> simp only [reduceCtorEq] at hv
  split at hv
  · rename_i hk; subst hk
    simp only [Option.some.injEq] at hv; subst hv
    cases mx
    · exact .of _ (.int _ _) (fun w => by simp [Builtin.min2])
    · exact .of _ (.int _ _) (fun w => by simp [Builtin.max2])
  · simp at hv

/-! ### cuts -/

def OptRel (σ : Nat → Nat) (g : G) (a : Option Value) (x : Option V) : Prop :=
  match a, x with
  | none, none => True
  | some a, some x => VRel σ g a x
  | _, _ => False

theorem run_bound {y : Nat} {code : BoundsCode} {k : IntKind} {i : Nat} (h : i ≤ y) (w : World) : (Instr.sliceBound (.int k i) y code).run P w = .ok i w := by
  simp [Instr.sliceBound, asIntOf, h]

def idxOr (x : Option V) (n : Nat) : Option Nat := match x with | some v => asIdx v | none => some n

theorem idxOr_rel {a : Option Value} {x : Option V} {n m : Nat} (h : OptRel σ g a x) (hx : idxOr x n = some m) : (a = none ∧ m = n) ∨ ∃ k, a = some (.int k m) := by
  cases a <;> cases x <;> simp only [OptRel] at h
  · simp only [idxOr, Option.some.injEq] at hx; exact .inl ⟨rfl, hx.symm⟩
  · simp only [idxOr] at hx
    obtain ⟨k, rfl⟩ := asIdx_some hx
    exact .inr ⟨k, by rw [h.eq_int]⟩

theorem run_bounds {isS : Bool} {len cap l h : Nat} {lo hi : Option Value} {x y : Option V} (hlo : OptRel σ g lo x) (hhi : OptRel σ g hi y)
    (hx : idxOr x 0 = some l) (hy : idxOr y len = some h) (h1 : l ≤ h) (h2 : h ≤ cap) (w : World) :
    (Instr.sliceBounds isS len cap lo hi none).run P w = .ok (l, h, cap) w := by
  rcases idxOr_rel hlo hx with ⟨rfl, rfl⟩ | ⟨k, rfl⟩ <;> rcases idxOr_rel hhi hy with ⟨rfl, rfl⟩ | ⟨k', rfl⟩ <;>
    simp [Instr.sliceBounds, run_bound, h1, h2]

theorem run_bounds3 {len cap l h m : Nat} {lo hi : Option Value} {x y : Option V} {km : IntKind} (hlo : OptRel σ g lo x) (hhi : OptRel σ g hi y)
    (hx : idxOr x 0 = some l) (hy : idxOr y len = some h) (hh : hi ≠ none) (h1 : l ≤ h) (h2 : h ≤ m) (h3 : m ≤ cap) (w : World) :
    (Instr.sliceBounds true len cap lo hi (some (.int km m))).run P w = .ok (l, h, m) w := by
  rcases idxOr_rel hlo hx with ⟨rfl, rfl⟩ | ⟨k, rfl⟩ <;> rcases idxOr_rel hhi hy with ⟨rfl, rfl⟩ | ⟨k', rfl⟩ <;>
    simp_all [Instr.sliceBounds, run_bound]

theorem bytesOf_extract (s : ByteArray) (l h : Nat) : bytesOf (s.extract l h) = ((bytesOf s).take h).drop l := by
  unfold bytesOf
  rw [ByteArray.data_extract, Array.toList_extract, List.extract_eq_take_drop, List.map_take, List.map_drop, List.drop_take]

theorem sliceOf_run {e k l h m len cap t : Nat} {a : Option Addr} {lo hi mx : Option Value} {i : TypeInfo} (ht : P.underlying t = some (.slice e)) (hi' : P.info? e = some i) (hs : i.size = k)
    (hb : ∀ w, (Instr.sliceBounds true len cap lo hi mx).run P w = .ok (l, h, m) w) (w : World) :
    (Instr.sliceAt t (.slice a len cap) lo hi mx).run P w = .ok (.slice (if m = l then a else a.map (·.add (l * k))) (h - l) (m - l)) w := by
  simp [Instr.sliceAt, run_underlying ht, Instr.slice, hb, sizeOf, typeInfo, hi', hs]

def tyFor (P : Program) (k t : Nat) (x : V) : Prop :=
  match x with
  | .str _ => P.underlying t = some .string
  | _ => ∃ e i, P.underlying t = some (.slice e) ∧ P.info? e = some i ∧ i.size = k

theorem pure_slice {a : Value} {lo hi : Option Value} {x v : V} {lo' hi' : Option V} {k t : Nat} {s s' : St} (ha : VRel σ g a x) (hlo : OptRel σ g lo lo') (hhi : OptRel σ g hi hi')
    (hv : sliceV k x lo' hi' none s = some (v, s'))
    (ht : tyFor P k t x) :
    s' = s ∧ Pure1 P σ g (Instr.sliceAt t a lo hi none) v := by
  unfold sliceV at hv
  cases hn : lenV x with
  | none => rw [hn] at hv; simp at hv
  | some n =>
    rw [hn] at hv
    simp only [] at hv
    split at hv
    · rename_i h l hh hl
      have hh' : idxOr hi' n = some h := hh
      have hl' : idxOr lo' 0 = some l := hl
      split at hv
      · rename_i hc
        simp only [Bool.and_eq_true, decide_eq_true_eq] at hc
        obtain ⟨h1, h2⟩ := hc
        cases ha <;> simp only [reduceCtorEq, Option.some.injEq, Prod.mk.injEq] at hv
        case str sb lb hsb =>
          obtain ⟨rfl, rfl⟩ := hv
          refine ⟨rfl, ?_⟩
          subst hsb
          simp only [lenV, Option.some.injEq, bytesOf_length] at hn
          subst hn
          refine .of (.string (sb.extract l h)) (.str (bytesOf_extract _ _ _)) (fun w => ?_)
          simp [Instr.sliceAt, run_underlying ht, Instr.slice, run_bounds (isS := false) hlo hhi hl' hh' h1 h2]
        case nilsl =>
          obtain ⟨rfl, rfl⟩ := hv
          refine ⟨rfl, ?_⟩
          obtain ⟨e, i, ht1, ht2, ht3⟩ := ht
          simp only [lenV, Option.some.injEq] at hn; subst hn
          have h0 : h = 0 := by omega
          have l0 : l = 0 := by omega
          subst h0; subst l0
          refine .of (.slice none 0 0) .nilsl (fun w => ?_)
          rw [sliceOf_run ht1 ht2 ht3 (fun w => run_bounds hlo hhi hl' hh' h1 h2 w)]
          simp
        case sl b p len cap c gn off xs kw vals hlen hcap hk hcc hfix hrel hpos =>
          split at hv
          case isFalse => simp at hv
          rename_i hw
          simp only [Option.some.injEq, Prod.mk.injEq] at hv
          obtain ⟨rfl, rfl⟩ := hv
          refine ⟨rfl, ?_⟩
          obtain ⟨e, i, ht1, ht2, ht3⟩ := ht
          simp only [lenV, Option.some.injEq] at hn; subst hn
          have hr := fun w => sliceOf_run (P := P) (t := t) (a := some ⟨b, p, none⟩) ht1 ht2 ht3 (fun w => run_bounds (isS := true) (cap := cap) hlo hhi hl' (hlen ▸ hh') h1 (by omega) w) w
          by_cases hm : cap = l
          · have hl0 : (xs.take h).drop l = [] := by
              apply List.drop_eq_nil_of_le; rw [List.length_take]; omega
            rw [hl0]
            refine .of (.slice (some ⟨b, p, none⟩) (h - l) (cap - l)) ?_ (fun w => by rw [hr]; simp [hm])
            refine .sl kw (fun _ _ => .nilIface) (by simp; omega) (by omega) (by simp) (by simp) (by simp) (by simp) (.inl (by omega))
          · refine .of (.slice (some ⟨b, p + l * k, none⟩) (h - l) (cap - l)) ?_ (fun w => by rw [hr]; simp [hm, add_lit])
            have hsub : ∀ x, x ∈ (xs.take h).drop l → x ∈ xs := fun x hx => List.mem_of_mem_take (List.mem_of_mem_drop hx)
            have hget : ∀ (i : Nat) x, ((xs.take h).drop l)[i]? = some x → xs[l + i]? = some x := by
              intro i x hx
              rw [List.getElem?_drop, List.getElem?_take] at hx
              split at hx
              · exact hx
              · simp at hx
            rcases hpos with h0 | ⟨base, lim, hb1, hb2, hb3⟩
            · omega
            · by_cases hkk : kw = k
              · subst hkk
                refine .sl kw (fun i j => vals (l + i) j) (by simp; omega) (by omega) (fun x hx => hk x (hsub x hx)) (fun x hx => hcc x (hsub x hx)) (fun i j x y h3 h4 => ?_)
                  (fun i j x y h3 h4 => hrel _ j x y (hget i x h3) h4) (.inr ⟨base, lim, hb1, by rw [hb2, Nat.add_mul]; omega, ?_⟩)
                · have := hfix (l + i) j x y (hget i x h3) h4
                  rw [show p + l * kw + i * kw + j = p + (l + i) * kw + j from by rw [Nat.add_mul]; omega]
                  exact this
                · have : (cap - l) * kw = cap * kw - l * kw := Nat.sub_mul _ _ _
                  have h5 : l * kw ≤ cap * kw := Nat.mul_le_mul_right _ (by omega)
                  omega
              · have hnil : xs = [] := by
                  cases xs with
                  | nil => rfl
                  | cons x xs =>
                    simp only [wOk, Nat.beq_eq] at hw
                    exact absurd ((hk x (by simp)).symm.trans hw) hkk
                subst hnil
                have l0 : l = 0 := by simp at h2; omega
                subst l0
                simp only [List.take_nil, List.drop_nil, Nat.zero_mul, Nat.add_zero, Nat.sub_zero]
                refine .sl kw (fun _ _ => .nilIface) (by simp at h2; simpa using h2) (by omega) (by simp) (by simp) (by simp) (by simp) (.inr ⟨base, lim, hb1, hb2, hb3⟩)
        case row b p len cap r kw off hcap hpos =>
          split at hv
          · rename_i hkk
            simp only [Nat.beq_eq] at hkk
            subst hkk
            simp only [Option.some.injEq, Prod.mk.injEq] at hv
            obtain ⟨rfl, rfl⟩ := hv
            refine ⟨rfl, ?_⟩
            obtain ⟨e, i, ht1, ht2, ht3⟩ := ht
            simp only [lenV, Option.some.injEq] at hn; subst hn
            have hr := fun w => sliceOf_run (P := P) (t := t) (a := some ⟨b, p, none⟩) ht1 ht2 ht3 (fun w => run_bounds (isS := true) (cap := cap) hlo hhi hl' hh' h1 (by omega) w) w
            by_cases hm : cap = l
            · refine .of (.slice (some ⟨b, p, none⟩) (h - l) (cap - l)) (.row (by omega) (.inl (by omega))) (fun w => by rw [hr]; simp [hm])
            · refine .of (.slice (some ⟨b, p + l * kw, none⟩) (h - l) (cap - l)) (.row (by omega) ?_) (fun w => by rw [hr]; simp [hm, add_lit])
              rcases hpos with h0 | ⟨base, lim, hb1, hb2, hb3⟩
              · omega
              · refine .inr ⟨base, lim, hb1, by rw [hb2, Nat.add_mul]; omega, ?_⟩
                have : (cap - l) * kw = cap * kw - l * kw := Nat.sub_mul _ _ _
                have h5 : l * kw ≤ cap * kw := Nat.mul_le_mul_right _ (by omega)
                omega
          · simp at hv
      · simp at hv
    · simp at hv

/-! ### composite values -/

theorem fill_cells {base : Array Value} {zs : List V} {off : Nat} {v : Value} {x : V} (hl : base.size = zs.length) (hrel : ∀ (i : Nat) u y, base[i]? = some u → zs[i]? = some y → VRel σ g u y)
    (hv : VRel σ g v x) :
    (v.cells.zipIdx.foldl (fun cs (c, j) => cs.setIfInBounds (off + j) c) base).size = (setCells zs off x.cells).length ∧
    ∀ (i : Nat) u y, (v.cells.zipIdx.foldl (fun cs (c, j) => cs.setIfInBounds (off + j) c) base)[i]? = some u → (setCells zs off x.cells)[i]? = some y → VRel σ g u y := by
  obtain ⟨hcl, hcr⟩ := hv.cells
  rw [← Array.foldl_toList, Array.toList_zipIdx]
  have hcl' : v.cells.toList.length = x.cells.length := by simpa using hcl
  have hcr' : ∀ (i : Nat) u y, v.cells.toList[i]? = some u → x.cells[i]? = some y → VRel σ g u y := fun i u y h1 h2 => hcr i u y (by simpa using h1) h2
  generalize v.cells.toList = cs at hcl' hcr'
  generalize x.cells = xs at hcl' hcr'
  clear hcl hcr hv
  suffices H : ∀ (cs : List Value) (xs : List V) (n : Nat) (base : Array Value) (zs : List V), cs.length = xs.length → (∀ (i : Nat) u y, cs[i]? = some u → xs[i]? = some y → VRel σ g u y) →
      base.size = zs.length → (∀ (i : Nat) u y, base[i]? = some u → zs[i]? = some y → VRel σ g u y) →
      ((cs.zipIdx n).foldl (fun cs (c, j) => cs.setIfInBounds (off + j) c) base).size = (setCells zs (off + n) xs).length ∧
      ∀ (i : Nat) u y, ((cs.zipIdx n).foldl (fun cs (c, j) => cs.setIfInBounds (off + j) c) base)[i]? = some u → (setCells zs (off + n) xs)[i]? = some y → VRel σ g u y from
    H cs xs 0 base zs hcl' hcr' hl hrel
  intro cs
  induction cs with
  | nil =>
    intro xs n base zs h1 _ h3 h4
    cases xs with
    | nil => exact ⟨h3, h4⟩
    | cons => simp at h1
  | cons c cs ih =>
    intro xs n base zs h1 h2 h3 h4
    cases xs with
    | nil => simp at h1
    | cons x xs =>
      simp only [List.zipIdx_cons, List.foldl_cons, setCells]
      rw [show off + n + 1 = off + (n + 1) from by omega]
      refine ih xs (n + 1) _ _ (by simpa using h1) (fun i u y a b => h2 (i + 1) u y a b) (by simp [h3]) (fun i u y a b => ?_)
      rw [Array.getElem?_setIfInBounds] at a
      rw [List.getElem?_set] at b
      split at a
      · rename_i e; subst e
        rw [if_pos rfl] at b
        split at a
        · split at b
          · simp only [Option.some.injEq] at a b; subst a; subst b
            exact h2 0 _ _ rfl rfl
          · simp at b
        · simp at a
      · rename_i e
        rw [if_neg e] at b
        exact h4 i u y a b

theorem setCells_length (cs : List V) (off : Nat) (xs : List V) : (setCells cs off xs).length = cs.length := by
  induction xs generalizing cs off with
  | nil => rfl
  | cons x xs ih => rw [setCells, ih, List.length_set]

theorem setCells_isCell {cs : List V} {off : Nat} {xs : List V} (h : ∀ y ∈ cs, y.isCell = true) (h' : ∀ y ∈ xs, y.isCell = true) : ∀ y ∈ setCells cs off xs, y.isCell = true := by
  induction xs generalizing cs off with
  | nil => exact h
  | cons x xs ih =>
    rw [setCells]
    refine ih (fun y hy => ?_) (fun y hy => h' y (by simp [hy]))
    rcases List.mem_or_eq_of_mem_set hy with h1 | h1
    · exact h y h1
    · rw [h1]; exact h' x (by simp)

def PartsRel (σ : Nat → Nat) (g : G) (place : Nat → Option (Nat × Nat)) : List (Nat × Value) → List (Nat × Nat × V) → Prop
  | [], [] => True
  | (i, v) :: ps, (off, k, x) :: qs => place i = some (off, k) ∧ VRel σ g v x ∧ PartsRel σ g place ps qs
  | _, _ => False

theorem fill_run {place : Nat → Option (Nat × Nat)} : ∀ (ps : List (Nat × Value)) (qs : List (Nat × Nat × V)) (base : Array Value) (zs out : List V), PartsRel σ g place ps qs →
    base.size = zs.length → (∀ (i : Nat) u y, base[i]? = some u → zs[i]? = some y → VRel σ g u y) → (∀ y ∈ zs, y.isCell = true) → buildV zs qs = some out →
    ∃ cs, Instr.fill place base ps = some cs ∧ cs.size = out.length ∧ (∀ (i : Nat) u y, cs[i]? = some u → out[i]? = some y → VRel σ g u y) ∧ (∀ y ∈ out, y.isCell = true)
  | [], [], base, zs, out, _, h2, h3, h4, h5 => by
    simp only [buildV, Option.some.injEq] at h5; subst h5
    exact ⟨base, rfl, h2, h3, h4⟩
  | (i, v) :: ps, (off, k, x) :: qs, base, zs, out, h1, h2, h3, h4, h5 => by
    obtain ⟨hp, hv, hr⟩ := h1
    simp only [buildV] at h5
    split at h5
    · rename_i hc
      simp only [Bool.and_eq_true, decide_eq_true_eq, Nat.beq_eq] at hc
      obtain ⟨⟨hk, hnt⟩, hle⟩ := hc
      obtain ⟨s1, s2⟩ := fill_cells (off := off) h2 h3 hv
      obtain ⟨cs, c1, c2, c3, c4⟩ := fill_run ps qs _ _ out hr s1 s2 (setCells_isCell h4 (hv.cellsOne hnt)) h5
      refine ⟨cs, ?_, c2, c3, c4⟩
      have hsz : v.cells.size = k := hv.cells.1.trans hk
      simp only [Instr.fill, hp]
      rw [if_neg (by simp [hsz]; omega)]
      exact c1
    · simp at h5
  | [], _ :: _, _, _, _, h, _, _, _, _ => by simp [PartsRel] at h
  | _ :: _, [], _, _, _, h, _, _, _, _ => by simp [PartsRel] at h

/-- Zero values whose cells are plain constants. -/
def ZeroRel (zc : Array Value) (z : List V) : Prop := zc.size = z.length ∧ (∀ y ∈ z, y.isCell = true) ∧ ∀ (σ : Nat → Nat) (g : G) (i : Nat) u y, zc[i]? = some u → z[i]? = some y → VRel σ g u y

theorem run_sizeOf' {t : Nat} (h : (P.info? t).isSome = true) (w : World) : (sizeOf t).run P w = .ok (P.cellsOf t) w := by
  obtain ⟨i, hi⟩ := Option.isSome_iff_exists.1 h
  simp [sizeOf, typeInfo, hi, Program.cellsOf]

def placesOf (P : Program) (fs : List Field) : List (Nat × Nat) := fs.map fun f => (f.offset, P.cellsOf f.type)

theorem mapM_places : ∀ (fs : List Field), (∀ f ∈ fs, (P.info? f.type).isSome = true) → ∀ (w : World),
    (fs.mapM (fun f => do pure (f.offset, ← sizeOf f.type) : Field → Sem (Nat × Nat))).run P w = .ok (placesOf P fs) w
  | [], _, w => by simp [placesOf]
  | f :: fs, h, w => by
    have ih := mapM_places fs (fun f hf => h f (by simp [hf])) w
    simp only [List.mapM_cons, Sem.run_bind, run_sizeOf' (h f (by simp)), Result.andThen_ok, Sem.run_pure]
    rw [ih]
    simp [placesOf]

theorem pure_build {t : Nat} {fs : Array Field} {zv : Value} {z out : List V} {ps : List (Nat × Value)} {qs : List (Nat × Nat × V)} {i : TypeInfo}
    (hi : P.info? t = some i) (hz : i.zero = some zv) (hzr : ZeroRel zv.cells z) (ht : P.underlying t = some (.struct fs))
    (hks : ∀ f ∈ fs.toList, (P.info? f.type).isSome = true)
    (hps : PartsRel σ g (fun (j : Nat) => (placesOf P fs.toList)[j]?) ps qs) (hv : buildV z qs = some out) : Pure1 P σ g (Instr.build t ps.toArray) (.agg out) := by
  obtain ⟨cs, c1, c2, c3, c4⟩ := fill_run ps qs zv.cells z out hps hzr.1 (hzr.2.2 σ g) hzr.2.1 hv
  refine .of (.agg cs) (.agg c2 c4 c3) (fun w => ?_)
  have hm : (fs.mapM (fun f => do pure (f.offset, ← sizeOf f.type) : Field → Sem (Nat × Nat))).run P w = .ok (placesOf P fs.toList).toArray w := by
    rw [Array.mapM_eq_mapM_toList]
    simp only [Sem.run_map]
    rw [mapM_places _ hks]
    rfl
  unfold Instr.build
  simp only [Sem.run_bind, zeroValue, typeInfo, run_program, Result.andThen_ok, hi, Sem.run_pure, hz, run_underlying ht]
  rw [hm]
  simp only [Result.andThen_ok]
  have hp : (fun (j : Nat) => (placesOf P fs.toList).toArray[j]?) = fun (j : Nat) => (placesOf P fs.toList)[j]? := by
    funext j; simp
  rw [hp, c1]
  rfl

theorem pure_buildArr {t e n k : Nat} {zv : Value} {z out : List V} {ps : List (Nat × Value)} {qs : List (Nat × Nat × V)} {i ie : TypeInfo}
    (hi : P.info? t = some i) (hz : i.zero = some zv) (hzr : ZeroRel zv.cells z) (ht : P.underlying t = some (.array n e)) (hie : P.info? e = some ie) (hk : ie.size = k)
    (hps : PartsRel σ g (fun j => some (j * k, k)) ps qs) (hv : buildV z qs = some out) : Pure1 P σ g (Instr.build t ps.toArray) (.agg out) := by
  obtain ⟨cs, c1, c2, c3, c4⟩ := fill_run ps qs zv.cells z out hps hzr.1 (hzr.2.2 σ g) hzr.2.1 hv
  refine .of (.agg cs) (.agg c2 c4 c3) (fun w => ?_)
  unfold Instr.build
  simp only [Sem.run_bind, zeroValue, typeInfo, run_program, Result.andThen_ok, hi, Sem.run_pure, hz, run_underlying ht, sizeOf, hie, hk]
  rw [c1]
  rfl

theorem pure_nilck {a : Value} {x : V} (ha : VRel σ g a x) (hn : isNil .ptr x = some false) : ∃ p, a = .pointer (some p) := by
  have := valNil_of ha hn
  cases a <;> simp only [valNil, reduceCtorEq, Option.some.injEq] at this
  rename_i p
  cases p with
  | none => simp at this
  | some p => exact ⟨p, rfl⟩

end Go.VS
