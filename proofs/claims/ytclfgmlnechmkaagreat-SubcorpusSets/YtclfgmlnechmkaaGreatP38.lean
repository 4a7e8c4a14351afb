/-
  Part 38 of 43 of the proof of SubcorpusSetsSaid, by an abstract machine that stands in for the Go program: lemmas without conditions of their own.
-/
import Derived.Test.YtclfgmlnechmkaaGreatP37
import Derived.Shelf.SlSortCmp.NoneTotal
set_option linter.unusedSimpArgs false
set_option linter.unusedVariables false
namespace Go.VS

variable {P : Program} {σ : Nat → Nat} {g g' : G} {s s' : St} {w w' : World}

/-- Nothing is known of memory, and nothing is there. -/
def G0 : G := ⟨fun _ _ => none, fun _ _ => none, fun _ => none⟩
def St0 : St := ⟨0, fun _ => none⟩
theorem Sim.empty (σ : Nat → Nat) (w : World) : Sim σ G0 St0 w where
  fixc _ _ _ h := by cases h
  ent _ _ h := by cases h
  lt _ _ h := by cases h
  blt _ _ _ h := by cases h
  gens _ _ _ _ _ h := by cases h
  own _ _ := rfl
  back _ _ _ _ _ _ h := by cases h

/-- A world that differs from another one in draws and new blocks. -/
theorem grown_of {w w' : World} (h : ∀ b, b < w.heap.size → w'.heap[b]? = w.heap[b]?) (hs : w.heap.size ≤ w'.heap.size) (h1 : w'.os = w.os) (h2 : w'.tape = w.tape) (h3 : w'.output = w.output) (h4 : w.drawn ≤ w'.drawn) :
    ∃ q os, w' = Go.Sort.grow (w.drewN q) os := by
  refine ⟨w'.drawn - w.drawn, w'.heap.extract w.heap.size w'.heap.size, ?_⟩
  cases w' with
  | mk heap tape drawn os output =>
    simp only at h hs h1 h2 h3 h4
    subst h1; subst h2; subst h3
    simp only [Go.Sort.grow, World.drewN]
    congr 1
    · apply Array.ext_getElem?
      intro i
      rw [Array.getElem?_append]
      by_cases hi : i < w.heap.size
      · rw [if_pos hi, h i hi]
      · rw [if_neg hi, Array.getElem?_extract]
        by_cases hj : i < heap.size
        · rw [if_pos (by omega), show w.heap.size + (i - w.heap.size) = i by omega]
        · rw [if_neg (by omega), Array.getElem?_eq_none (by omega)]
    · omega

/-- A row's own block is written, and blocks that nobody owns are laid. -/
theorem Sim.rowWorld (h : Sim σ g s w) {r b base k lim : Nat} {xs xs' : List V} {cs cs' : Array Value} {t : TypeId} {fr : Nat × Nat} (hm : s.mem r = some (.row xs)) (hb : g.blk r 0 = some (b, base, k, lim))
    (hh : w.heap[b]? = some (.cells cs t fr)) (hh' : w'.heap[b]? = some (.cells cs' t fr)) (hcs : cs'.size = cs.size) (hother : ∀ b', b' < w.heap.size → b' ≠ b → w'.heap[b']? = w.heap[b']?) (hsz : w.heap.size ≤ w'.heap.size)
    (h1 : w'.os = w.os) (h2 : w'.tape = w.tape) (h3 : w'.output = w.output) (h4 : w.drawn ≤ w'.drawn) (hl : xs'.length = xs.length) (hw : ∀ x ∈ xs', x.cells.length = k) (hp : ∀ x ∈ xs', x.notTup = true ∧ ∀ y ∈ x.cells, y.isCell = true)
    (hr : ∀ (i j : Nat) x y, xs'[i]? = some x → x.cells[j]? = some y → ∃ v, cs'[base + i * k + j]? = some v ∧ VRel σ g v y) :
    Keep g w g w' ∧ Sim σ g (s.set r (.row xs')) w' := by
  have he := h.ent _ _ hm
  cases he with
  | row he =>
    obtain ⟨hfx, hlen, hwd, hpl, cs0, ho, hrel⟩ := he _ _ _ _ hb
    obtain ⟨t0, fr0, hh0, hn⟩ := ho.heap
    rw [hh0] at hh
    simp only [Option.some.injEq, Obj.cells.injEq] at hh
    obtain ⟨rfl, rfl, rfl⟩ := hh
    have hown := ho.own
    refine ⟨⟨G.Le.refl g, fun b' hb' hn' => ⟨hn', hother b' hb' ?_⟩, hsz, h1, h2, h3, h4⟩, ?_⟩
    · rintro rfl; rw [hown] at hn'; cases hn'
    · refine h.step (· = r) (G.Le.refl g) ?_ (Nat.le_refl _) ?_ (fun _ _ _ => rfl) ?_ ?_ ?_ ?_ hsz (fun b' hb' => h.own b' (by omega))
      · intro b' p v hv
        have hne : b' ≠ b := fun eb => by subst eb; rw [hfx] at hv; cases hv
        have hc := h.fixc _ _ _ hv
        have hlt := World.block_lt_of_cell? w _ hc
        simp only [World.cell?] at hc ⊢
        rw [hother b' hlt hne]; exact hc
      · intro id' hid e1 he1
        rw [St.mem_set, if_neg hid] at he1; exact he1
      · intro b' id' hb' hid
        have hne : b' ≠ b := fun eb => by subst eb; rw [hown] at hb'; cases hb'; exact hid rfl
        refine ⟨hb', fun _ => rfl, hother b' ?_ hne⟩
        by_cases hlt : b' < w.heap.size
        · exact hlt
        · rw [h.own b' (by omega)] at hb'; cases hb'
      · rintro id' e1 rfl he1
        rw [St.mem_set, if_pos rfl] at he1; cases he1
        refine ⟨.row fun b2 base2 k2 lim2 hb2 => ?_, h.lt _ _ hm⟩
        rw [hb] at hb2
        simp only [Option.some.injEq, Prod.mk.injEq] at hb2
        obtain ⟨rfl, rfl, rfl, rfl⟩ := hb2
        exact ⟨hfx, by rw [hl]; exact hlen, hw, hp, cs', ⟨hown, ⟨t0, fr0, hh', by rw [hcs]; exact hn⟩, hcs.trans ho.size⟩, hr⟩
      · rintro id' n b' base' k' lim' rfl hb'
        exact ⟨h.lt _ _ hm, Nat.lt_of_lt_of_le (h.back _ _ _ _ _ _ hb') hsz⟩
      · rintro id' gn n k' m rfl he1 _
        rw [St.mem_set, if_pos rfl] at he1; cases he1

/-! ### pairs of integers -/

def spV (p : Int × Int) : V := .agg [.int .i64 p.1, .int .i64 p.2]
def encS (p : Int × Int) : List Value := [.int .i64 p.1, .int .i64 p.2]
def asSp : V → Option (Int × Int)
  | .agg [.int .i64 a, .int .i64 b] => some (a, b)
  | _ => none
def asSps : List V → Option (List (Int × Int))
  | [] => some []
  | x :: r => match asSp x, asSps r with | some p, some l => some (p :: l) | _, _ => none
theorem asSp_eq {x : V} {p : Int × Int} (h : asSp x = some p) : x = spV p := by
  unfold asSp at h
  split at h
  · injection h with h; subst h; rfl
  · cases h
theorem asSps_eq : ∀ {xs : List V} {ps : List (Int × Int)}, asSps xs = some ps → xs = ps.map spV
  | [], ps, h => by simp only [asSps, Option.some.injEq] at h; subst h; rfl
  | x :: r, ps, h => by
    simp only [asSps] at h
    split at h
    · rename_i p l h1 h2
      injection h with h
      subst h
      rw [asSp_eq h1, asSps_eq h2, List.map_cons]
    · cases h
theorem asSps_map (ps : List (Int × Int)) : asSps (ps.map spV) = some ps := by
  induction ps with
  | nil => rfl
  | cons p r ih => simp only [List.map_cons, asSps, ih]; rfl

/-- The sorted row. -/
def sortBy (cf : Int × Int → Int × Int → Int) (ps : List (Int × Int)) : List (Int × Int) := ps.mergeSort fun x y => !(Go.Proofs.ltOf cf) y x

/-- What SortFunc does, at a row of pairs of integers and the function f. -/
def sortP (f : Nat) (cf : Int × Int → Int × Int → Int) (args : List V) (s : St) : Option (V × St) :=
  match args with
  | [.nilsl, .fn f' [] []] => if f' = f then some (V.undef, s) else none
  | [.row r k off n, .fn f' [] []] =>
    if f' = f ∧ k = 2 ∧ off = 0 then
      match s.mem r with
      | some (.row xs) =>
        match asSps xs with
        | some ps => if ps.length = n ∧ n ≤ 1000000 then some (V.undef, s.set r (.row ((sortBy cf ps).map spV))) else none
        | none => none
      | _ => none
    else none
  | _ => none

theorem get_flatS (d : Array (Int × Int)) (i j : Nat) (hi : i < d.size) (hj : j < 2) : (Go.Sort.flatK encS 2 d)[i * 2 + j]? = (encS d[i]!)[j]? := by
  have hlt : i * 2 + j < d.size * 2 := by omega
  have h := Go.Sort.get_flatK encS 2 d (i * 2 + j) hlt
  have e1 : (i * 2 + j) / 2 = i := by omega
  have e2 : (i * 2 + j) % 2 = j := by omega
  rw [e1, e2] at h
  rw [getElem!_pos _ _ (by rw [Go.Sort.size_flatK]; exact hlt)] at h
  rw [Array.getElem?_eq_getElem (by rw [Go.Sort.size_flatK]; exact hlt), h]
  have : j = 0 ∨ j = 1 := by omega
  rcases this with rfl | rfl <;> simp [encS]

theorem sort_prim {ρ : Go.Shelf.Ren} {F S : Nat} {cf : Int × Int → Int × Int → Int} (L : Go.Proofs.SlLaysF0.n6 P ρ) (hf : ρ.f 6 = σ S) (aE : ∀ w, (isAgg (ρ.t 24)).run P w = .ok true w) (zE : ∀ w, (Go.sizeOf (ρ.t 24)).run P w = .ok 2 w)
    (hO : Go.Sort.SWO (Go.Proofs.ltOf cf)) (hT : ∀ x y, (Go.Proofs.ltOf cf) x y = false → (Go.Proofs.ltOf cf) y x = false → x = y) (he : Enters P (σ S))
    (hc : ∀ p q, CallSound P σ F [spV p, spV q] St0 (fun v _ => v = .int .i64 (cf p q))) : PrimSound P σ S (sortP F cf) := by
  intro args s v s' hs
  refine ⟨he, fun g w vargs hsim hargs => ?_⟩
  have hent : ∀ args w, (callFunc (σ F) args).run P w = .ok (.enter (σ F) args) w := by
    obtain ⟨gf, c, h1, h2, h3⟩ := (hc (0, 0) (0, 0)).1
    exact Go.Proofs.enters_of h1 h3 h2
  have hcmp : ∀ blk off size, Go.Proofs.CmpLays P (σ F) #[] encS 2 cf blk off size w := by
    intro blk off size m os dk _ x y
    have hx := (hc x y).2 G0 (Go.Proofs.sortWorldK encS 2 w blk off m dk os) #[.agg (encS x).toArray, .agg (encS y).toArray] (Sim.empty σ _) ?_
    · refine hx.mono fun e w' h => ?_
      obtain ⟨val, v1, s1, g1, rfl, rfl, hv, hk, _⟩ := h
      refine ⟨by cases hv; rfl, grown_of (fun b hb => (hk.own b hb rfl).2) hk.size hk.os hk.tape hk.output hk.drawn⟩
    · refine ⟨rfl, fun i v x hv hx => ?_⟩
      have key : ∀ p : Int × Int, VRel σ G0 (.agg (encS p).toArray) (spV p) := fun p => by
        refine .agg rfl (by simp [V.isCell]) (fun j u z hu hz => ?_)
        match j with
        | 0 => simp [encS] at hu hz; subst hu; subst hz; exact .int _ _
        | 1 => simp [encS] at hu hz; subst hu; subst hz; exact .int _ _
        | j + 2 => simp at hz
      match i with
      | 0 => simp at hv hx; subst hv; subst hx; exact key _
      | 1 => simp at hv hx; subst hv; subst hx; exact key _
      | i + 2 => simp at hx
  unfold sortP at hs
  split at hs
  · -- nil
    rename_i f'
    split at hs
    case isFalse => cases hs
    rename_i hf'
    subst hf'
    simp only [Option.some.injEq, Prod.mk.injEq] at hs
    obtain ⟨rfl, rfl⟩ := hs
    obtain ⟨a0, a1, rfl, ha0, ha1⟩ : ∃ a0 a1, vargs = #[a0, a1] ∧ VRel σ g a0 .nilsl ∧ VRel σ g a1 (.fn f' [] []) := by
      obtain ⟨hl, hr⟩ := hargs
      match vargs, hl with
      | ⟨[a0, a1]⟩, _ => exact ⟨a0, a1, rfl, hr 0 _ _ rfl rfl, hr 1 _ _ rfl rfl⟩
    cases ha0
    have := Go.Proofs.AnyF.slices_SortFunc_none L none 0 a1 w
    rw [hf] at this
    refine this.mono fun e w' h => ?_
    obtain ⟨rfl, rfl⟩ := h
    exact ⟨_, _, _, g, rfl, ⟨rfl, rfl⟩, VRel.undef _ _, Keep.refl _ _, hsim⟩
  · rename_i r k off n f'
    split at hs
    case isFalse => cases hs
    rename_i hcond
    obtain ⟨rfl, rfl, rfl⟩ := hcond
    split at hs
    case h_2 => cases hs
    rename_i xs hm
    split at hs
    case h_2 => cases hs
    rename_i ps hps
    split at hs
    case isFalse => cases hs
    rename_i hn
    obtain ⟨rfl, hn⟩ := hn
    simp only [Option.some.injEq, Prod.mk.injEq] at hs
    obtain ⟨rfl, rfl⟩ := hs
    have hxs := asSps_eq hps
    subst hxs
    obtain ⟨a0, a1, rfl, ha0, ha1⟩ : ∃ a0 a1, vargs = #[a0, a1] ∧ VRel σ g a0 (.row r 2 0 ps.length) ∧ VRel σ g a1 (.fn f' [] []) := by
      obtain ⟨hl, hr⟩ := hargs
      match vargs, hl with
      | ⟨[a0, a1]⟩, _ => exact ⟨a0, a1, rfl, hr 0 _ _ rfl rfl, hr 1 _ _ rfl rfl⟩
    have ha1' : a1 = .func (.func (σ f')) #[] #[] := by
      cases ha1 with
      | fn hl hl' =>
        rename_i fs cs _ _
        rw [show fs = #[] from Array.eq_empty_of_size_eq_zero hl, show cs = #[] from Array.eq_empty_of_size_eq_zero hl']
    subst ha1'
    cases ha0 with
    | @row b p _ cap _ _ _ hcap hpos =>
    by_cases hp0 : ps.length = 0
    · have hpn : ps = [] := List.length_eq_zero_iff.1 hp0
      subst hpn
      have := Go.Proofs.AnyF.slices_SortFunc_none L (some ⟨b, p, none⟩) cap (.func (.func (σ f')) #[] #[]) w
      rw [hf] at this
      refine this.mono fun e w' h => ?_
      obtain ⟨rfl, rfl⟩ := h
      refine ⟨_, _, _, g, rfl, ⟨rfl, rfl⟩, VRel.undef _ _, Keep.refl _ _, ?_⟩
      have hid : s.set r (.row ((sortBy cf []).map spV)) = s := by
        have e0 : sortBy cf [] = [] := by simp [sortBy]
        rw [e0]
        cases s with
        | mk nx mem =>
          simp only [St.set]
          congr 1
          funext j
          by_cases hj : j = r
          · subst hj; rw [Nat.beq_refl, cond_true]; exact hm.symm
          · rw [beqf hj, cond_false]
      rw [hid]; exact hsim
    · rcases hpos with h0 | ⟨base, lim, hb, hpb, hlim⟩
      · omega
      · obtain rfl : base = p := by omega
        have hsim' := hsim.ent _ _ hm
        cases hsim' with
        | row hrow =>
          obtain ⟨hfx, hlen, hwd, hpl, cs, ho, hrel⟩ := hrow _ _ _ _ hb
          obtain ⟨t, fr, hh, hnf⟩ := ho.heap
          have hcell : ∀ i j, i < ps.length → j < 2 → cs[base + i * 2 + j]? = (encS ps.toArray[i]!)[j]? := by
            intro i j hi hj
            have hxi : (ps.map spV)[i]? = some (spV ps[i]) := by rw [List.getElem?_map, List.getElem?_eq_getElem hi]; rfl
            have hpi : ps.toArray[i]! = ps[i] := by simp [hi]
            have : j = 0 ∨ j = 1 := by omega
            rcases this with rfl | rfl
            · obtain ⟨v, h1, h2⟩ := hrel i 0 _ _ hxi (show (spV ps[i]).cells[0]? = some _ from rfl)
              rw [h1, hpi]; cases h2; rfl
            · obtain ⟨v, h1, h2⟩ := hrel i 1 _ _ hxi (show (spV ps[i]).cells[1]? = some _ from rfl)
              rw [h1, hpi]; cases h2; rfl
          have hblk : b < w.heap.size := hsim.back _ _ _ _ _ _ hb
          have hsize : base + ps.length * 2 ≤ cs.size := by
            rw [ho.size]
            simpa using hlen
          have hH : Go.Sort.HoldsK encS 2 w b (base) ps.toArray := by
            intro q hq
            rw [Go.Sort.size_flatK] at hq
            have hq' : q < ps.length * 2 := by simpa using hq
            have hdm : q = (q / 2) * 2 + q % 2 := by omega
            have hcl := hcell (q / 2) (q % 2) (by omega) (by omega)
            have hfl := get_flatS ps.toArray (q / 2) (q % 2) (by simp; omega) (by omega)
            rw [← hdm] at hfl
            rw [← hfl, show base + q / 2 * 2 + q % 2 = base + q by omega] at hcl
            have hz : (Go.Sort.flatK encS 2 ps.toArray)[q]? = some (Go.Sort.flatK encS 2 ps.toArray)[q]! := by
              rw [getElem!_pos _ _ (by rw [Go.Sort.size_flatK]; simpa using hq'), Array.getElem?_eq_getElem]
            rw [hz] at hcl
            constructor
            · simp only [World.cell?, hh, Option.isSome_none, Bool.false_eq_true, if_false, id]
              rw [← hcl]
            · simp only [World.frozen?, hh]
              have := hnf (base + q) (by omega)
              simp only [Bool.and_eq_false_iff, decide_eq_false_iff_not]
              by_cases h1 : fr.1 ≤ base + q
              · right; exact fun h2 => this ⟨h1, h2⟩
              · left; exact h1
          have key := Go.Proofs.AnyQ.slices_SortFunc_total L 2 aE zE encS (fun _ => rfl) (by intro x v hv; simp only [encS, List.mem_cons, List.not_mem_nil, or_false] at hv; rcases hv with rfl | rfl <;> rfl) cf hO (σ f') #[] b (base) cap ps.toArray w hent (hcmp _ _ _) hH hblk (by simp; omega) hT
          rw [hf] at key
          rw [show (ps.toArray).size = ps.length by simp] at key
          refine key.mono fun e w' h => ?_
          obtain ⟨rfl, m, os, rfl⟩ := h
          generalize hd' : (ps.toArray.toList.mergeSort fun x y => !Go.Proofs.ltOf cf y x) = d'
          have hd2 : d' = sortBy cf ps := by rw [← hd']; simp [sortBy]
          have hl' : d'.length = ps.length := by rw [hd2]; simp [sortBy]
          have hout := hsim.rowWorld (w' := Go.Proofs.sortWorldK encS 2 w b (base) m d'.toArray os) (xs' := d'.map spV) (cs' := Go.Sort.putCells id (base) (Go.Sort.flatK encS 2 d'.toArray) cs) hm hb hh ?_ ?_ ?_ ?_ rfl rfl rfl ?_ (by simp [hl']) ?_ ?_ ?_
          · refine ⟨_, _, _, g, rfl, ⟨rfl, rfl⟩, VRel.undef _ _, hout.1, ?_⟩
            rw [← hd2]; exact hout.2
          · show ((Go.Sort.mapBlock (Go.Sort.ahead w m) b _).heap ++ os)[b]? = _
            rw [Array.getElem?_append_left (by simp [Go.Sort.mapBlock, Go.Sort.ahead, hblk])]
            simp only [Go.Sort.mapBlock, Go.Sort.ahead, Array.getElem?_modify, if_true, hh, Option.map_some, Go.Sort.onCells]
          · simp [Go.Sort.putCells]
          · intro b' hb' hne
            show ((Go.Sort.mapBlock (Go.Sort.ahead w m) b _).heap ++ os)[b']? = _
            rw [Array.getElem?_append_left (by simp [Go.Sort.mapBlock, Go.Sort.ahead, hb'])]
            simp only [Go.Sort.mapBlock, Go.Sort.ahead, Array.getElem?_modify, if_neg (Ne.symm hne)]
          · show w.heap.size ≤ ((Go.Sort.mapBlock (Go.Sort.ahead w m) b _).heap ++ os).size
            simp [Go.Sort.mapBlock, Go.Sort.ahead]
          · show w.drawn ≤ w.drawn + m
            omega
          · intro x hx
            obtain ⟨p, _, rfl⟩ := List.mem_map.1 hx
            rfl
          · intro x hx
            obtain ⟨p, _, rfl⟩ := List.mem_map.1 hx
            exact ⟨rfl, by simp [spV, V.cells, V.isCell]⟩
          · intro i j x y hx hy
            rw [List.getElem?_map] at hx
            cases hdi : d'[i]? with
            | none => rw [hdi] at hx; cases hx
            | some p =>
              rw [hdi] at hx
              simp only [Option.map_some, Option.some.injEq] at hx
              subst hx
              have hi : i < d'.length := (List.getElem?_eq_some_iff.1 hdi).1
              have hj : j < 2 := by
                have := (List.getElem?_eq_some_iff.1 hy).1
                simpa [spV, V.cells] using this
              have hfl := get_flatS d'.toArray i j (by simpa using hi) hj
              have hpi : d'.toArray[i]! = p := by
                simp only [List.getElem!_toArray, List.getElem!_eq_getElem?_getD, hdi, Option.getD_some]
              rw [hpi] at hfl
              refine ⟨(encS p)[j]?.getD Go.undef, ?_, ?_⟩
              · simp only [Go.Sort.putCells, Array.getElem?_mapIdx]
                rw [Array.getElem?_eq_getElem (by omega)]
                simp only [Option.map_some, Go.Sort.size_flatK, List.size_toArray]
                rw [if_pos (by omega), show base + i * 2 + j - (base) = i * 2 + j by omega, ← hfl]
                rw [getElem!_def]
                have : j = 0 ∨ j = 1 := by omega
                rcases this with rfl | rfl <;> rw [hfl] <;> rfl
              · have : j = 0 ∨ j = 1 := by omega
                rcases this with rfl | rfl
                · simp only [spV, V.cells, List.getElem?_cons_zero, Option.some.injEq] at hy
                  subst hy; exact .int _ _
                · simp only [spV, V.cells, List.getElem?_cons_zero, List.getElem?_cons_succ, Option.some.injEq] at hy
                  subst hy; exact .int _ _
  · cases hs
end Go.VS
