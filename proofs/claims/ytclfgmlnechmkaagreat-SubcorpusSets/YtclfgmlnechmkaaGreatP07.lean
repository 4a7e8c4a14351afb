/-
  Part 7 of 43 of the proof of SubcorpusSetsSaid, by an abstract machine that stands in for the Go program: lemmas without conditions of their own.
-/
import Derived.Test.YtclfgmlnechmkaaGreatP06
set_option linter.unusedSimpArgs false
set_option linter.unusedVariables false
namespace Go.VS
section
variable {T : Nat → Option FnDef} {F : Frame} {s s' : St} {K : Frame → St → Prop} {r : List Lo} {Q : Post}

def AndK (p q : Prop) : Prop := p ∧ q
theorem AndK_t {q : Prop} : AndK True q = q := by simp [AndK]
def chkAll (F : Frame) (s s' : St) : List Chk → Prop
  | [] => True
  | c :: cs => AndK (c.ok F s s') (chkAll F s s' cs)
theorem chkAll_nil : chkAll F s s' [] = True := rfl
theorem chkAll_cons {c : Chk} {cs : List Chk} : chkAll F s s' (c :: cs) = AndK (c.ok F s s') (chkAll F s s' cs) := rfl
theorem chkAll_mem {l : List Chk} (h : chkAll F s s' l) : ∀ c ∈ l, c.ok F s s' := by
  induction l with
  | nil => intro c hc; cases hc
  | cons x xs ih =>
    intro c hc
    rcases List.mem_cons.1 hc with rfl | hc
    · exact h.1
    · exact ih h.2 c hc
theorem chkAll_of {l : List Chk} (h : ∀ c ∈ l, c.ok F s s') : chkAll F s s' l := by
  induction l with
  | nil => trivial
  | cons x xs ih => exact ⟨h x (by simp), ih fun k hk => h k (by simp [hk])⟩
theorem ok_ld {k : Nat} {ag : Bool} {a : Opd} : (Chk.ld k ag a).ok F s s' = (loadV k ag (a.ev F) s' = loadV k ag (a.ev F) s) := rfl

theorem X_opc {d : Option Nat} {op : VOp} {c : Chk} {cs : List Chk} (hp : op.plain = true) : D T (.ops (⟨d, op, none, c :: cs⟩ :: r) F s K) = (match opS op F s with | some (v, s') => AndK (chkAll F s s' (c :: cs)) (D T (.ops r (F.putO d v) s' K)) | none => False) := by
  refine propext ⟨fun h => ?_, fun h => ?_⟩
  · cases h with
    | skipped hw => simp [Lo.wanted] at hw
    | step hw h hc hr =>
      have h : opS op F s = some (_, _) := h
      rw [h]
      refine ⟨?_, hr⟩
      exact chkAll_of hc
    | frz hw h => have h : op = _ := h; subst h; simp [VOp.plain] at hp
    | frzc hw h => have h : op = _ := h; subst h; simp [VOp.plain] at hp
    | call hw h => have h : op = _ := h; subst h; simp [VOp.plain] at hp
  · split at h
    · rename_i v s' he
      exact .step rfl he (chkAll_mem h.1) h.2
    · exact h.elim
theorem X_mkrow_c {d : Option Nat} {mt : Bool} {k by_ : Nat} {z : V} {len cap : Opd} {c : Chk} {cs : List Chk} : D T (.ops (⟨d, .mkrow mt k by_ z len cap, none, c :: cs⟩ :: r) F s K) = (match opS (.mkrow mt k by_ z len cap) F s with | some (v, s') => AndK (chkAll F s s' (c :: cs)) (D T (.ops r (F.putO d v) s' K)) | none => False) := X_opc rfl

theorem mkrow_i {k by_ n : Nat} {z : V} {k1 k2 : IntKind} (h : n ≤ 100000) (hb : by_ ≤ 4096) : mkrowV false k by_ z (.int k1 (n : Int)) (.int k2 (n : Int)) s = some (.sl s.next 0 0 (List.replicate n z), s.new (.tip 0 n k)) := by
  have : n ≤ most := by simp only [most]; omega
  simp [mkrowV, asIdx, this, hb]
theorem freeze_row {i k off n : Nat} : freezeV (.row i k off n) s = match s.mem i with | some (.row xs) => (if off + n ≤ xs.length then some (.sl s.next 0 0 ((xs.drop off).take n), (s.kill i).new (.tip 0 ((xs.drop off).take n).length k)) else none) | _ => none := by
  simp only [freezeV, elems]
  cases h : s.mem i with
  | none => rfl
  | some e =>
    cases e with
    | row xs => by_cases hl : off + n ≤ xs.length <;> simp [hl]
    | _ => rfl
theorem freeze_nil : freezeV .nilsl s = some (.nilsl, s) := rfl

theorem set_set (s : St) (i : Nat) (a b : Ent) : (s.set i a).set i b = s.set i b := by
  cases s with
  | mk n m =>
    simp only [St.set]
    congr 1
    funext j
    cases Nat.beq j i <;> rfl
theorem set_same {s : St} {i : Nat} {a : Ent} (h : s.mem i = some a) : s.set i a = s := by
  cases s with
  | mk n m =>
    simp only [St.set]
    congr 1
    funext j
    by_cases hj : j = i
    · subst hj; simp at h ⊢; exact h.symm
    · rw [show Nat.beq j i = false by rw [Bool.eq_false_iff, ne_eq, Nat.beq_eq]; exact hj]; rfl

/-- A row that is written to, whole; or nil. -/
def MRow (s : St) (v : V) (k : Nat) (xs : List V) : Prop := (v = .nilsl ∧ xs = []) ∨ ∃ i, v = .row i k 0 xs.length ∧ i < s.next ∧ s.mem i = some (.row xs)
theorem MRow.len {v : V} {k : Nat} {xs : List V} (h : MRow s v k xs) : lenV v = some xs.length := by
  rcases h with ⟨rfl, rfl⟩ | ⟨i, rfl, _⟩ <;> rfl
theorem MRow.notStr {v : V} {k : Nat} {xs : List V} (h : MRow s v k xs) : v.isStr = false := by
  rcases h with ⟨rfl, rfl⟩ | ⟨i, rfl, _⟩ <;> rfl
theorem MRow.cells1 {v : V} {k : Nat} {xs : List V} (h : MRow s v k xs) : v.cells = [v] := by
  rcases h with ⟨rfl, rfl⟩ | ⟨i, rfl, _⟩ <;> rfl
theorem MRow.notTup {v : V} {k : Nat} {xs : List V} (h : MRow s v k xs) : v.notTup = true := by
  rcases h with ⟨rfl, rfl⟩ | ⟨i, rfl, _⟩ <;> rfl
theorem IsL.notTup {v : V} {xs : List V} (h : IsL v xs) : v.notTup = true := by
  rcases h with ⟨rfl, rfl⟩ | ⟨c, g, off, rfl⟩ <;> rfl
theorem IsL.rowOk {v : V} {xs : List V} {k : Nat} (h : IsL v xs) : VS.rowOk v k = true := by
  rcases h with ⟨rfl, rfl⟩ | ⟨c, g, off, rfl⟩ <;> rfl

/-- 'append' to a row that is newer than S0. -/
theorem appendR {S0 : St} {v w : V} {k by_ : Nat} {xs ys : List V} (h : MRow s v k xs) (hle : St.Le S0 s) (hnew : ∀ i kk o n, v = .row i kk o n → S0.next ≤ i) (hw : elems w s = some ys) (hr : rowOk w k = true) (h1 : wOk k ys = true) (hl : xs.length + ys.length ≤ most) (hb : by_ ≤ 4096) :
    ∃ v' s', appendV true k by_ v w s = some (v', s') ∧ MRow s' v' k (xs ++ ys) ∧ St.Le S0 s' ∧ (∀ i kk o n, v' = .row i kk o n → S0.next ≤ i) ∧ s.next ≤ s'.next ∧ ∀ j, j < s.next → (∀ kk o n, v ≠ .row j kk o n) → s'.mem j = s.mem j := by
  have hn := hle.1
  rcases h with ⟨rfl, rfl⟩ | ⟨i, rfl, hi, hm⟩
  · by_cases hy : ys = []
    · subst hy
      exact ⟨.nilsl, s, by simp [appendV, hw, wOk, hr, show VS.rowOk V.nilsl k = true from rfl], .inl ⟨rfl, rfl⟩, hle, by simp, Nat.le_refl _, fun _ _ _ => rfl⟩
    · have : ys.isEmpty = false := by simp [hy]
      simp only [List.length_nil, Nat.zero_add] at hl
      refine ⟨.row s.next k 0 ys.length, s.new (.row ys), ?_, .inr ⟨s.next, by simp, by simp [next_new'], by simp [mem_new']⟩, hle.new_, ?_, by simp [next_new'], fun j hj _ => by rw [mem_new', if_neg (by omega)]⟩
      · simp [appendV, hw, h1, show VS.rowOk V.nilsl k = true from rfl, hr, this, hl, hb]
      · intro i kk o n e
        injection e with e
        omega
  · have h0 := hnew i k 0 xs.length rfl
    by_cases hy : ys = []
    · subst hy
      exact ⟨.row i k 0 xs.length, s, by simp [appendV, hw, wOk, hr, show VS.rowOk (V.row i k 0 xs.length) k = true from by simp [VS.rowOk]], .inr ⟨i, by simp, hi, by simpa using hm⟩, hle, hnew, Nat.le_refl _, fun _ _ _ => rfl⟩
    · have : ys.isEmpty = false := by simp [hy]
      refine ⟨.row s.next k 0 (xs.length + ys.length), (s.kill i).new (.row (xs ++ ys)), ?_, .inr ⟨s.next, by simp, by simp [next_new', next_kill'], by simp [mem_new', next_kill']⟩, (hle.kill_ h0).new_, ?_, by simp [next_new', next_kill'], ?_⟩
      · have he : elems (.row i k 0 xs.length) s = some xs := by simp [elems, hm]
        simp [appendV, hw, h1, show VS.rowOk (V.row i k 0 xs.length) k = true from by simp [VS.rowOk], hr, this, hl, hb, he]
      · intro i' kk o n e
        injection e with e
        omega
      · intro j hj hne
        rw [mem_new', if_neg (by rw [next_kill']; omega), mem_kill', if_neg]
        rintro rfl
        exact hne _ _ _ rfl

/-- 'append(append([]T(nil), x...), y...)', a row that is written to later. -/
theorem X_app2m {d1 d2 k by_ : Nat} {x y : Opd} {vx vy : V} {xs ys : List V} {c1 c2 : List Chk} (hx : x.ev F = vx) (hy : ∀ v, y.ev (F.put d1 v) = vy) (hX : IsL vx xs) (hY : IsL vy ys) (w1 : wOk k xs = true) (w2 : wOk k ys = true) (hl : xs.length + ys.length ≤ 1000000) (hb : by_ ≤ 4096)
    (k1 : ∀ δ, s.next ≤ δ.next → chkAll F s (s.over δ) c1) (k2 : ∀ v δ δ', s.next ≤ δ.next → s.next ≤ δ'.next → chkAll (F.put d1 v) (s.over δ) (s.over δ') c2)
    (h : ∀ v1 v δ, s.next ≤ δ.next → MRow (s.over δ) v k (xs ++ ys) → (∀ i kk o n, v = .row i kk o n → s.next ≤ i) → D T (.ops r ((F.put d1 v1).put d2 v) (s.over δ) K)) :
    D T (.ops (⟨some d1, .append true k by_ (.c .nilsl) x, none, c1⟩ :: ⟨some d2, .append true k by_ (.t d1) y, none, c2⟩ :: r) F s K) := by
  have hm : 1000000 ≤ most := by simp only [most]; omega
  obtain ⟨v1, s1, e1, m1, l1, n1, _, _⟩ := appendR (s := s) (S0 := s) (v := .nilsl) (by_ := by_) (k := k) (.inl ⟨rfl, rfl⟩) (St.LeW.refl _ _) (by simp) hX.elems hX.rowOk w1 (by simp; omega) hb
  rw [List.nil_append] at m1
  obtain ⟨v2, s2, e2, m2, l2, n2, _, _⟩ := appendR (by_ := by_) m1 l1 n1 hY.elems hY.rowOk w2 (by omega) hb
  obtain ⟨δ1, hd1, rfl⟩ := l1.gr
  obtain ⟨δ2, hd2, rfl⟩ := l2.gr
  refine .step (v := v1) (s' := s.over δ1) rfl ?_ (chkAll_mem (k1 _ hd1)) (.step (v := v2) (s' := s.over δ2) rfl ?_ (chkAll_mem (k2 _ _ _ hd1 hd2)) (h v1 v2 δ2 hd2 m2 n2))
  · simp only [opS, ev_c, hx, e1]
  · show opS _ (F.put d1 v1) _ = _
    simp only [opS, ev_t, put_at, if_pos, hy, e2]

theorem append_isl {v w : V} {k by_ : Nat} {xs ys : List V} (h : IsTip s v k xs) (hw : elems w s = some ys) (hr : rowOk w k = true) (h1 : wOk k ys = true) (h2 : wOk k xs = true) (hl : xs.length + ys.length ≤ most) (hb : by_ ≤ 4096) {S0 : St} (hle : St.Le S0 s) (hown : ∀ i ∈ v.own, S0.next ≤ i) :
    ∃ v' s', appendV false k by_ v w s = some (v', s') ∧ IsTip s' v' k (xs ++ ys) ∧ St.Le S0 s' ∧ ∀ i ∈ v'.own, S0.next ≤ i := by
  obtain ⟨v', s', e, ht, hlw, ho⟩ := append_tip h hw hr h1 h2 hl hb
  refine ⟨v', s', e, ht, ⟨Nat.le_trans hle.1 hlw.1, fun i hi hw => ?_⟩, fun i hi => ?_⟩
  · rw [hlw.2 i (Nat.lt_of_lt_of_le hi hle.1) (fun hio => by have := hown i hio; omega)]
    exact hle.2 i hi hw
  · rcases ho i hi with h1 | h1
    · exact hown i h1
    · exact Nat.le_trans hle.1 h1

/-- The same, a slice that nobody writes to. -/
theorem X_app2i {d1 d2 k by_ : Nat} {x y : Opd} {vx vy : V} {xs ys : List V} {c1 c2 : List Chk} (hx : x.ev F = vx) (hy : ∀ v, y.ev (F.put d1 v) = vy) (hX : IsL vx xs) (hY : IsL vy ys) (w1 : wOk k xs = true) (w2 : wOk k ys = true) (hl : xs.length + ys.length ≤ 1000000) (hb : by_ ≤ 4096)
    (k1 : ∀ δ, s.next ≤ δ.next → chkAll F s (s.over δ) c1) (k2 : ∀ v δ δ', s.next ≤ δ.next → s.next ≤ δ'.next → chkAll (F.put d1 v) (s.over δ) (s.over δ') c2)
    (h : ∀ v1 v δ, s.next ≤ δ.next → Tip0 s (s.over δ) v k (xs ++ ys) → D T (.ops r ((F.put d1 v1).put d2 v) (s.over δ) K)) :
    D T (.ops (⟨some d1, .append false k by_ (.c .nilsl) x, none, c1⟩ :: ⟨some d2, .append false k by_ (.t d1) y, none, c2⟩ :: r) F s K) := by
  have hm : 1000000 ≤ most := by simp only [most]; omega
  obtain ⟨v1, s1, e1, m1, l1, n1⟩ := append_isl (s := s) (S0 := s) (v := .nilsl) (by_ := by_) (k := k) (.inl ⟨rfl, rfl⟩) hX.elems hX.rowOk w1 rfl (by simp; omega) hb (St.LeW.refl _ _) (by simp [V.own])
  rw [List.nil_append] at m1
  obtain ⟨v2, s2, e2, m2, l2, n2⟩ := append_isl (by_ := by_) m1 hY.elems hY.rowOk w2 w1 (by omega) hb l1 n1
  obtain ⟨δ1, hd1, rfl⟩ := l1.gr
  obtain ⟨δ2, hd2, rfl⟩ := l2.gr
  refine .step (v := v1) (s' := s.over δ1) rfl ?_ (chkAll_mem (k1 _ hd1)) (.step (v := v2) (s' := s.over δ2) rfl ?_ (chkAll_mem (k2 _ _ _ hd1 hd2)) (h v1 v2 δ2 hd2 ⟨m2, n2⟩))
  · simp only [opS, ev_c, hx, e1]
  · show opS _ (F.put d1 v1) _ = _
    simp only [opS, ev_t, put_at, if_pos, hy, e2]
/-- 'append([]T(nil), x...)'. -/
theorem X_app1i {d1 k by_ : Nat} {x : Opd} {vx : V} {xs : List V} (hx : x.ev F = vx) (hX : IsL vx xs) (w1 : wOk k xs = true) (hl : xs.length ≤ 1000000) (hb : by_ ≤ 4096)
    (h : ∀ v δ, s.next ≤ δ.next → Tip0 s (s.over δ) v k xs → D T (.ops r (F.put d1 v) (s.over δ) K)) :
    D T (.ops (⟨some d1, .append false k by_ (.c .nilsl) x, none, []⟩ :: r) F s K) := by
  have hm : 1000000 ≤ most := by simp only [most]; omega
  obtain ⟨v1, s1, e1, m1, l1, n1⟩ := append_isl (s := s) (S0 := s) (v := .nilsl) (by_ := by_) (k := k) (.inl ⟨rfl, rfl⟩) hX.elems hX.rowOk w1 rfl (by simp; omega) hb (St.LeW.refl _ _) (by simp [V.own])
  rw [List.nil_append] at m1
  obtain ⟨δ1, hd1, rfl⟩ := l1.gr
  refine .step (v := v1) (s' := s.over δ1) rfl ?_ (by simp) (h v1 δ1 hd1 ⟨m1, n1⟩)
  simp only [opS, ev_c, hx, e1]
/-- The entity w aside, what was there is as it was. -/
def St.ovr (s : St) (w : Nat) (δ : St) : St := ⟨δ.next, fun i => if i < s.next ∧ i ≠ w then s.mem i else δ.mem i⟩
theorem nx_ovr (s : St) (w : Nat) (δ : St) : (s.ovr w δ).next = δ.next := by cases δ; rfl
theorem mem_ovr {s : St} {w : Nat} {δ : St} {i : Nat} (h : i < s.next) (h2 : i ≠ w) : (s.ovr w δ).mem i = s.mem i := by simp only [St.ovr]; rw [if_pos ⟨h, h2⟩]
theorem St.Le.ovr_ {S0 s δ : St} {w : Nat} (h : St.Le S0 s) (hw : S0.next ≤ w) (hd : s.next ≤ δ.next) : St.Le S0 (s.ovr w δ) :=
  ⟨Nat.le_trans h.1 hd, fun i hi hh => by rw [mem_ovr (Nat.lt_of_lt_of_le hi h.1) (by omega)]; exact h.2 i hi hh⟩
def V.rid (v : V) (d : Nat) : Nat := match v with | .row i _ _ _ => i | _ => d

theorem X_appR {d k by_ : Nat} {x y : Opd} {v w : V} {xs ys : List V} (hx : x.ev F = v) (hy : y.ev F = w) (h : MRow s v k xs) (hw : elems w s = some ys) (hr : rowOk w k = true) (h1 : wOk k ys = true) (hl : xs.length + ys.length ≤ 1000000) (hb : by_ ≤ 4096)
    (hk : ∀ v' δ, s.next ≤ δ.next → MRow (s.ovr (v.rid s.next) δ) v' k (xs ++ ys) → (∀ i kk o n, v' = .row i kk o n → i = v.rid s.next ∨ s.next ≤ i) → D T (.ops r (F.put d v') (s.ovr (v.rid s.next) δ) K)) :
    D T (.ops (⟨some d, .append true k by_ x y, none, []⟩ :: r) F s K) := by
  have hm : 1000000 ≤ most := by simp only [most]; omega
  have hS : St.Le (⟨0, fun _ => none⟩ : St) s := ⟨Nat.zero_le _, fun i hi => absurd hi (by simp)⟩
  obtain ⟨v2, s2, e2, m2, _, n2, hn, hj⟩ := appendR (by_ := by_) (S0 := ⟨0, fun _ => none⟩) h hS (fun _ _ _ _ _ => Nat.zero_le _) hw hr h1 (by omega) hb
  have hs : s2 = s.ovr (v.rid s.next) s2 := by
    cases s2 with
    | mk n m =>
      simp only [St.ovr]
      congr 1
      funext i
      by_cases hi : i < s.next ∧ i ≠ v.rid s.next
      · rw [if_pos hi]
        refine hj i hi.1 ?_
        rintro kk o nn rfl
        exact hi.2 rfl
      · rw [if_neg hi]
  refine .step (v := v2) (s' := s2) rfl ?_ (by simp) ?_
  · simp only [opS, hx, hy, e2]
  · rw [hs]
    rw [hs] at m2
    refine hk v2 s2 hn m2 ?_
    intro i kk o n e
    subst e
    rcases h with ⟨rfl, rfl⟩ | ⟨i0, rfl, hi0, hm0⟩
    · right
      by_cases hy0 : ys = []
      · subst hy0; simp [appendV, hw, wOk, hr, show VS.rowOk V.nilsl k = true from rfl] at e2
      · have : ys.isEmpty = false := by simp [hy0]
        simp only [List.length_nil, Nat.zero_add] at hl
        simp [appendV, hw, h1, show VS.rowOk V.nilsl k = true from rfl, hr, this, hb, show ys.length ≤ most by omega] at e2
        omega
    · by_cases hy0 : ys = []
      · subst hy0
        simp [appendV, hw, wOk, hr, show VS.rowOk (V.row i0 k 0 xs.length) k = true from by simp [VS.rowOk]] at e2
        left; exact e2.1.1.symm
      · have : ys.isEmpty = false := by simp [hy0]
        have he : elems (.row i0 k 0 xs.length) s = some xs := by simp [elems, hm0]
        simp [appendV, hw, h1, show VS.rowOk (V.row i0 k 0 xs.length) k = true from by simp [VS.rowOk], hr, this, hb, he, show xs.length + ys.length ≤ most by omega] at e2
        right; omega

theorem sl_row_a {k i off len l : Nat} {k1 : IntKind} (h : l ≤ len) : sliceV k (.row i k off len) (some (.int k1 (l : Int))) none none s = some (.row i k (off + l) (len - l), s) := by
  simp [sliceV, lenV, asIdx, h]
theorem sl_row_b {k i off len l : Nat} {k1 : IntKind} (h : l ≤ len) : sliceV k (.row i k off len) none (some (.int k1 (l : Int))) none s = some (.row i k off l, s) := by
  simp [sliceV, lenV, asIdx, h]
/-- What 'copy' within one row leaves. -/
def cpy (xs : List V) (a la b lb : Nat) : List V := xs.take a ++ ((xs.drop b).take lb).take la ++ xs.drop (a + min lb la)
theorem copy_same {k i a la b lb : Nat} : copyV k (.row i k a la) (.row i k b lb) s = match s.mem i with | some (.row xs) => (if b + lb ≤ xs.length ∧ a + la ≤ xs.length ∧ wOk k ((xs.drop b).take lb) = true then some (.int .i64 (min lb la : Nat), s.set i (.row (cpy xs a la b lb))) else none) | _ => none := by
  simp only [copyV, elems]
  cases h : s.mem i with
  | none => rfl
  | some e =>
    cases e with
    | row xs =>
      simp only
      by_cases h1 : b + lb ≤ xs.length
      · have hlen : ((xs.drop b).take lb).length = lb := by simp; omega
        by_cases h2 : a + la ≤ xs.length
        · by_cases h3 : wOk k ((xs.drop b).take lb) = true
          · simp only [h, h1, h2, h3, if_true, Nat.beq_refl, decide_true, Bool.and_true, rowOk, and_self, hlen, cpy]
          · have h3' : wOk k ((xs.drop b).take lb) = false := by simpa using h3
            simp only [h, h1, h2, h3', if_true, Bool.and_false, Bool.false_and, Bool.false_eq_true, and_false, if_false]
        · simp [h, h1, h2]
      · simp [h, h1]
    | _ => rfl
theorem cpy_len {xs : List V} {a la b lb : Nat} (h1 : b + lb ≤ xs.length) (h2 : a + la ≤ xs.length) : (cpy xs a la b lb).length = xs.length := by
  simp only [cpy, List.length_append, List.length_take, List.length_drop]; omega
theorem cpy_mem {xs : List V} {a la b lb : Nat} {x : V} (h : x ∈ cpy xs a la b lb) : x ∈ xs := by
  simp only [cpy, List.mem_append] at h
  rcases h with (h | h) | h
  · exact List.mem_of_mem_take h
  · exact List.mem_of_mem_drop (List.mem_of_mem_take (List.mem_of_mem_take h))
  · exact List.mem_of_mem_drop h
end
end Go.VS
