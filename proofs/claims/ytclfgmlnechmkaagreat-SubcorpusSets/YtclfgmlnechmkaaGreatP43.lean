/-
  SubcorpusSets: for every list of ints and every list of spans the call answers true, and both lists read as before. Conditions: none.
-/
import Derived.Test.YtclfgmlnechmkaaGreatP42
import Derived.Test.YtclfgmlnechmkaaGreatP41
import Derived.Test.YtclfgmlnechmkaaGreatP13
import Derived.Test.YtclfgmlnechmkaaGreatP14
import Derived.Test.YtclfgmlnechmkaaGreatP16
import Derived.Test.YtclfgmlnechmkaaGreatRows
import Derived.ProofKit
set_option linter.unusedSimpArgs false
set_option linter.unusedVariables false
namespace Go.VS.Fn
open Go.VS Go.Proofs

theorem linked0 : Linked Tryz.prog sigma (look tab0) := tab0_ok.linked mixed0
theorem hs0 : HS (look tab0) := by constructor <;> rfl
theorem compare_sound (p q : Int × Int) : CallSound Tryz.prog sigma 29 [spV p, spV q] St0 (fun v _ => v = .int .i64 (cmpS p q)) :=
  D.sound linked0 (D.mono_call (compare_spec hs0 p q St0) fun _ _ h => h.1)
theorem enters44 : Enters Tryz.prog (sigma 44) := ⟨Tryz.f74, _, Tryz.func74, rfl, by kernel_rfl⟩
theorem sort44 : PrimSound Tryz.prog sigma 44 (sortP 29 cmpS) :=
  sort_prim (ρ := Tryz.sortL_ren) Tryz.sortL rfl Tryz.isAgg76 Tryz.sizeOf76 cmpS_swo cmpS_one enters44 compare_sound

def tab1 : List (Nat × FnDef) := (44, .prim (sortP 29 cmpS)) :: tab0
theorem tab1_ok : TabOk Tryz.prog sigma tab1 := ⟨sort44, tab0_ok⟩
theorem linked1 : Linked Tryz.prog sigma (look tab1) := tab1_ok.linked mixed0
theorem hs1 : HS (look tab1) := by constructor <;> rfl
theorem hm1 : HM (look tab1) := by constructor <;> rfl
theorem hr1 : HR (look tab1) := by constructor <;> rfl
theorem hi1 : HI (look tab1) := by constructor <;> rfl
theorem hu1 : HU (look tab1) := by constructor <;> rfl
theorem hv1 : HV (look tab1) := by
  constructor
  · exact VV_holds rfl rfl rfl
  all_goals rfl

theorem sets_sound (lv : V) (ls : List Int) (h : IsL lv (ints ls)) (vr : V) (rs : List (Int × Int)) (hr : IsL vr (rs.map spV)) (s : St) : CallSound Tryz.prog sigma 226 [lv, vr] s (fun v _ => v = .bool true) :=
  D.sound linked1 (D.mono_call (Sets_spec hm1 hv1 hs1 hr1 hi1 hu1 (sortOk rfl) rfl lv ls h vr rs hr s) fun _ _ h => h.1)
end Go.VS.Fn

namespace Go.Proofs.YtclfgmlnechmkaaGreat
open Go.ChangeShapes Go.WideShapes Go.ChangeAt Go.RowKit

theorem Tryz.own : ownKnob Tryz.prog.godebug = none := by kernel_rfl
theorem Tryz.laidOut : laidOutB Tryz.prog = true := by kernel_rfl
theorem Tryz.cells3 : Tryz.prog.cellsOf 3 = 1 := by kernel_rfl
theorem Tryz.cells76 : Tryz.prog.cellsOf 76 = 2 := by kernel_rfl

set_option maxRecDepth 100000 in
theorem sets_lifted (os : Os) (started : os.Started) (H : Type) (enc : TypeId × Value → H) :
    ReturnsInHanded {} Tryz.checked os 3 .any (Rows.subcorpusSetsSpec.pre6 enc Tryz.prog Tryz.f3 Rows.subcorpusSetsRow.domain false) (Rows.subcorpusSetsSpec.post enc Tryz.prog Tryz.f3 false true false false) := by
  refine returnsInHanded_of_change (C := Tryz.checked) Tryz.own started (by kernel_rfl) Tryz.func3
    (ChangeSpec.witness6 (enc := enc) (C := Tryz.checked) false ⟨#[], #[.slice none 0 0, .slice none 0 0], []⟩ 8 (by kernel_rfl) (by kernel_rfl) (by kernel_rfl) (by kernel_rfl)) ?_
  intro W base args ds gs before hval0 hW hcnd _
  have hval : ∀ (j : Nat) t v, Tryz.f3.params[j]? = some t → args[j]? = some v → Value.okWide Tryz.prog W .any base t v := hval0
  have hW' := hW
  obtain ⟨p, q, hA0, hV, rfl, _, _⟩ := hW
  have hA : DataW.TrodAll enc Tryz.prog W 0 (fun _ => true) true Tryz.f3.params.toList args.toList ds p := hA0
  rw [Tryz.params3] at hA hval
  obtain ⟨v0, v1, d0, d1, p0, p1, rfl, rfl, rfl, h0, h1⟩ := trodAll_two hA
  obtain ⟨rfl, rfl⟩ := trodVars_none hV
  have hok0 := hval 0 22 v0 rfl rfl
  have hok1 := hval 1 23 v1 rfl rfl
  obtain ⟨a0, len, cap, rfl⟩ := okWide_slice Tryz.underlying22 hok0
  obtain ⟨a1, len1, cap1, rfl⟩ := okWide_slice Tryz.underlying23 hok1
  have h0k := h0
  have h1k := h1
  obtain ⟨fuel, hf⟩ := h0
  obtain ⟨fuel1, hf1⟩ := h1
  clear hA0 hval0
  simp only [List.append_nil] at hW'
  have hlt0 : ∀ x ∈ p0, x.block < W.heap.size := fun x hx => by have := hW'.lt x (List.mem_append.2 (.inl hx)); simpa using this
  have hlt1 : ∀ x ∈ p1, x.block < W.heap.size := fun x hx => by have := hW'.lt x (List.mem_append.2 (.inr hx)); simpa using this
  have hargs0 : ∀ (W' : World), Below W.heap.size W W' → DataW.Trod enc Tryz.prog W' 0 (fun b => decide (b < W.heap.size)) true 22 (.slice a0 len cap) d0 p0 :=
    fun W' hn => Below.trod Tryz.laidOut (by kernel_rfl) (of_decide_eq_true (by kernel_rfl)) h0k hn hlt0
  have hargs1 : ∀ (W' : World), Below W.heap.size W W' → DataW.Trod enc Tryz.prog W' 0 (fun b => decide (b < W.heap.size)) true 23 (.slice a1 len1 cap1) d1 p1 :=
    fun W' hn => Below.trod Tryz.laidOut (by kernel_rfl) (of_decide_eq_true (by kernel_rfl)) h1k hn hlt1
  let bl : Nat → Option (Nat × Nat × Nat × Nat) := fun i => if i = 0 then Go.VS.home (.slice a0 len cap) 1 else if i = 1 then Go.VS.home (.slice a1 len1 cap1) 2 else none
  obtain ⟨hb, v, ls, hrel, hv, _⟩ := Go.VS.start_ints (σ := Go.VS.Fn.sigma) Tryz.underlying22 Tryz.underlying3 Tryz.cells3 hok0 hf 0 bl rfl
  obtain ⟨hb1, vr, rs, hrel1, hv1⟩ := Go.VS.start_pairs (σ := Go.VS.Fn.sigma) Tryz.underlying23 Tryz.underlying76 Tryz.cells76 rfl rfl Tryz.cells3 Tryz.cells3 Tryz.underlying3 Tryz.underlying3 hok1 hf1 1 bl rfl
  have hL : Go.VS.IsL v (Go.VS.Fn.ints ls) := hv.imp (fun ⟨h1, h2⟩ => ⟨h1, by rw [h2]; rfl⟩) (fun h => ⟨0, 0, 0, h⟩)
  have hR : Go.VS.IsL vr (rs.map Go.VS.spV) := hv1.imp (fun ⟨h1, h2⟩ => ⟨h1, by rw [h2]; rfl⟩) (fun h => ⟨1, 0, 0, h⟩)
  have key := Go.VS.law_true (σ := Go.VS.Fn.sigma) (n := 2) (W := W) (Go.VS.Fn.sets_sound v ls hL vr rs hR (Go.VS.StN 2)) (fun i b bs k lim (hi : (if i = 0 then _ else if i = 1 then _ else none) = _) => by
    by_cases h : i = 0
    · subst h; exact ⟨by omega, hb _ _ _ _ hi⟩
    · rw [if_neg h] at hi
      by_cases h' : i = 1
      · subst h'; exact ⟨by omega, hb1 _ _ _ _ hi⟩
      · rw [if_neg h'] at hi; cases hi) (Go.VS.argsR2 hrel hrel1)
  refine (show Calls Tryz.prog 3 _ W _ from key).mono fun e W' ⟨he, hnx⟩ => ?_
  subst he
  exact ⟨_, rfl, _, _, _, [], _, [], hW', trodAll_mk1 (shut_bool Tryz.underlying4 true), trodAll_mk2 (hargs0 _ hnx) (hargs1 _ hnx), rfl, hnx.frame _, fun h => by cases h⟩

theorem subcorpusSets_holds : Rows.SubcorpusSetsSaid :=
  OpenClaim.holds_of_wide 3 Tryz.f3 rfl rfl rfl rfl rfl rfl rfl ⟨rfl, rfl, rfl, rfl, rfl⟩ rfl rfl rfl rfl rfl (by kernel_rfl) Tryz.func3 (by kernel_rfl)
    (of_decide_eq_true (by kernel_rfl)) (by unfold Func.isWrapper; first | (rw [if_pos (by decide +kernel)]; kernel_rfl) | (rw [if_neg (by decide +kernel)]; exact ⟨rfl, rfl⟩))
    (fun os started H enc _ => sets_lifted os started H enc)

#print axioms subcorpusSets_holds
end Go.Proofs.YtclfgmlnechmkaaGreat
