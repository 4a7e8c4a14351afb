/-
  SubcorpusLaws: for every list of ints the call answers true, and the list reads as before. Conditions: none.
-/
import Derived.Test.YtclfgmlnechmkaaP43
import Derived.Test.YtclfgmlnechmkaaP42
import Derived.Test.YtclfgmlnechmkaaP15
import Derived.Test.YtclfgmlnechmkaaP17
import Derived.Test.YtclfgmlnechmkaaRows
import Derived.ProofKit
set_option linter.unusedSimpArgs false
set_option linter.unusedVariables false
namespace Go.VS.Fn
open Go.VS Go.Proofs

theorem linked0 : Linked Try.prog sigma (look tab0) := tab0_ok.linked mixed0
theorem hs0 : HS (look tab0) := by constructor <;> rfl
theorem compare_sound (p q : Int × Int) : CallSound Try.prog sigma 29 [spV p, spV q] St0 (fun v _ => v = .int .i64 (cmpS p q)) :=
  D.sound linked0 (D.mono_call (compare_spec hs0 p q St0) fun _ _ h => h.1)
theorem enters44 : Enters Try.prog (sigma 44) := ⟨Try.f51, _, Try.func51, rfl, by kernel_rfl⟩
theorem sort44 : PrimSound Try.prog sigma 44 (sortP 29 cmpS) :=
  sort_prim (ρ := Try.sortL_ren) Try.sortL rfl Try.isAgg45 Try.sizeOf45 cmpS_swo cmpS_one enters44 compare_sound

def tab1 : List (Nat × FnDef) := (44, .prim (sortP 29 cmpS)) :: tab0
theorem tab1_ok : TabOk Try.prog sigma tab1 := ⟨sort44, tab0_ok⟩
theorem linked1 : Linked Try.prog sigma (look tab1) := tab1_ok.linked mixed0
theorem hs1 : HS (look tab1) := by constructor <;> rfl
theorem hm1 : HM (look tab1) := by constructor <;> rfl
theorem hv1 : HV (look tab1) := by
  constructor
  · exact VV_holds rfl rfl rfl
  all_goals rfl

theorem laws_sound (lv : V) (ls : List Int) (h : IsL lv (ints ls)) (s : St) : CallSound Try.prog sigma 13 [lv] s (fun v _ => v = .bool true) :=
  D.sound linked1 (D.mono_call (Laws_spec hm1 hv1 hs1 (sortOk rfl) rfl lv ls h s) fun _ _ h => h.1)
end Go.VS.Fn

namespace Go.Proofs.Ytclfgmlnechmkaa
open Go.ChangeShapes Go.WideShapes Go.ChangeAt Go.RowKit

theorem Try.own : ownKnob Try.prog.godebug = none := by kernel_rfl
theorem Try.laidOut : laidOutB Try.prog = true := by kernel_rfl
theorem Try.cells3 : Try.prog.cellsOf 3 = 1 := by kernel_rfl

set_option maxRecDepth 100000 in
theorem laws_lifted (os : Os) (started : os.Started) (H : Type) (enc : TypeId × Value → H) :
    ReturnsInHanded {} Try.checked os 3 .any (Rows.subcorpusLawsSpec.pre6 enc Try.prog Try.f3 Rows.subcorpusLawsRow.domain false) (Rows.subcorpusLawsSpec.post enc Try.prog Try.f3 false true false false) := by
  refine returnsInHanded_of_change (C := Try.checked) Try.own started (by kernel_rfl) Try.func3
    (ChangeSpec.witness6 (enc := enc) (C := Try.checked) false ⟨#[], #[.slice none 0 0], []⟩ 8 (by kernel_rfl) (by kernel_rfl) (by kernel_rfl) (by kernel_rfl)) ?_
  intro W base args ds gs before hval0 hW hcnd _
  have hval : ∀ (j : Nat) t v, Try.f3.params[j]? = some t → args[j]? = some v → Value.okWide Try.prog W .any base t v := hval0
  have hW' := hW
  obtain ⟨p, q, hA0, hV, rfl, _, _⟩ := hW
  have hA : DataW.TrodAll enc Try.prog W 0 (fun _ => true) true Try.f3.params.toList args.toList ds p := hA0
  rw [Try.params3] at hA hval
  obtain ⟨v0, d0, rfl, rfl, h0⟩ := trodAll_one hA
  obtain ⟨rfl, rfl⟩ := trodVars_none hV
  have hok := hval 0 22 v0 rfl rfl
  obtain ⟨a0, len, cap, rfl⟩ := okWide_slice Try.underlying22 hok
  have h0k := h0
  obtain ⟨fuel, hf⟩ := h0
  clear hA0 hval0
  simp only [List.append_nil] at hW'
  have hlt : ∀ x ∈ p, x.block < W.heap.size := fun x hx => by simpa using hW'.lt x hx
  have hargs : ∀ (W' : World), Below W.heap.size W W' → DataW.Trod enc Try.prog W' 0 (fun b => decide (b < W.heap.size)) true 22 (.slice a0 len cap) d0 p :=
    fun W' hn => Below.trod Try.laidOut (by kernel_rfl) (of_decide_eq_true (by kernel_rfl)) h0k hn hlt
  obtain ⟨hb, v, ls, hrel, hv, _⟩ := Go.VS.start_ints (σ := Go.VS.Fn.sigma) Try.underlying22 Try.underlying3 Try.cells3 hok hf 0 (fun i => if i = 0 then Go.VS.home (.slice a0 len cap) 1 else none) rfl
  have hL : Go.VS.IsL v (Go.VS.Fn.ints ls) := hv.imp (fun ⟨h1, h2⟩ => ⟨h1, by rw [h2]; rfl⟩) (fun h => ⟨0, 0, 0, h⟩)
  have key := Go.VS.law_true (σ := Go.VS.Fn.sigma) (n := 1) (W := W) (Go.VS.Fn.laws_sound v ls hL (Go.VS.StN 1)) (fun i b bs k lim hi => by
    by_cases h : i = 0
    · subst h; exact ⟨by omega, hb _ _ _ _ hi⟩
    · rw [if_neg h] at hi; cases hi) (Go.VS.argsR1 hrel)
  refine (show Calls Try.prog 3 _ W _ from key).mono fun e W' ⟨he, hnx⟩ => ?_
  subst he
  exact ⟨_, rfl, _, _, _, [], _, [], hW', trodAll_mk1 (shut_bool Try.underlying4 true), trodAll_mk1 (hargs _ hnx), rfl, hnx.frame _, fun h => by cases h⟩

theorem subcorpusLaws_holds : Rows.SubcorpusLawsSaid :=
  OpenClaim.holds_of_wide 3 Try.f3 rfl rfl rfl rfl rfl rfl rfl ⟨rfl, rfl, rfl, rfl, rfl⟩ rfl rfl rfl rfl rfl (by kernel_rfl) Try.func3 (by kernel_rfl)
    (of_decide_eq_true (by kernel_rfl)) (by unfold Func.isWrapper; first | (rw [if_pos (by decide +kernel)]; kernel_rfl) | (rw [if_neg (by decide +kernel)]; exact ⟨rfl, rfl⟩))
    (fun os started H enc _ => laws_lifted os started H enc)

#print axioms subcorpusLaws_holds
end Go.Proofs.Ytclfgmlnechmkaa
