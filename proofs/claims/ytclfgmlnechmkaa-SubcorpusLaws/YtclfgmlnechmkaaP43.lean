/-
  Part 43 of 44 of the proof of SubcorpusLawsSaid, by an abstract machine that stands in for the Go program: lemmas without conditions of their own.
-/
import Derived.Test.YtclfgmlnechmkaaP41
import Derived.Test.YtclfgmlnechmkaaP10
import Derived.Test.YtclfgmlnechmkaaChecked
set_option linter.unusedSimpArgs false
set_option linter.unusedVariables false
namespace Go.VS.Fn
open Go.VS Go.Proofs

def sigma (n : Nat) : Nat := [0, 1, 2, 5, 6, 7, 8, 9, 10, 11, 12, 13, 14, 3, 16, 15, 17, 18, 19, 4, 20, 21, 22, 24, 23, 26, 27, 28, 30, 31, 32, 33, 34, 35, 36, 43, 44, 45, 46, 48, 47, 25, 49, 50, 51, 52, 29, 54, 53, 56, 55, 57, 37, 38, 39, 59, 40, 60, 61, 64, 63, 65, 66, 58, 67, 68, 69, 70, 71, 72, 73, 74, 75, 76, 77, 78, 79, 80, 81, 82, 83, 84, 85, 86, 87, 88, 89, 90, 91, 92, 93, 94, 95, 96, 97, 98, 99, 100, 101, 102, 103, 41, 42, 62].getD n 0

theorem ok_v3 : okFn Try.prog sigma Try.f5 v3 = true := by kernel_rfl
theorem ok_v4 : okFn Try.prog sigma Try.f6 v4 = true := by kernel_rfl
theorem ok_v5 : okFn Try.prog sigma Try.f7 v5 = true := by kernel_rfl
theorem ok_v6 : okFn Try.prog sigma Try.f8 v6 = true := by kernel_rfl
theorem ok_v7 : okFn Try.prog sigma Try.f9 v7 = true := by kernel_rfl
theorem ok_v8 : okFn Try.prog sigma Try.f10 v8 = true := by kernel_rfl
theorem ok_v9 : okFn Try.prog sigma Try.f11 v9 = true := by kernel_rfl
theorem ok_v10 : okFn Try.prog sigma Try.f12 v10 = true := by kernel_rfl
theorem ok_v11 : okFn Try.prog sigma Try.f13 v11 = true := by kernel_rfl
theorem ok_v12 : okFn Try.prog sigma Try.f14 v12 = true := by kernel_rfl
theorem ok_v13 : okFn Try.prog sigma Try.f3 v13 = true := by kernel_rfl
theorem ok_v14 : okFn Try.prog sigma Try.f16 v14 = true := by kernel_rfl
theorem ok_v15 : okFn Try.prog sigma Try.f15 v15 = true := by kernel_rfl
theorem ok_v20 : okFn Try.prog sigma Try.f20 v20 = true := by kernel_rfl
theorem ok_v21 : okFn Try.prog sigma Try.f21 v21 = true := by kernel_rfl
theorem ok_v22 : okFn Try.prog sigma Try.f22 v22 = true := by kernel_rfl
theorem ok_v23 : okFn Try.prog sigma Try.f24 v23 = true := by kernel_rfl
theorem ok_v24 : okFn Try.prog sigma Try.f23 v24 = true := by kernel_rfl
theorem ok_v25 : okFn Try.prog sigma Try.f26 v25 = true := by kernel_rfl
theorem ok_v26 : okFn Try.prog sigma Try.f27 v26 = true := by kernel_rfl
theorem ok_v27 : okFn Try.prog sigma Try.f28 v27 = true := by kernel_rfl
theorem ok_v28 : okFn Try.prog sigma Try.f30 v28 = true := by kernel_rfl
theorem ok_v29 : okFn Try.prog sigma Try.f31 v29 = true := by kernel_rfl
theorem ok_v30 : okFn Try.prog sigma Try.f32 v30 = true := by kernel_rfl
theorem ok_v34 : okFn Try.prog sigma Try.f36 v34 = true := by kernel_rfl
theorem ok_v35 : okFn Try.prog sigma Try.f43 v35 = true := by kernel_rfl
theorem ok_v36 : okFn Try.prog sigma Try.f44 v36 = true := by kernel_rfl
theorem ok_v37 : okFn Try.prog sigma Try.f45 v37 = true := by kernel_rfl
theorem ok_v38 : okFn Try.prog sigma Try.f46 v38 = true := by kernel_rfl
theorem ok_v39 : okFn Try.prog sigma Try.f48 v39 = true := by kernel_rfl
theorem ok_v40 : okFn Try.prog sigma Try.f47 v40 = true := by kernel_rfl
theorem ok_v41 : okFn Try.prog sigma Try.f25 v41 = true := by kernel_rfl
theorem ok_v42 : okFn Try.prog sigma Try.f49 v42 = true := by kernel_rfl
theorem ok_v43 : okFn Try.prog sigma Try.f50 v43 = true := by kernel_rfl
theorem ok_v45 : okFn Try.prog sigma Try.f52 v45 = true := by kernel_rfl
theorem ok_v46 : okFn Try.prog sigma Try.f29 v46 = true := by kernel_rfl
theorem ok_v47 : okFn Try.prog sigma Try.f54 v47 = true := by kernel_rfl
theorem ok_v48 : okFn Try.prog sigma Try.f53 v48 = true := by kernel_rfl
theorem ok_v49 : okFn Try.prog sigma Try.f56 v49 = true := by kernel_rfl
theorem ok_v50 : okFn Try.prog sigma Try.f55 v50 = true := by kernel_rfl
theorem ok_v52 : okFn Try.prog sigma Try.f37 v52 = true := by kernel_rfl
theorem ok_v53 : okFn Try.prog sigma Try.f38 v53 = true := by kernel_rfl
theorem ok_v54 : okFn Try.prog sigma Try.f39 v54 = true := by kernel_rfl
theorem ok_v55 : okFn Try.prog sigma Try.f59 v55 = true := by kernel_rfl
theorem ok_v56 : okFn Try.prog sigma Try.f40 v56 = true := by kernel_rfl
theorem ok_v57 : okFn Try.prog sigma Try.f60 v57 = true := by kernel_rfl
theorem ok_v58 : okFn Try.prog sigma Try.f61 v58 = true := by kernel_rfl
theorem ok_v61 : okFn Try.prog sigma Try.f65 v61 = true := by kernel_rfl
theorem ok_v64 : okFn Try.prog sigma Try.f67 v64 = true := by kernel_rfl
theorem ok_v65 : okFn Try.prog sigma Try.f68 v65 = true := by kernel_rfl
theorem ok_v66 : okFn Try.prog sigma Try.f69 v66 = true := by kernel_rfl
theorem ok_v67 : okFn Try.prog sigma Try.f70 v67 = true := by kernel_rfl
theorem ok_v68 : okFn Try.prog sigma Try.f71 v68 = true := by kernel_rfl
theorem ok_v69 : okFn Try.prog sigma Try.f72 v69 = true := by kernel_rfl
theorem ok_v70 : okFn Try.prog sigma Try.f73 v70 = true := by kernel_rfl
theorem ok_v71 : okFn Try.prog sigma Try.f74 v71 = true := by kernel_rfl
theorem ok_v82 : okFn Try.prog sigma Try.f85 v82 = true := by kernel_rfl
theorem ok_v83 : okFn Try.prog sigma Try.f86 v83 = true := by kernel_rfl
theorem ok_v84 : okFn Try.prog sigma Try.f87 v84 = true := by kernel_rfl
theorem ok_v85 : okFn Try.prog sigma Try.f88 v85 = true := by kernel_rfl
theorem ok_v86 : okFn Try.prog sigma Try.f89 v86 = true := by kernel_rfl
theorem ok_v87 : okFn Try.prog sigma Try.f90 v87 = true := by kernel_rfl
theorem ok_v88 : okFn Try.prog sigma Try.f91 v88 = true := by kernel_rfl
theorem ok_v94 : okFn Try.prog sigma Try.f97 v94 = true := by kernel_rfl
theorem ok_v95 : okFn Try.prog sigma Try.f98 v95 = true := by kernel_rfl
theorem ok_v96 : okFn Try.prog sigma Try.f99 v96 = true := by kernel_rfl
theorem ok_v97 : okFn Try.prog sigma Try.f100 v97 = true := by kernel_rfl
theorem ok_v99 : okFn Try.prog sigma Try.f102 v99 = true := by kernel_rfl
theorem ok_v100 : okFn Try.prog sigma Try.f103 v100 = true := by kernel_rfl
theorem ok_v101 : okFn Try.prog sigma Try.f41 v101 = true := by kernel_rfl
theorem ok_v102 : okFn Try.prog sigma Try.f42 v102 = true := by kernel_rfl
theorem ok_v103 : okFn Try.prog sigma Try.f62 v103 = true := by kernel_rfl

def tab0 : List (Nat × FnDef) := [(3, .body v3), (4, .body v4), (5, .body v5), (6, .body v6), (7, .body v7), (8, .body v8), (9, .body v9), (10, .body v10), (11, .body v11), (12, .body v12), (13, .body v13), (14, .body v14), (15, .body v15), (20, .body v20), (21, .body v21), (22, .body v22), (23, .body v23), (24, .body v24), (25, .body v25), (26, .body v26), (27, .body v27), (28, .body v28), (29, .body v29), (30, .body v30), (34, .body v34), (35, .body v35), (36, .body v36), (37, .body v37), (38, .body v38), (39, .body v39), (40, .body v40), (41, .body v41), (42, .body v42), (43, .body v43), (45, .body v45), (46, .body v46), (47, .body v47), (48, .body v48), (49, .body v49), (50, .body v50), (52, .body v52), (53, .body v53), (54, .body v54), (55, .body v55), (56, .body v56), (57, .body v57), (58, .body v58), (61, .body v61), (64, .body v64), (65, .body v65), (66, .body v66), (67, .body v67), (68, .body v68), (69, .body v69), (70, .body v70), (71, .body v71), (82, .body v82), (83, .body v83), (84, .body v84), (85, .body v85), (86, .body v86), (87, .body v87), (88, .body v88), (94, .body v94), (95, .body v95), (96, .body v96), (97, .body v97), (99, .body v99), (100, .body v100), (101, .body v101), (102, .body v102), (103, .body v103)]
theorem tab0_ok : TabOk Try.prog sigma tab0 :=
  ⟨⟨_, Try.func5, ok_v3⟩, ⟨⟨_, Try.func6, ok_v4⟩, ⟨⟨_, Try.func7, ok_v5⟩, ⟨⟨_, Try.func8, ok_v6⟩, ⟨⟨_, Try.func9, ok_v7⟩, ⟨⟨_, Try.func10, ok_v8⟩, ⟨⟨_, Try.func11, ok_v9⟩, ⟨⟨_, Try.func12, ok_v10⟩, ⟨⟨_, Try.func13, ok_v11⟩, ⟨⟨_, Try.func14, ok_v12⟩, ⟨⟨_, Try.func3, ok_v13⟩, ⟨⟨_, Try.func16, ok_v14⟩, ⟨⟨_, Try.func15, ok_v15⟩, ⟨⟨_, Try.func20, ok_v20⟩, ⟨⟨_, Try.func21, ok_v21⟩, ⟨⟨_, Try.func22, ok_v22⟩, ⟨⟨_, Try.func24, ok_v23⟩, ⟨⟨_, Try.func23, ok_v24⟩, ⟨⟨_, Try.func26, ok_v25⟩, ⟨⟨_, Try.func27, ok_v26⟩, ⟨⟨_, Try.func28, ok_v27⟩, ⟨⟨_, Try.func30, ok_v28⟩, ⟨⟨_, Try.func31, ok_v29⟩, ⟨⟨_, Try.func32, ok_v30⟩, ⟨⟨_, Try.func36, ok_v34⟩, ⟨⟨_, Try.func43, ok_v35⟩, ⟨⟨_, Try.func44, ok_v36⟩, ⟨⟨_, Try.func45, ok_v37⟩, ⟨⟨_, Try.func46, ok_v38⟩, ⟨⟨_, Try.func48, ok_v39⟩, ⟨⟨_, Try.func47, ok_v40⟩, ⟨⟨_, Try.func25, ok_v41⟩, ⟨⟨_, Try.func49, ok_v42⟩, ⟨⟨_, Try.func50, ok_v43⟩, ⟨⟨_, Try.func52, ok_v45⟩, ⟨⟨_, Try.func29, ok_v46⟩, ⟨⟨_, Try.func54, ok_v47⟩, ⟨⟨_, Try.func53, ok_v48⟩, ⟨⟨_, Try.func56, ok_v49⟩, ⟨⟨_, Try.func55, ok_v50⟩, ⟨⟨_, Try.func37, ok_v52⟩, ⟨⟨_, Try.func38, ok_v53⟩, ⟨⟨_, Try.func39, ok_v54⟩, ⟨⟨_, Try.func59, ok_v55⟩, ⟨⟨_, Try.func40, ok_v56⟩, ⟨⟨_, Try.func60, ok_v57⟩, ⟨⟨_, Try.func61, ok_v58⟩, ⟨⟨_, Try.func65, ok_v61⟩, ⟨⟨_, Try.func67, ok_v64⟩, ⟨⟨_, Try.func68, ok_v65⟩, ⟨⟨_, Try.func69, ok_v66⟩, ⟨⟨_, Try.func70, ok_v67⟩, ⟨⟨_, Try.func71, ok_v68⟩, ⟨⟨_, Try.func72, ok_v69⟩, ⟨⟨_, Try.func73, ok_v70⟩, ⟨⟨_, Try.func74, ok_v71⟩, ⟨⟨_, Try.func85, ok_v82⟩, ⟨⟨_, Try.func86, ok_v83⟩, ⟨⟨_, Try.func87, ok_v84⟩, ⟨⟨_, Try.func88, ok_v85⟩, ⟨⟨_, Try.func89, ok_v86⟩, ⟨⟨_, Try.func90, ok_v87⟩, ⟨⟨_, Try.func91, ok_v88⟩, ⟨⟨_, Try.func97, ok_v94⟩, ⟨⟨_, Try.func98, ok_v95⟩, ⟨⟨_, Try.func99, ok_v96⟩, ⟨⟨_, Try.func100, ok_v97⟩, ⟨⟨_, Try.func102, ok_v99⟩, ⟨⟨_, Try.func103, ok_v100⟩, ⟨⟨_, Try.func41, ok_v101⟩, ⟨⟨_, Try.func42, ok_v102⟩, ⟨⟨_, Try.func62, ok_v103⟩, trivial⟩⟩⟩⟩⟩⟩⟩⟩⟩⟩⟩⟩⟩⟩⟩⟩⟩⟩⟩⟩⟩⟩⟩⟩⟩⟩⟩⟩⟩⟩⟩⟩⟩⟩⟩⟩⟩⟩⟩⟩⟩⟩⟩⟩⟩⟩⟩⟩⟩⟩⟩⟩⟩⟩⟩⟩⟩⟩⟩⟩⟩⟩⟩⟩⟩⟩⟩⟩⟩⟩⟩⟩
theorem mixed0 : Try.prog.follows .mixedOrders = true := by kernel_rfl

end Go.VS.Fn
