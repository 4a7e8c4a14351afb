/-
  Part 42 of 43 of the proof of SubcorpusSetsSaid, by an abstract machine that stands in for the Go program: lemmas without conditions of their own.
-/
import Derived.Test.YtclfgmlnechmkaaGreatP40
import Derived.Test.YtclfgmlnechmkaaGreatP10
import Derived.Test.YtclfgmlnechmkaaGreatChecked
set_option linter.unusedSimpArgs false
set_option linter.unusedVariables false
namespace Go.VS.Fn
open Go.VS Go.Proofs

def sigma (n : Nat) : Nat := [0, 1, 2, 7, 8, 9, 15, 13, 11, 10, 17, 19, 21, 0, 31, 61, 0, 0, 81, 0, 30, 32, 33, 40, 36, 37, 34, 41, 44, 45, 27, 0, 0, 35, 62, 69, 70, 71, 72, 77, 76, 38, 78, 73, 74, 75, 42, 80, 79, 83, 82, 0, 63, 64, 65, 110, 66, 111, 114, 91, 113, 115, 0, 0, 144, 145, 146, 147, 148, 149, 150, 151, 152, 153, 154, 155, 156, 157, 158, 159, 131, 132, 134, 177, 178, 179, 180, 181, 182, 183, 167, 168, 184, 185, 172, 173, 208, 209, 210, 216, 219, 67, 68, 112, 12, 14, 16, 18, 20, 22, 24, 25, 23, 26, 28, 29, 39, 43, 46, 47, 48, 49, 50, 51, 52, 53, 54, 55, 56, 57, 58, 59, 60, 84, 85, 86, 87, 88, 89, 90, 92, 93, 94, 95, 96, 97, 98, 99, 100, 101, 102, 104, 103, 105, 106, 107, 108, 109, 116, 117, 118, 119, 120, 121, 122, 123, 124, 125, 126, 127, 128, 129, 130, 133, 135, 136, 137, 138, 139, 140, 141, 142, 143, 160, 161, 163, 162, 164, 165, 166, 169, 170, 171, 174, 175, 176, 186, 187, 188, 189, 190, 191, 192, 193, 194, 195, 196, 197, 198, 199, 200, 201, 202, 203, 204, 205, 206, 207, 211, 212, 213, 214, 215, 217, 218, 220, 3, 4, 5, 6].getD n 0

theorem ok_v3 : okFn Tryz.prog sigma Tryz.f7 v3 = true := by kernel_rfl
theorem ok_v4 : okFn Tryz.prog sigma Tryz.f8 v4 = true := by kernel_rfl
theorem ok_v5 : okFn Tryz.prog sigma Tryz.f9 v5 = true := by kernel_rfl
theorem ok_v6 : okFn Tryz.prog sigma Tryz.f15 v6 = true := by kernel_rfl
theorem ok_v7 : okFn Tryz.prog sigma Tryz.f13 v7 = true := by kernel_rfl
theorem ok_v8 : okFn Tryz.prog sigma Tryz.f11 v8 = true := by kernel_rfl
theorem ok_v9 : okFn Tryz.prog sigma Tryz.f10 v9 = true := by kernel_rfl
theorem ok_v10 : okFn Tryz.prog sigma Tryz.f17 v10 = true := by kernel_rfl
theorem ok_v11 : okFn Tryz.prog sigma Tryz.f19 v11 = true := by kernel_rfl
theorem ok_v12 : okFn Tryz.prog sigma Tryz.f21 v12 = true := by kernel_rfl
theorem ok_v14 : okFn Tryz.prog sigma Tryz.f31 v14 = true := by kernel_rfl
theorem ok_v15 : okFn Tryz.prog sigma Tryz.f61 v15 = true := by kernel_rfl
theorem ok_v18 : okFn Tryz.prog sigma Tryz.f81 v18 = true := by kernel_rfl
theorem ok_v20 : okFn Tryz.prog sigma Tryz.f30 v20 = true := by kernel_rfl
theorem ok_v21 : okFn Tryz.prog sigma Tryz.f32 v21 = true := by kernel_rfl
theorem ok_v22 : okFn Tryz.prog sigma Tryz.f33 v22 = true := by kernel_rfl
theorem ok_v23 : okFn Tryz.prog sigma Tryz.f40 v23 = true := by kernel_rfl
theorem ok_v24 : okFn Tryz.prog sigma Tryz.f36 v24 = true := by kernel_rfl
theorem ok_v25 : okFn Tryz.prog sigma Tryz.f37 v25 = true := by kernel_rfl
theorem ok_v26 : okFn Tryz.prog sigma Tryz.f34 v26 = true := by kernel_rfl
theorem ok_v27 : okFn Tryz.prog sigma Tryz.f41 v27 = true := by kernel_rfl
theorem ok_v28 : okFn Tryz.prog sigma Tryz.f44 v28 = true := by kernel_rfl
theorem ok_v29 : okFn Tryz.prog sigma Tryz.f45 v29 = true := by kernel_rfl
theorem ok_v30 : okFn Tryz.prog sigma Tryz.f27 v30 = true := by kernel_rfl
theorem ok_v33 : okFn Tryz.prog sigma Tryz.f35 v33 = true := by kernel_rfl
theorem ok_v34 : okFn Tryz.prog sigma Tryz.f62 v34 = true := by kernel_rfl
theorem ok_v35 : okFn Tryz.prog sigma Tryz.f69 v35 = true := by kernel_rfl
theorem ok_v36 : okFn Tryz.prog sigma Tryz.f70 v36 = true := by kernel_rfl
theorem ok_v37 : okFn Tryz.prog sigma Tryz.f71 v37 = true := by kernel_rfl
theorem ok_v38 : okFn Tryz.prog sigma Tryz.f72 v38 = true := by kernel_rfl
theorem ok_v39 : okFn Tryz.prog sigma Tryz.f77 v39 = true := by kernel_rfl
theorem ok_v40 : okFn Tryz.prog sigma Tryz.f76 v40 = true := by kernel_rfl
theorem ok_v41 : okFn Tryz.prog sigma Tryz.f38 v41 = true := by kernel_rfl
theorem ok_v42 : okFn Tryz.prog sigma Tryz.f78 v42 = true := by kernel_rfl
theorem ok_v43 : okFn Tryz.prog sigma Tryz.f73 v43 = true := by kernel_rfl
theorem ok_v45 : okFn Tryz.prog sigma Tryz.f75 v45 = true := by kernel_rfl
theorem ok_v46 : okFn Tryz.prog sigma Tryz.f42 v46 = true := by kernel_rfl
theorem ok_v47 : okFn Tryz.prog sigma Tryz.f80 v47 = true := by kernel_rfl
theorem ok_v48 : okFn Tryz.prog sigma Tryz.f79 v48 = true := by kernel_rfl
theorem ok_v49 : okFn Tryz.prog sigma Tryz.f83 v49 = true := by kernel_rfl
theorem ok_v50 : okFn Tryz.prog sigma Tryz.f82 v50 = true := by kernel_rfl
theorem ok_v52 : okFn Tryz.prog sigma Tryz.f63 v52 = true := by kernel_rfl
theorem ok_v53 : okFn Tryz.prog sigma Tryz.f64 v53 = true := by kernel_rfl
theorem ok_v54 : okFn Tryz.prog sigma Tryz.f65 v54 = true := by kernel_rfl
theorem ok_v55 : okFn Tryz.prog sigma Tryz.f110 v55 = true := by kernel_rfl
theorem ok_v56 : okFn Tryz.prog sigma Tryz.f66 v56 = true := by kernel_rfl
theorem ok_v57 : okFn Tryz.prog sigma Tryz.f111 v57 = true := by kernel_rfl
theorem ok_v58 : okFn Tryz.prog sigma Tryz.f114 v58 = true := by kernel_rfl
theorem ok_v61 : okFn Tryz.prog sigma Tryz.f115 v61 = true := by kernel_rfl
theorem ok_v64 : okFn Tryz.prog sigma Tryz.f144 v64 = true := by kernel_rfl
theorem ok_v65 : okFn Tryz.prog sigma Tryz.f145 v65 = true := by kernel_rfl
theorem ok_v66 : okFn Tryz.prog sigma Tryz.f146 v66 = true := by kernel_rfl
theorem ok_v67 : okFn Tryz.prog sigma Tryz.f147 v67 = true := by kernel_rfl
theorem ok_v68 : okFn Tryz.prog sigma Tryz.f148 v68 = true := by kernel_rfl
theorem ok_v69 : okFn Tryz.prog sigma Tryz.f149 v69 = true := by kernel_rfl
theorem ok_v70 : okFn Tryz.prog sigma Tryz.f150 v70 = true := by kernel_rfl
theorem ok_v71 : okFn Tryz.prog sigma Tryz.f151 v71 = true := by kernel_rfl
theorem ok_v82 : okFn Tryz.prog sigma Tryz.f134 v82 = true := by kernel_rfl
theorem ok_v83 : okFn Tryz.prog sigma Tryz.f177 v83 = true := by kernel_rfl
theorem ok_v84 : okFn Tryz.prog sigma Tryz.f178 v84 = true := by kernel_rfl
theorem ok_v85 : okFn Tryz.prog sigma Tryz.f179 v85 = true := by kernel_rfl
theorem ok_v86 : okFn Tryz.prog sigma Tryz.f180 v86 = true := by kernel_rfl
theorem ok_v87 : okFn Tryz.prog sigma Tryz.f181 v87 = true := by kernel_rfl
theorem ok_v88 : okFn Tryz.prog sigma Tryz.f182 v88 = true := by kernel_rfl
theorem ok_v94 : okFn Tryz.prog sigma Tryz.f172 v94 = true := by kernel_rfl
theorem ok_v95 : okFn Tryz.prog sigma Tryz.f173 v95 = true := by kernel_rfl
theorem ok_v96 : okFn Tryz.prog sigma Tryz.f208 v96 = true := by kernel_rfl
theorem ok_v97 : okFn Tryz.prog sigma Tryz.f209 v97 = true := by kernel_rfl
theorem ok_v99 : okFn Tryz.prog sigma Tryz.f216 v99 = true := by kernel_rfl
theorem ok_v100 : okFn Tryz.prog sigma Tryz.f219 v100 = true := by kernel_rfl
theorem ok_v101 : okFn Tryz.prog sigma Tryz.f67 v101 = true := by kernel_rfl
theorem ok_v102 : okFn Tryz.prog sigma Tryz.f68 v102 = true := by kernel_rfl
theorem ok_v103 : okFn Tryz.prog sigma Tryz.f112 v103 = true := by kernel_rfl
theorem ok_v104 : okFn Tryz.prog sigma Tryz.f12 v104 = true := by kernel_rfl
theorem ok_v105 : okFn Tryz.prog sigma Tryz.f14 v105 = true := by kernel_rfl
theorem ok_v106 : okFn Tryz.prog sigma Tryz.f16 v106 = true := by kernel_rfl
theorem ok_v107 : okFn Tryz.prog sigma Tryz.f18 v107 = true := by kernel_rfl
theorem ok_v108 : okFn Tryz.prog sigma Tryz.f20 v108 = true := by kernel_rfl
theorem ok_v116 : okFn Tryz.prog sigma Tryz.f39 v116 = true := by kernel_rfl
theorem ok_v117 : okFn Tryz.prog sigma Tryz.f43 v117 = true := by kernel_rfl
theorem ok_v118 : okFn Tryz.prog sigma Tryz.f46 v118 = true := by kernel_rfl
theorem ok_v226 : okFn Tryz.prog sigma Tryz.f3 v226 = true := by kernel_rfl

def tab0 : List (Nat × FnDef) := [(3, .body v3), (4, .body v4), (5, .body v5), (6, .body v6), (7, .body v7), (8, .body v8), (9, .body v9), (10, .body v10), (11, .body v11), (12, .body v12), (14, .body v14), (15, .body v15), (18, .body v18), (20, .body v20), (21, .body v21), (22, .body v22), (23, .body v23), (24, .body v24), (25, .body v25), (26, .body v26), (27, .body v27), (28, .body v28), (29, .body v29), (30, .body v30), (33, .body v33), (34, .body v34), (35, .body v35), (36, .body v36), (37, .body v37), (38, .body v38), (39, .body v39), (40, .body v40), (41, .body v41), (42, .body v42), (43, .body v43), (45, .body v45), (46, .body v46), (47, .body v47), (48, .body v48), (49, .body v49), (50, .body v50), (52, .body v52), (53, .body v53), (54, .body v54), (55, .body v55), (56, .body v56), (57, .body v57), (58, .body v58), (61, .body v61), (64, .body v64), (65, .body v65), (66, .body v66), (67, .body v67), (68, .body v68), (69, .body v69), (70, .body v70), (71, .body v71), (82, .body v82), (83, .body v83), (84, .body v84), (85, .body v85), (86, .body v86), (87, .body v87), (88, .body v88), (94, .body v94), (95, .body v95), (96, .body v96), (97, .body v97), (99, .body v99), (100, .body v100), (101, .body v101), (102, .body v102), (103, .body v103), (104, .body v104), (105, .body v105), (106, .body v106), (107, .body v107), (108, .body v108), (116, .body v116), (117, .body v117), (118, .body v118), (226, .body v226)]
theorem tab0_ok : TabOk Tryz.prog sigma tab0 :=
  ⟨⟨_, Tryz.func7, ok_v3⟩, ⟨⟨_, Tryz.func8, ok_v4⟩, ⟨⟨_, Tryz.func9, ok_v5⟩, ⟨⟨_, Tryz.func15, ok_v6⟩, ⟨⟨_, Tryz.func13, ok_v7⟩, ⟨⟨_, Tryz.func11, ok_v8⟩, ⟨⟨_, Tryz.func10, ok_v9⟩, ⟨⟨_, Tryz.func17, ok_v10⟩, ⟨⟨_, Tryz.func19, ok_v11⟩, ⟨⟨_, Tryz.func21, ok_v12⟩, ⟨⟨_, Tryz.func31, ok_v14⟩, ⟨⟨_, Tryz.func61, ok_v15⟩, ⟨⟨_, Tryz.func81, ok_v18⟩, ⟨⟨_, Tryz.func30, ok_v20⟩, ⟨⟨_, Tryz.func32, ok_v21⟩, ⟨⟨_, Tryz.func33, ok_v22⟩, ⟨⟨_, Tryz.func40, ok_v23⟩, ⟨⟨_, Tryz.func36, ok_v24⟩, ⟨⟨_, Tryz.func37, ok_v25⟩, ⟨⟨_, Tryz.func34, ok_v26⟩, ⟨⟨_, Tryz.func41, ok_v27⟩, ⟨⟨_, Tryz.func44, ok_v28⟩, ⟨⟨_, Tryz.func45, ok_v29⟩, ⟨⟨_, Tryz.func27, ok_v30⟩, ⟨⟨_, Tryz.func35, ok_v33⟩, ⟨⟨_, Tryz.func62, ok_v34⟩, ⟨⟨_, Tryz.func69, ok_v35⟩, ⟨⟨_, Tryz.func70, ok_v36⟩, ⟨⟨_, Tryz.func71, ok_v37⟩, ⟨⟨_, Tryz.func72, ok_v38⟩, ⟨⟨_, Tryz.func77, ok_v39⟩, ⟨⟨_, Tryz.func76, ok_v40⟩, ⟨⟨_, Tryz.func38, ok_v41⟩, ⟨⟨_, Tryz.func78, ok_v42⟩, ⟨⟨_, Tryz.func73, ok_v43⟩, ⟨⟨_, Tryz.func75, ok_v45⟩, ⟨⟨_, Tryz.func42, ok_v46⟩, ⟨⟨_, Tryz.func80, ok_v47⟩, ⟨⟨_, Tryz.func79, ok_v48⟩, ⟨⟨_, Tryz.func83, ok_v49⟩, ⟨⟨_, Tryz.func82, ok_v50⟩, ⟨⟨_, Tryz.func63, ok_v52⟩, ⟨⟨_, Tryz.func64, ok_v53⟩, ⟨⟨_, Tryz.func65, ok_v54⟩, ⟨⟨_, Tryz.func110, ok_v55⟩, ⟨⟨_, Tryz.func66, ok_v56⟩, ⟨⟨_, Tryz.func111, ok_v57⟩, ⟨⟨_, Tryz.func114, ok_v58⟩, ⟨⟨_, Tryz.func115, ok_v61⟩, ⟨⟨_, Tryz.func144, ok_v64⟩, ⟨⟨_, Tryz.func145, ok_v65⟩, ⟨⟨_, Tryz.func146, ok_v66⟩, ⟨⟨_, Tryz.func147, ok_v67⟩, ⟨⟨_, Tryz.func148, ok_v68⟩, ⟨⟨_, Tryz.func149, ok_v69⟩, ⟨⟨_, Tryz.func150, ok_v70⟩, ⟨⟨_, Tryz.func151, ok_v71⟩, ⟨⟨_, Tryz.func134, ok_v82⟩, ⟨⟨_, Tryz.func177, ok_v83⟩, ⟨⟨_, Tryz.func178, ok_v84⟩, ⟨⟨_, Tryz.func179, ok_v85⟩, ⟨⟨_, Tryz.func180, ok_v86⟩, ⟨⟨_, Tryz.func181, ok_v87⟩, ⟨⟨_, Tryz.func182, ok_v88⟩, ⟨⟨_, Tryz.func172, ok_v94⟩, ⟨⟨_, Tryz.func173, ok_v95⟩, ⟨⟨_, Tryz.func208, ok_v96⟩, ⟨⟨_, Tryz.func209, ok_v97⟩, ⟨⟨_, Tryz.func216, ok_v99⟩, ⟨⟨_, Tryz.func219, ok_v100⟩, ⟨⟨_, Tryz.func67, ok_v101⟩, ⟨⟨_, Tryz.func68, ok_v102⟩, ⟨⟨_, Tryz.func112, ok_v103⟩, ⟨⟨_, Tryz.func12, ok_v104⟩, ⟨⟨_, Tryz.func14, ok_v105⟩, ⟨⟨_, Tryz.func16, ok_v106⟩, ⟨⟨_, Tryz.func18, ok_v107⟩, ⟨⟨_, Tryz.func20, ok_v108⟩, ⟨⟨_, Tryz.func39, ok_v116⟩, ⟨⟨_, Tryz.func43, ok_v117⟩, ⟨⟨_, Tryz.func46, ok_v118⟩, ⟨⟨_, Tryz.func3, ok_v226⟩, trivial⟩⟩⟩⟩⟩⟩⟩⟩⟩⟩⟩⟩⟩⟩⟩⟩⟩⟩⟩⟩⟩⟩⟩⟩⟩⟩⟩⟩⟩⟩⟩⟩⟩⟩⟩⟩⟩⟩⟩⟩⟩⟩⟩⟩⟩⟩⟩⟩⟩⟩⟩⟩⟩⟩⟩⟩⟩⟩⟩⟩⟩⟩⟩⟩⟩⟩⟩⟩⟩⟩⟩⟩⟩⟩⟩⟩⟩⟩⟩⟩⟩⟩
theorem mixed0 : Tryz.prog.follows .mixedOrders = true := by kernel_rfl

end Go.VS.Fn
