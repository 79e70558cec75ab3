/-
  The eight words behind the block of 'abc', plain (printed by wip/tools/mkabc.py). No program in sight.
-/
import Derived.Test.YtjdlgbkpdfaloaaDoorPd
import Derived.Test.YtjdlgbkpdfaloaaDoorPp
import Derived.KernelRfl
namespace Go.V
def abcB : List UInt8 := [97, 98, 99, 128, 0, 0, 0, 0, 0, 0, 0, 0, 0, 0, 0, 0, 0, 0, 0, 0, 0, 0, 0, 0, 0, 0, 0, 0, 0, 0, 0, 0, 0, 0, 0, 0, 0, 0, 0, 0, 0, 0, 0, 0, 0, 0, 0, 0, 0, 0, 0, 0, 0, 0, 0, 0, 0, 0, 0, 0, 0, 0, 0, 24]
def abcS : List Nat := [1779033703, 3144134277, 1013904242, 2773480762, 1359893119, 2600822924, 528734635, 1541459225]
def abcK (i : Nat) : Nat := roots3.getD i 0
theorem abc_w0 : word abcB 0 = 1633837952 := (word_small abcB 0 (by omega)).trans (by kernel_rfl)
theorem abc_w1 : word abcB 1 = 0 := (word_small abcB 1 (by omega)).trans (by kernel_rfl)
theorem abc_w2 : word abcB 2 = 0 := (word_small abcB 2 (by omega)).trans (by kernel_rfl)
theorem abc_w3 : word abcB 3 = 0 := (word_small abcB 3 (by omega)).trans (by kernel_rfl)
theorem abc_w4 : word abcB 4 = 0 := (word_small abcB 4 (by omega)).trans (by kernel_rfl)
theorem abc_w5 : word abcB 5 = 0 := (word_small abcB 5 (by omega)).trans (by kernel_rfl)
theorem abc_w6 : word abcB 6 = 0 := (word_small abcB 6 (by omega)).trans (by kernel_rfl)
theorem abc_w7 : word abcB 7 = 0 := (word_small abcB 7 (by omega)).trans (by kernel_rfl)
theorem abc_w8 : word abcB 8 = 0 := (word_small abcB 8 (by omega)).trans (by kernel_rfl)
theorem abc_w9 : word abcB 9 = 0 := (word_small abcB 9 (by omega)).trans (by kernel_rfl)
theorem abc_w10 : word abcB 10 = 0 := (word_small abcB 10 (by omega)).trans (by kernel_rfl)
theorem abc_w11 : word abcB 11 = 0 := (word_small abcB 11 (by omega)).trans (by kernel_rfl)
theorem abc_w12 : word abcB 12 = 0 := (word_small abcB 12 (by omega)).trans (by kernel_rfl)
theorem abc_w13 : word abcB 13 = 0 := (word_small abcB 13 (by omega)).trans (by kernel_rfl)
theorem abc_w14 : word abcB 14 = 0 := (word_small abcB 14 (by omega)).trans (by kernel_rfl)
theorem abc_w15 : word abcB 15 = 24 := (word_small abcB 15 (by omega)).trans (by kernel_rfl)
theorem abc_w16 : word abcB 16 = 1633837952 := (word_big abcB 16 (by omega)).trans (by
  rw [show word abcB (16 - 2) = 0 from abc_w14, show word abcB (16 - 7) = 0 from abc_w9, show word abcB (16 - 15) = 0 from abc_w1, show word abcB (16 - 16) = 1633837952 from abc_w0]
  kernel_rfl)
theorem abc_w17 : word abcB 17 = 983040 := (word_big abcB 17 (by omega)).trans (by
  rw [show word abcB (17 - 2) = 24 from abc_w15, show word abcB (17 - 7) = 0 from abc_w10, show word abcB (17 - 15) = 0 from abc_w2, show word abcB (17 - 16) = 0 from abc_w1]
  kernel_rfl)
theorem abc_w18 : word abcB 18 = 2108187653 := (word_big abcB 18 (by omega)).trans (by
  rw [show word abcB (18 - 2) = 1633837952 from abc_w16, show word abcB (18 - 7) = 0 from abc_w11, show word abcB (18 - 15) = 0 from abc_w3, show word abcB (18 - 16) = 0 from abc_w2]
  kernel_rfl)
theorem abc_w19 : word abcB 19 = 1610613702 := (word_big abcB 19 (by omega)).trans (by
  rw [show word abcB (19 - 2) = 983040 from abc_w17, show word abcB (19 - 7) = 0 from abc_w12, show word abcB (19 - 15) = 0 from abc_w4, show word abcB (19 - 16) = 0 from abc_w3]
  kernel_rfl)
theorem abc_w20 : word abcB 20 = 1050508152 := (word_big abcB 20 (by omega)).trans (by
  rw [show word abcB (20 - 2) = 2108187653 from abc_w18, show word abcB (20 - 7) = 0 from abc_w13, show word abcB (20 - 15) = 0 from abc_w5, show word abcB (20 - 16) = 0 from abc_w4]
  kernel_rfl)
theorem abc_w21 : word abcB 21 = 25426944 := (word_big abcB 21 (by omega)).trans (by
  rw [show word abcB (21 - 2) = 1610613702 from abc_w19, show word abcB (21 - 7) = 0 from abc_w14, show word abcB (21 - 15) = 0 from abc_w6, show word abcB (21 - 16) = 0 from abc_w5]
  kernel_rfl)
theorem abc_w22 : word abcB 22 = 316456923 := (word_big abcB 22 (by omega)).trans (by
  rw [show word abcB (22 - 2) = 1050508152 from abc_w20, show word abcB (22 - 7) = 24 from abc_w15, show word abcB (22 - 15) = 0 from abc_w7, show word abcB (22 - 16) = 0 from abc_w6]
  kernel_rfl)
theorem abc_w23 : word abcB 23 = 3806512014 := (word_big abcB 23 (by omega)).trans (by
  rw [show word abcB (23 - 2) = 25426944 from abc_w21, show word abcB (23 - 7) = 1633837952 from abc_w16, show word abcB (23 - 15) = 0 from abc_w8, show word abcB (23 - 16) = 0 from abc_w7]
  kernel_rfl)
theorem abc_w24 : word abcB 24 = 3357629466 := (word_big abcB 24 (by omega)).trans (by
  rw [show word abcB (24 - 2) = 316456923 from abc_w22, show word abcB (24 - 7) = 983040 from abc_w17, show word abcB (24 - 15) = 0 from abc_w9, show word abcB (24 - 16) = 0 from abc_w8]
  kernel_rfl)
theorem abc_w25 : word abcB 25 = 3073800610 := (word_big abcB 25 (by omega)).trans (by
  rw [show word abcB (25 - 2) = 3806512014 from abc_w23, show word abcB (25 - 7) = 2108187653 from abc_w18, show word abcB (25 - 15) = 0 from abc_w10, show word abcB (25 - 16) = 0 from abc_w9]
  kernel_rfl)
theorem abc_w26 : word abcB 26 = 3854317833 := (word_big abcB 26 (by omega)).trans (by
  rw [show word abcB (26 - 2) = 3357629466 from abc_w24, show word abcB (26 - 7) = 1610613702 from abc_w19, show word abcB (26 - 15) = 0 from abc_w11, show word abcB (26 - 16) = 0 from abc_w10]
  kernel_rfl)
theorem abc_w27 : word abcB 27 = 845560923 := (word_big abcB 27 (by omega)).trans (by
  rw [show word abcB (27 - 2) = 3073800610 from abc_w25, show word abcB (27 - 7) = 1050508152 from abc_w20, show word abcB (27 - 15) = 0 from abc_w12, show word abcB (27 - 16) = 0 from abc_w11]
  kernel_rfl)
theorem abc_w28 : word abcB 28 = 2636160359 := (word_big abcB 28 (by omega)).trans (by
  rw [show word abcB (28 - 2) = 3854317833 from abc_w26, show word abcB (28 - 7) = 25426944 from abc_w21, show word abcB (28 - 15) = 0 from abc_w13, show word abcB (28 - 16) = 0 from abc_w12]
  kernel_rfl)
theorem abc_w29 : word abcB 29 = 3968280267 := (word_big abcB 29 (by omega)).trans (by
  rw [show word abcB (29 - 2) = 845560923 from abc_w27, show word abcB (29 - 7) = 316456923 from abc_w22, show word abcB (29 - 15) = 0 from abc_w14, show word abcB (29 - 16) = 0 from abc_w13]
  kernel_rfl)
theorem abc_w30 : word abcB 30 = 1881225380 := (word_big abcB 30 (by omega)).trans (by
  rw [show word abcB (30 - 2) = 2636160359 from abc_w28, show word abcB (30 - 7) = 3806512014 from abc_w23, show word abcB (30 - 15) = 24 from abc_w15, show word abcB (30 - 16) = 0 from abc_w14]
  kernel_rfl)
theorem abc_w31 : word abcB 31 = 3552024379 := (word_big abcB 31 (by omega)).trans (by
  rw [show word abcB (31 - 2) = 3968280267 from abc_w29, show word abcB (31 - 7) = 3357629466 from abc_w24, show word abcB (31 - 15) = 1633837952 from abc_w16, show word abcB (31 - 16) = 24 from abc_w15]
  kernel_rfl)
theorem abc_w32 : word abcB 32 = 2482346367 := (word_big abcB 32 (by omega)).trans (by
  rw [show word abcB (32 - 2) = 1881225380 from abc_w30, show word abcB (32 - 7) = 3073800610 from abc_w25, show word abcB (32 - 15) = 983040 from abc_w17, show word abcB (32 - 16) = 1633837952 from abc_w16]
  kernel_rfl)
theorem abc_w33 : word abcB 33 = 996719219 := (word_big abcB 33 (by omega)).trans (by
  rw [show word abcB (33 - 2) = 3552024379 from abc_w31, show word abcB (33 - 7) = 3854317833 from abc_w26, show word abcB (33 - 15) = 2108187653 from abc_w18, show word abcB (33 - 16) = 983040 from abc_w17]
  kernel_rfl)
theorem abc_w34 : word abcB 34 = 2952069057 := (word_big abcB 34 (by omega)).trans (by
  rw [show word abcB (34 - 2) = 2482346367 from abc_w32, show word abcB (34 - 7) = 845560923 from abc_w27, show word abcB (34 - 15) = 1610613702 from abc_w19, show word abcB (34 - 16) = 2108187653 from abc_w18]
  kernel_rfl)
theorem abc_w35 : word abcB 35 = 4043988066 := (word_big abcB 35 (by omega)).trans (by
  rw [show word abcB (35 - 2) = 996719219 from abc_w33, show word abcB (35 - 7) = 2636160359 from abc_w28, show word abcB (35 - 15) = 1050508152 from abc_w20, show word abcB (35 - 16) = 1610613702 from abc_w19]
  kernel_rfl)
theorem abc_w36 : word abcB 36 = 176896406 := (word_big abcB 36 (by omega)).trans (by
  rw [show word abcB (36 - 2) = 2952069057 from abc_w34, show word abcB (36 - 7) = 3968280267 from abc_w29, show word abcB (36 - 15) = 25426944 from abc_w21, show word abcB (36 - 16) = 1050508152 from abc_w20]
  kernel_rfl)
theorem abc_w37 : word abcB 37 = 1924104970 := (word_big abcB 37 (by omega)).trans (by
  rw [show word abcB (37 - 2) = 4043988066 from abc_w35, show word abcB (37 - 7) = 1881225380 from abc_w30, show word abcB (37 - 15) = 316456923 from abc_w22, show word abcB (37 - 16) = 25426944 from abc_w21]
  kernel_rfl)
theorem abc_w38 : word abcB 38 = 2483675966 := (word_big abcB 38 (by omega)).trans (by
  rw [show word abcB (38 - 2) = 176896406 from abc_w36, show word abcB (38 - 7) = 3552024379 from abc_w31, show word abcB (38 - 15) = 3806512014 from abc_w23, show word abcB (38 - 16) = 316456923 from abc_w22]
  kernel_rfl)
theorem abc_w39 : word abcB 39 = 610538786 := (word_big abcB 39 (by omega)).trans (by
  rw [show word abcB (39 - 2) = 1924104970 from abc_w37, show word abcB (39 - 7) = 2482346367 from abc_w32, show word abcB (39 - 15) = 3357629466 from abc_w24, show word abcB (39 - 16) = 3806512014 from abc_w23]
  kernel_rfl)
theorem abc_w40 : word abcB 40 = 2672279444 := (word_big abcB 40 (by omega)).trans (by
  rw [show word abcB (40 - 2) = 2483675966 from abc_w38, show word abcB (40 - 7) = 996719219 from abc_w33, show word abcB (40 - 15) = 3073800610 from abc_w25, show word abcB (40 - 16) = 3357629466 from abc_w24]
  kernel_rfl)
theorem abc_w41 : word abcB 41 = 4037431130 := (word_big abcB 41 (by omega)).trans (by
  rw [show word abcB (41 - 2) = 610538786 from abc_w39, show word abcB (41 - 7) = 2952069057 from abc_w34, show word abcB (41 - 15) = 3854317833 from abc_w26, show word abcB (41 - 16) = 3073800610 from abc_w25]
  kernel_rfl)
theorem abc_w42 : word abcB 42 = 1042573945 := (word_big abcB 42 (by omega)).trans (by
  rw [show word abcB (42 - 2) = 2672279444 from abc_w40, show word abcB (42 - 7) = 4043988066 from abc_w35, show word abcB (42 - 15) = 845560923 from abc_w27, show word abcB (42 - 16) = 3854317833 from abc_w26]
  kernel_rfl)
theorem abc_w43 : word abcB 43 = 657669027 := (word_big abcB 43 (by omega)).trans (by
  rw [show word abcB (43 - 2) = 4037431130 from abc_w41, show word abcB (43 - 7) = 176896406 from abc_w36, show word abcB (43 - 15) = 2636160359 from abc_w28, show word abcB (43 - 16) = 845560923 from abc_w27]
  kernel_rfl)
theorem abc_w44 : word abcB 44 = 206005234 := (word_big abcB 44 (by omega)).trans (by
  rw [show word abcB (44 - 2) = 1042573945 from abc_w42, show word abcB (44 - 7) = 1924104970 from abc_w37, show word abcB (44 - 15) = 3968280267 from abc_w29, show word abcB (44 - 16) = 2636160359 from abc_w28]
  kernel_rfl)
theorem abc_w45 : word abcB 45 = 2215296807 := (word_big abcB 45 (by omega)).trans (by
  rw [show word abcB (45 - 2) = 657669027 from abc_w43, show word abcB (45 - 7) = 2483675966 from abc_w38, show word abcB (45 - 15) = 1881225380 from abc_w30, show word abcB (45 - 16) = 3968280267 from abc_w29]
  kernel_rfl)
theorem abc_w46 : word abcB 46 = 2049510749 := (word_big abcB 46 (by omega)).trans (by
  rw [show word abcB (46 - 2) = 206005234 from abc_w44, show word abcB (46 - 7) = 610538786 from abc_w39, show word abcB (46 - 15) = 3552024379 from abc_w31, show word abcB (46 - 16) = 1881225380 from abc_w30]
  kernel_rfl)
theorem abc_w47 : word abcB 47 = 106709978 := (word_big abcB 47 (by omega)).trans (by
  rw [show word abcB (47 - 2) = 2215296807 from abc_w45, show word abcB (47 - 7) = 2672279444 from abc_w40, show word abcB (47 - 15) = 2482346367 from abc_w32, show word abcB (47 - 16) = 3552024379 from abc_w31]
  kernel_rfl)
theorem abc_w48 : word abcB 48 = 4215179723 := (word_big abcB 48 (by omega)).trans (by
  rw [show word abcB (48 - 2) = 2049510749 from abc_w46, show word abcB (48 - 7) = 4037431130 from abc_w41, show word abcB (48 - 15) = 996719219 from abc_w33, show word abcB (48 - 16) = 2482346367 from abc_w32]
  kernel_rfl)
theorem abc_w49 : word abcB 49 = 3430291419 := (word_big abcB 49 (by omega)).trans (by
  rw [show word abcB (49 - 2) = 106709978 from abc_w47, show word abcB (49 - 7) = 1042573945 from abc_w42, show word abcB (49 - 15) = 2952069057 from abc_w34, show word abcB (49 - 16) = 996719219 from abc_w33]
  kernel_rfl)
theorem abc_w50 : word abcB 50 = 3118885940 := (word_big abcB 50 (by omega)).trans (by
  rw [show word abcB (50 - 2) = 4215179723 from abc_w48, show word abcB (50 - 7) = 657669027 from abc_w43, show word abcB (50 - 15) = 4043988066 from abc_w35, show word abcB (50 - 16) = 2952069057 from abc_w34]
  kernel_rfl)
theorem abc_w51 : word abcB 51 = 2845390439 := (word_big abcB 51 (by omega)).trans (by
  rw [show word abcB (51 - 2) = 3430291419 from abc_w49, show word abcB (51 - 7) = 206005234 from abc_w44, show word abcB (51 - 15) = 176896406 from abc_w36, show word abcB (51 - 16) = 4043988066 from abc_w35]
  kernel_rfl)
theorem abc_w52 : word abcB 52 = 2226839261 := (word_big abcB 52 (by omega)).trans (by
  rw [show word abcB (52 - 2) = 3118885940 from abc_w50, show word abcB (52 - 7) = 2215296807 from abc_w45, show word abcB (52 - 15) = 1924104970 from abc_w37, show word abcB (52 - 16) = 176896406 from abc_w36]
  kernel_rfl)
theorem abc_w53 : word abcB 53 = 3256115900 := (word_big abcB 53 (by omega)).trans (by
  rw [show word abcB (53 - 2) = 2845390439 from abc_w51, show word abcB (53 - 7) = 2049510749 from abc_w46, show word abcB (53 - 15) = 2483675966 from abc_w38, show word abcB (53 - 16) = 1924104970 from abc_w37]
  kernel_rfl)
theorem abc_w54 : word abcB 54 = 344409900 := (word_big abcB 54 (by omega)).trans (by
  rw [show word abcB (54 - 2) = 2226839261 from abc_w52, show word abcB (54 - 7) = 106709978 from abc_w47, show word abcB (54 - 15) = 610538786 from abc_w39, show word abcB (54 - 16) = 2483675966 from abc_w38]
  kernel_rfl)
theorem abc_w55 : word abcB 55 = 2987358873 := (word_big abcB 55 (by omega)).trans (by
  rw [show word abcB (55 - 2) = 3256115900 from abc_w53, show word abcB (55 - 7) = 4215179723 from abc_w48, show word abcB (55 - 15) = 2672279444 from abc_w40, show word abcB (55 - 16) = 610538786 from abc_w39]
  kernel_rfl)
theorem abc_w56 : word abcB 56 = 4015503821 := (word_big abcB 56 (by omega)).trans (by
  rw [show word abcB (56 - 2) = 344409900 from abc_w54, show word abcB (56 - 7) = 3430291419 from abc_w49, show word abcB (56 - 15) = 4037431130 from abc_w41, show word abcB (56 - 16) = 2672279444 from abc_w40]
  kernel_rfl)
theorem abc_w57 : word abcB 57 = 3957764664 := (word_big abcB 57 (by omega)).trans (by
  rw [show word abcB (57 - 2) = 2987358873 from abc_w55, show word abcB (57 - 7) = 3118885940 from abc_w50, show word abcB (57 - 15) = 1042573945 from abc_w42, show word abcB (57 - 16) = 4037431130 from abc_w41]
  kernel_rfl)
theorem abc_w58 : word abcB 58 = 2682456414 := (word_big abcB 58 (by omega)).trans (by
  rw [show word abcB (58 - 2) = 4015503821 from abc_w56, show word abcB (58 - 7) = 2845390439 from abc_w51, show word abcB (58 - 15) = 657669027 from abc_w43, show word abcB (58 - 16) = 1042573945 from abc_w42]
  kernel_rfl)
theorem abc_w59 : word abcB 59 = 2025622859 := (word_big abcB 59 (by omega)).trans (by
  rw [show word abcB (59 - 2) = 3957764664 from abc_w57, show word abcB (59 - 7) = 2226839261 from abc_w52, show word abcB (59 - 15) = 206005234 from abc_w44, show word abcB (59 - 16) = 657669027 from abc_w43]
  kernel_rfl)
theorem abc_w60 : word abcB 60 = 2755645205 := (word_big abcB 60 (by omega)).trans (by
  rw [show word abcB (60 - 2) = 2682456414 from abc_w58, show word abcB (60 - 7) = 3256115900 from abc_w53, show word abcB (60 - 15) = 2215296807 from abc_w45, show word abcB (60 - 16) = 206005234 from abc_w44]
  kernel_rfl)
theorem abc_w61 : word abcB 61 = 1720397816 := (word_big abcB 61 (by omega)).trans (by
  rw [show word abcB (61 - 2) = 2025622859 from abc_w59, show word abcB (61 - 7) = 344409900 from abc_w54, show word abcB (61 - 15) = 2049510749 from abc_w46, show word abcB (61 - 16) = 2215296807 from abc_w45]
  kernel_rfl)
theorem abc_w62 : word abcB 62 = 4004225740 := (word_big abcB 62 (by omega)).trans (by
  rw [show word abcB (62 - 2) = 2755645205 from abc_w60, show word abcB (62 - 7) = 2987358873 from abc_w55, show word abcB (62 - 15) = 106709978 from abc_w47, show word abcB (62 - 16) = 2049510749 from abc_w46]
  kernel_rfl)
theorem abc_w63 : word abcB 63 = 313650667 := (word_big abcB 63 (by omega)).trans (by
  rw [show word abcB (63 - 2) = 1720397816 from abc_w61, show word abcB (63 - 7) = 4015503821 from abc_w56, show word abcB (63 - 15) = 4215179723 from abc_w48, show word abcB (63 - 16) = 106709978 from abc_w47]
  kernel_rfl)
theorem abc_r0 : rounds abcS abcK (word abcB) 0 = [1779033703, 3144134277, 1013904242, 2773480762, 1359893119, 2600822924, 528734635, 1541459225] := rfl
theorem abc_r1 : rounds abcS abcK (word abcB) 1 = [1567288269, 1779033703, 3144134277, 1013904242, 4197074466, 1359893119, 2600822924, 528734635] := by
  show rnd (rounds abcS abcK (word abcB) 0) (abcK 0) (word abcB 0) = _
  rw [abc_r0, abc_w0]
  kernel_rfl
theorem abc_r2 : rounds abcS abcK (word abcB) 2 = [1516951981, 1567288269, 1779033703, 3144134277, 2026797449, 4197074466, 1359893119, 2600822924] := by
  show rnd (rounds abcS abcK (word abcB) 1) (abcK 1) (word abcB 1) = _
  rw [abc_r1, abc_w1]
  kernel_rfl
theorem abc_r3 : rounds abcS abcK (word abcB) 3 = [3368241063, 1516951981, 1567288269, 1779033703, 4180228587, 2026797449, 4197074466, 1359893119] := by
  show rnd (rounds abcS abcK (word abcB) 2) (abcK 2) (word abcB 2) = _
  rw [abc_r2, abc_w2]
  kernel_rfl
theorem abc_r4 : rounds abcS abcK (word abcB) 4 = [3578852966, 3368241063, 1516951981, 1567288269, 618661968, 4180228587, 2026797449, 4197074466] := by
  show rnd (rounds abcS abcK (word abcB) 3) (abcK 3) (word abcB 3) = _
  rw [abc_r3, abc_w3]
  kernel_rfl
theorem abc_r5 : rounds abcS abcK (word abcB) 5 = [71342698, 3578852966, 3368241063, 1516951981, 1135452741, 618661968, 4180228587, 2026797449] := by
  show rnd (rounds abcS abcK (word abcB) 4) (abcK 4) (word abcB 4) = _
  rw [abc_r4, abc_w4]
  kernel_rfl
theorem abc_r6 : rounds abcS abcK (word abcB) 6 = [725748213, 71342698, 3578852966, 3368241063, 1900175533, 1135452741, 618661968, 4180228587] := by
  show rnd (rounds abcS abcK (word abcB) 5) (abcK 5) (word abcB 5) = _
  rw [abc_r5, abc_w5]
  kernel_rfl
theorem abc_r7 : rounds abcS abcK (word abcB) 7 = [3842179968, 725748213, 71342698, 3578852966, 2603066369, 1900175533, 1135452741, 618661968] := by
  show rnd (rounds abcS abcK (word abcB) 6) (abcK 6) (word abcB 6) = _
  rw [abc_r6, abc_w6]
  kernel_rfl
theorem abc_r8 : rounds abcS abcK (word abcB) 8 = [2241887071, 3842179968, 725748213, 71342698, 207977081, 2603066369, 1900175533, 1135452741] := by
  show rnd (rounds abcS abcK (word abcB) 7) (abcK 7) (word abcB 7) = _
  rw [abc_r7, abc_w7]
  kernel_rfl
theorem abc_r9 : rounds abcS abcK (word abcB) 9 = [2382687417, 2241887071, 3842179968, 725748213, 852110732, 207977081, 2603066369, 1900175533] := by
  show rnd (rounds abcS abcK (word abcB) 8) (abcK 8) (word abcB 8) = _
  rw [abc_r8, abc_w8]
  kernel_rfl
theorem abc_r10 : rounds abcS abcK (word abcB) 10 = [2357671019, 2382687417, 2241887071, 3842179968, 482944406, 852110732, 207977081, 2603066369] := by
  show rnd (rounds abcS abcK (word abcB) 9) (abcK 9) (word abcB 9) = _
  rw [abc_r9, abc_w9]
  kernel_rfl
theorem abc_r11 : rounds abcS abcK (word abcB) 11 = [1201185780, 2357671019, 2382687417, 2241887071, 1131095016, 482944406, 852110732, 207977081] := by
  show rnd (rounds abcS abcK (word abcB) 10) (abcK 10) (word abcB 10) = _
  rw [abc_r10, abc_w10]
  kernel_rfl
theorem abc_r12 : rounds abcS abcK (word abcB) 12 = [4146054569, 1201185780, 2357671019, 2382687417, 2171590377, 1131095016, 482944406, 852110732] := by
  show rnd (rounds abcS abcK (word abcB) 11) (abcK 11) (word abcB 11) = _
  rw [abc_r11, abc_w11]
  kernel_rfl
theorem abc_r13 : rounds abcS abcK (word abcB) 13 = [2274437520, 4146054569, 1201185780, 2357671019, 509051416, 2171590377, 1131095016, 482944406] := by
  show rnd (rounds abcS abcK (word abcB) 12) (abcK 12) (word abcB 12) = _
  rw [abc_r12, abc_w12]
  kernel_rfl
theorem abc_r14 : rounds abcS abcK (word abcB) 14 = [3643992854, 2274437520, 4146054569, 1201185780, 1952073950, 509051416, 2171590377, 1131095016] := by
  show rnd (rounds abcS abcK (word abcB) 13) (abcK 13) (word abcB 13) = _
  rw [abc_r13, abc_w13]
  kernel_rfl
theorem abc_r15 : rounds abcS abcK (word abcB) 15 = [3227803614, 3643992854, 2274437520, 4146054569, 194179596, 1952073950, 509051416, 2171590377] := by
  show rnd (rounds abcS abcK (word abcB) 14) (abcK 14) (word abcB 14) = _
  rw [abc_r14, abc_w14]
  kernel_rfl
theorem abc_r16 : rounds abcS abcK (word abcB) 16 = [2969183118, 3227803614, 3643992854, 2274437520, 123276749, 194179596, 1952073950, 509051416] := by
  show rnd (rounds abcS abcK (word abcB) 15) (abcK 15) (word abcB 15) = _
  rw [abc_r15, abc_w15]
  kernel_rfl
theorem abc_r17 : rounds abcS abcK (word abcB) 17 = [567974555, 2969183118, 3227803614, 3643992854, 2150900380, 123276749, 194179596, 1952073950] := by
  show rnd (rounds abcS abcK (word abcB) 16) (abcK 16) (word abcB 16) = _
  rw [abc_r16, abc_w16]
  kernel_rfl
theorem abc_r18 : rounds abcS abcK (word abcB) 18 = [3271285201, 567974555, 2969183118, 3227803614, 2221859924, 2150900380, 123276749, 194179596] := by
  show rnd (rounds abcS abcK (word abcB) 17) (abcK 17) (word abcB 17) = _
  rw [abc_r17, abc_w17]
  kernel_rfl
theorem abc_r19 : rounds abcS abcK (word abcB) 19 = [4269243327, 3271285201, 567974555, 2969183118, 3431569761, 2221859924, 2150900380, 123276749] := by
  show rnd (rounds abcS abcK (word abcB) 18) (abcK 18) (word abcB 18) = _
  rw [abc_r18, abc_w18]
  kernel_rfl
theorem abc_r20 : rounds abcS abcK (word abcB) 20 = [3790736435, 4269243327, 3271285201, 567974555, 2959311225, 3431569761, 2221859924, 2150900380] := by
  show rnd (rounds abcS abcK (word abcB) 19) (abcK 19) (word abcB 19) = _
  rw [abc_r19, abc_w19]
  kernel_rfl
theorem abc_r21 : rounds abcS abcK (word abcB) 21 = [2647034723, 3790736435, 4269243327, 3271285201, 2329577776, 2959311225, 3431569761, 2221859924] := by
  show rnd (rounds abcS abcK (word abcB) 20) (abcK 20) (word abcB 20) = _
  rw [abc_r20, abc_w20]
  kernel_rfl
theorem abc_r22 : rounds abcS abcK (word abcB) 22 = [3261099373, 2647034723, 3790736435, 4269243327, 3777329520, 2329577776, 2959311225, 3431569761] := by
  show rnd (rounds abcS abcK (word abcB) 21) (abcK 21) (word abcB 21) = _
  rw [abc_r21, abc_w21]
  kernel_rfl
theorem abc_r23 : rounds abcS abcK (word abcB) 23 = [2812502591, 3261099373, 2647034723, 3790736435, 1240797514, 3777329520, 2329577776, 2959311225] := by
  show rnd (rounds abcS abcK (word abcB) 22) (abcK 22) (word abcB 22) = _
  rw [abc_r22, abc_w22]
  kernel_rfl
theorem abc_r24 : rounds abcS abcK (word abcB) 24 = [3319086477, 2812502591, 3261099373, 2647034723, 2856829767, 1240797514, 3777329520, 2329577776] := by
  show rnd (rounds abcS abcK (word abcB) 23) (abcK 23) (word abcB 23) = _
  rw [abc_r23, abc_w23]
  kernel_rfl
theorem abc_r25 : rounds abcS abcK (word abcB) 25 = [472655928, 3319086477, 2812502591, 3261099373, 673443729, 2856829767, 1240797514, 3777329520] := by
  show rnd (rounds abcS abcK (word abcB) 24) (abcK 24) (word abcB 24) = _
  rw [abc_r24, abc_w24]
  kernel_rfl
theorem abc_r26 : rounds abcS abcK (word abcB) 26 = [3454534525, 472655928, 3319086477, 2812502591, 339230094, 673443729, 2856829767, 1240797514] := by
  show rnd (rounds abcS abcK (word abcB) 25) (abcK 25) (word abcB 25) = _
  rw [abc_r25, abc_w25]
  kernel_rfl
theorem abc_r27 : rounds abcS abcK (word abcB) 27 = [3056518332, 3454534525, 472655928, 3319086477, 3343672598, 339230094, 673443729, 2856829767] := by
  show rnd (rounds abcS abcK (word abcB) 26) (abcK 26) (word abcB 26) = _
  rw [abc_r26, abc_w26]
  kernel_rfl
theorem abc_r28 : rounds abcS abcK (word abcB) 28 = [2010346792, 3056518332, 3454534525, 472655928, 3992961016, 3343672598, 339230094, 673443729] := by
  show rnd (rounds abcS abcK (word abcB) 27) (abcK 27) (word abcB 27) = _
  rw [abc_r27, abc_w27]
  kernel_rfl
theorem abc_r29 : rounds abcS abcK (word abcB) 29 = [909411017, 2010346792, 3056518332, 3454534525, 1628611511, 3992961016, 3343672598, 339230094] := by
  show rnd (rounds abcS abcK (word abcB) 28) (abcK 28) (word abcB 28) = _
  rw [abc_r28, abc_w28]
  kernel_rfl
theorem abc_r30 : rounds abcS abcK (word abcB) 30 = [2684750640, 909411017, 2010346792, 3056518332, 2917635127, 1628611511, 3992961016, 3343672598] := by
  show rnd (rounds abcS abcK (word abcB) 29) (abcK 29) (word abcB 29) = _
  rw [abc_r29, abc_w29]
  kernel_rfl
theorem abc_r31 : rounds abcS abcK (word abcB) 31 = [3935906338, 2684750640, 909411017, 2010346792, 17410874, 2917635127, 1628611511, 3992961016] := by
  show rnd (rounds abcS abcK (word abcB) 30) (abcK 30) (word abcB 30) = _
  rw [abc_r30, abc_w30]
  kernel_rfl
theorem abc_r32 : rounds abcS abcK (word abcB) 32 = [1941126133, 3935906338, 2684750640, 909411017, 3126399250, 17410874, 2917635127, 1628611511] := by
  show rnd (rounds abcS abcK (word abcB) 31) (abcK 31) (word abcB 31) = _
  rw [abc_r31, abc_w31]
  kernel_rfl
theorem abc_r33 : rounds abcS abcK (word abcB) 33 = [2564891911, 1941126133, 3935906338, 2684750640, 2631529974, 3126399250, 17410874, 2917635127] := by
  show rnd (rounds abcS abcK (word abcB) 32) (abcK 32) (word abcB 32) = _
  rw [abc_r32, abc_w32]
  kernel_rfl
theorem abc_r34 : rounds abcS abcK (word abcB) 34 = [4267724277, 2564891911, 1941126133, 3935906338, 1495571923, 2631529974, 3126399250, 17410874] := by
  show rnd (rounds abcS abcK (word abcB) 33) (abcK 33) (word abcB 33) = _
  rw [abc_r33, abc_w33]
  kernel_rfl
theorem abc_r35 : rounds abcS abcK (word abcB) 35 = [2846323596, 4267724277, 2564891911, 1941126133, 140458035, 1495571923, 2631529974, 3126399250] := by
  show rnd (rounds abcS abcK (word abcB) 34) (abcK 34) (word abcB 34) = _
  rw [abc_r34, abc_w34]
  kernel_rfl
theorem abc_r36 : rounds abcS abcK (word abcB) 36 = [1705037796, 2846323596, 4267724277, 2564891911, 4105175766, 140458035, 1495571923, 2631529974] := by
  show rnd (rounds abcS abcK (word abcB) 35) (abcK 35) (word abcB 35) = _
  rw [abc_r35, abc_w35]
  kernel_rfl
theorem abc_r37 : rounds abcS abcK (word abcB) 37 = [1101421745, 1705037796, 2846323596, 4267724277, 124953195, 4105175766, 140458035, 1495571923] := by
  show rnd (rounds abcS abcK (word abcB) 36) (abcK 36) (word abcB 36) = _
  rw [abc_r36, abc_w36]
  kernel_rfl
theorem abc_r38 : rounds abcS abcK (word abcB) 38 = [887035396, 1101421745, 1705037796, 2846323596, 2768741693, 124953195, 4105175766, 140458035] := by
  show rnd (rounds abcS abcK (word abcB) 37) (abcK 37) (word abcB 37) = _
  rw [abc_r37, abc_w37]
  kernel_rfl
theorem abc_r39 : rounds abcS abcK (word abcB) 39 = [1841658506, 887035396, 1101421745, 1705037796, 4034403272, 2768741693, 124953195, 4105175766] := by
  show rnd (rounds abcS abcK (word abcB) 38) (abcK 38) (word abcB 38) = _
  rw [abc_r38, abc_w38]
  kernel_rfl
theorem abc_r40 : rounds abcS abcK (word abcB) 40 = [2045405306, 1841658506, 887035396, 1101421745, 519815328, 4034403272, 2768741693, 124953195] := by
  show rnd (rounds abcS abcK (word abcB) 39) (abcK 39) (word abcB 39) = _
  rw [abc_r39, abc_w39]
  kernel_rfl
theorem abc_r41 : rounds abcS abcK (word abcB) 41 = [3597076326, 2045405306, 1841658506, 887035396, 641019235, 519815328, 4034403272, 2768741693] := by
  show rnd (rounds abcS abcK (word abcB) 40) (abcK 40) (word abcB 40) = _
  rw [abc_r40, abc_w40]
  kernel_rfl
theorem abc_r42 : rounds abcS abcK (word abcB) 42 = [3745932591, 3597076326, 2045405306, 1841658506, 2206934801, 641019235, 519815328, 4034403272] := by
  show rnd (rounds abcS abcK (word abcB) 41) (abcK 41) (word abcB 41) = _
  rw [abc_r41, abc_w41]
  kernel_rfl
theorem abc_r43 : rounds abcS abcK (word abcB) 43 = [397020670, 3745932591, 3597076326, 2045405306, 3737995029, 2206934801, 641019235, 519815328] := by
  show rnd (rounds abcS abcK (word abcB) 42) (abcK 42) (word abcB 42) = _
  rw [abc_r42, abc_w42]
  kernel_rfl
theorem abc_r44 : rounds abcS abcK (word abcB) 44 = [2638983059, 397020670, 3745932591, 3597076326, 4255271982, 3737995029, 2206934801, 641019235] := by
  show rnd (rounds abcS abcK (word abcB) 43) (abcK 43) (word abcB 43) = _
  rw [abc_r43, abc_w43]
  kernel_rfl
theorem abc_r45 : rounds abcS abcK (word abcB) 45 = [643991573, 2638983059, 397020670, 3745932591, 2819559920, 4255271982, 3737995029, 2206934801] := by
  show rnd (rounds abcS abcK (word abcB) 44) (abcK 44) (word abcB 44) = _
  rw [abc_r44, abc_w44]
  kernel_rfl
theorem abc_r46 : rounds abcS abcK (word abcB) 46 = [1923828625, 643991573, 2638983059, 397020670, 3077922209, 2819559920, 4255271982, 3737995029] := by
  show rnd (rounds abcS abcK (word abcB) 45) (abcK 45) (word abcB 45) = _
  rw [abc_r45, abc_w45]
  kernel_rfl
theorem abc_r47 : rounds abcS abcK (word abcB) 47 = [2706117808, 1923828625, 643991573, 2638983059, 3581645993, 3077922209, 2819559920, 4255271982] := by
  show rnd (rounds abcS abcK (word abcB) 46) (abcK 46) (word abcB 46) = _
  rw [abc_r46, abc_w46]
  kernel_rfl
theorem abc_r48 : rounds abcS abcK (word abcB) 48 = [1098003085, 2706117808, 1923828625, 643991573, 4274981830, 3581645993, 3077922209, 2819559920] := by
  show rnd (rounds abcS abcK (word abcB) 47) (abcK 47) (word abcB 47) = _
  rw [abc_r47, abc_w47]
  kernel_rfl
theorem abc_r49 : rounds abcS abcK (word abcB) 49 = [91585771, 1098003085, 2706117808, 1923828625, 3178315832, 4274981830, 3581645993, 3077922209] := by
  show rnd (rounds abcS abcK (word abcB) 48) (abcK 48) (word abcB 48) = _
  rw [abc_r48, abc_w48]
  kernel_rfl
theorem abc_r50 : rounds abcS abcK (word abcB) 50 = [4045142696, 91585771, 1098003085, 2706117808, 1851537676, 3178315832, 4274981830, 3581645993] := by
  show rnd (rounds abcS abcK (word abcB) 49) (abcK 49) (word abcB 49) = _
  rw [abc_r49, abc_w49]
  kernel_rfl
theorem abc_r51 : rounds abcS abcK (word abcB) 51 = [2047150241, 4045142696, 91585771, 1098003085, 1391578359, 1851537676, 3178315832, 4274981830] := by
  show rnd (rounds abcS abcK (word abcB) 50) (abcK 50) (word abcB 50) = _
  rw [abc_r50, abc_w50]
  kernel_rfl
theorem abc_r52 : rounds abcS abcK (word abcB) 52 = [2288941602, 2047150241, 4045142696, 91585771, 1227037726, 1391578359, 1851537676, 3178315832] := by
  show rnd (rounds abcS abcK (word abcB) 51) (abcK 51) (word abcB 51) = _
  rw [abc_r51, abc_w51]
  kernel_rfl
theorem abc_r53 : rounds abcS abcK (word abcB) 53 = [270520975, 2288941602, 2047150241, 4045142696, 1386118400, 1227037726, 1391578359, 1851537676] := by
  show rnd (rounds abcS abcK (word abcB) 52) (abcK 52) (word abcB 52) = _
  rw [abc_r52, abc_w52]
  kernel_rfl
theorem abc_r54 : rounds abcS abcK (word abcB) 54 = [4117770203, 270520975, 2288941602, 2047150241, 2672265155, 1386118400, 1227037726, 1391578359] := by
  show rnd (rounds abcS abcK (word abcB) 53) (abcK 53) (word abcB 53) = _
  rw [abc_r53, abc_w53]
  kernel_rfl
theorem abc_r55 : rounds abcS abcK (word abcB) 55 = [1053056219, 4117770203, 270520975, 2288941602, 3842906959, 2672265155, 1386118400, 1227037726] := by
  show rnd (rounds abcS abcK (word abcB) 54) (abcK 54) (word abcB 54) = _
  rw [abc_r54, abc_w54]
  kernel_rfl
theorem abc_r56 : rounds abcS abcK (word abcB) 56 = [952932627, 1053056219, 4117770203, 270520975, 1422599787, 3842906959, 2672265155, 1386118400] := by
  show rnd (rounds abcS abcK (word abcB) 55) (abcK 55) (word abcB 55) = _
  rw [abc_r55, abc_w55]
  kernel_rfl
theorem abc_r57 : rounds abcS abcK (word abcB) 57 = [4241590395, 952932627, 1053056219, 4117770203, 2606665836, 1422599787, 3842906959, 2672265155] := by
  show rnd (rounds abcS abcK (word abcB) 56) (abcK 56) (word abcB 56) = _
  rw [abc_r56, abc_w56]
  kernel_rfl
theorem abc_r58 : rounds abcS abcK (word abcB) 58 = [3227702383, 4241590395, 952932627, 1053056219, 2118385806, 2606665836, 1422599787, 3842906959] := by
  show rnd (rounds abcS abcK (word abcB) 57) (abcK 57) (word abcB 57) = _
  rw [abc_r57, abc_w57]
  kernel_rfl
theorem abc_r59 : rounds abcS abcK (word abcB) 59 = [4290184306, 3227702383, 4241590395, 952932627, 1837350854, 2118385806, 2606665836, 1422599787] := by
  show rnd (rounds abcS abcK (word abcB) 58) (abcK 58) (word abcB 58) = _
  rw [abc_r58, abc_w58]
  kernel_rfl
theorem abc_r60 : rounds abcS abcK (word abcB) 60 = [3064893439, 4290184306, 3227702383, 4241590395, 2988158269, 1837350854, 2118385806, 2606665836] := by
  show rnd (rounds abcS abcK (word abcB) 59) (abcK 59) (word abcB 59) = _
  rw [abc_r59, abc_w59]
  kernel_rfl
theorem abc_r61 : rounds abcS abcK (word abcB) 61 = [3093179625, 3064893439, 4290184306, 3227702383, 2518632596, 2988158269, 1837350854, 2118385806] := by
  show rnd (rounds abcS abcK (word abcB) 60) (abcK 60) (word abcB 60) = _
  rw [abc_r60, abc_w60]
  kernel_rfl
theorem abc_r62 : rounds abcS abcK (word abcB) 62 = [80891244, 3093179625, 3064893439, 4290184306, 2492278198, 2518632596, 2988158269, 1837350854] := by
  show rnd (rounds abcS abcK (word abcB) 61) (abcK 61) (word abcB 61) = _
  rw [abc_r61, abc_w61]
  kernel_rfl
theorem abc_r63 : rounds abcS abcK (word abcB) 63 = [3550093669, 80891244, 3093179625, 3064893439, 4212265488, 2492278198, 2518632596, 2988158269] := by
  show rnd (rounds abcS abcK (word abcB) 62) (abcK 62) (word abcB 62) = _
  rw [abc_r62, abc_w62]
  kernel_rfl
theorem abc_r64 : rounds abcS abcK (word abcB) 64 = [1349398616, 3550093669, 80891244, 3093179625, 1593118500, 4212265488, 2492278198, 2518632596] := by
  show rnd (rounds abcS abcK (word abcB) 63) (abcK 63) (word abcB 63) = _
  rw [abc_r63, abc_w63]
  kernel_rfl
theorem abc_sum : adds (rounds abcS abcK (word abcB) 64) abcS = [3128432319, 2399260650, 1094795486, 1571693091, 2953011619, 2518121116, 3021012833, 4060091821] := by
  rw [abc_r64]
  kernel_rfl
end Go.V
