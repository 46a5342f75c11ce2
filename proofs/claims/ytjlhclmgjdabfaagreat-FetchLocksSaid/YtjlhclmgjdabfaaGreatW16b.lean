/- Tables of the executor for the statements about package fetch.
Conditions: none. -/
import Derived.KernelRfl
import Derived.Test.YtjlhclmgjdabfaaGreatRows
import Derived.Test.YtjlhclmgjdabfaaGreatAxJ
import Derived.Test.YtjlhclmgjdabfaaGreatAxT
namespace Go.Proofs.YtjlhclmgjdabfaaGreat
set_option linter.unusedVariables false
set_option linter.unusedSimpArgs false
set_option linter.unusedSectionVars false
open Go Go.Ax
set_option maxRecDepth 1000000
noncomputable def ts16 : List Nat := [3, 4, 5, 9, 22, 24, 25, 27, 29, 32, 36, 37, 39, 40, 42, 52, 55, 57, 61, 63, 64, 65, 66, 68, 69, 72, 74, 76, 78, 80, 86, 91, 95, 98, 100, 102, 110, 118, 120, 124, 125, 133, 135, 143, 152, 156, 160, 161, 162, 163, 165, 167, 169, 171, 180, 182, 187, 188, 189, 191, 192, 201, 204, 213, 220, 223, 227, 229, 230, 231, 233, 234, 238, 245, 249, 253, 257, 261, 269, 277, 283, 290, 292, 297, 301, 303, 306, 307, 309, 315, 318, 319, 326, 328, 339, 343, 352, 354, 355, 386, 389, 405, 413, 440]
noncomputable def fs16 : List Nat := [3, 4, 6, 7, 8, 9, 10, 11, 12, 13, 14, 15, 16, 17, 18, 19, 20, 21, 22, 23, 24, 25, 26, 27, 28, 29, 30, 31, 32, 33, 34, 35, 36, 37, 38, 39, 40, 41, 42, 43, 44, 45, 46, 47, 48, 49, 50, 51, 52, 53, 54, 55, 56, 57, 58, 59, 60, 61, 62, 63, 64, 65, 66, 67, 68, 69, 70, 71, 72, 73, 74, 75, 76, 77, 78, 79, 80, 81, 82, 83, 84, 85, 86, 87, 88, 89, 90, 91, 92, 93, 94, 95, 96, 97, 98, 99, 100, 101, 102, 103, 104, 105, 106, 107, 108, 109, 110, 111, 112, 113, 114, 115, 116, 117, 118, 119, 120, 121, 122, 123, 124, 125, 126, 127, 128, 129, 130, 131, 132, 133, 134, 135, 136, 137, 138, 139, 140, 141, 142, 143, 144, 145, 146, 147, 148, 149, 150, 151, 152, 153, 154, 155, 156, 157, 158, 159, 160, 161, 162, 163, 164, 165, 166, 167, 168, 169, 170, 171, 172, 173, 174, 175, 176, 177, 178, 179, 180, 181, 182, 183, 184, 185, 186, 187, 188, 189, 190, 191, 192, 193, 194, 195, 196, 197, 198, 199, 200, 201, 202, 203, 204, 205, 206, 207, 208, 209, 210, 211, 212, 213, 214, 215, 216, 217, 218, 219, 220, 221, 222, 223, 224, 225, 226, 227, 228, 229, 230, 231, 232, 233, 234, 235, 236, 237, 238, 239, 240, 241, 242, 243, 244, 245, 246, 247, 248, 249, 250, 251, 252, 253, 254, 255, 256, 257, 258, 259, 260, 261, 262, 263, 264, 265, 266, 267, 268, 269, 270, 271, 272, 273, 274, 275, 276, 277, 278, 279, 280, 281, 282, 283, 284, 285, 286, 287, 288, 289, 290, 291, 292, 293, 294, 295, 296, 297, 298, 299, 300, 301, 302, 303, 304, 305, 306, 307, 308, 309, 310, 311, 312, 313, 314, 315, 316, 317, 318, 319, 320, 321, 322, 323, 324, 325, 326, 327, 328, 329, 330, 331, 332, 333, 334, 335, 336, 337, 338, 339, 340, 341, 342, 343, 344, 345, 346]
noncomputable def env16 : Env := envOf Tryz.prog [68] ts16 fs16
theorem ty16 : tyAllB Tryz.prog ts16 = true := by kernel_rfl
theorem fn16 : fnAllB Tryz.prog fs16 = true := by kernel_rfl
theorem mix16 : Tryz.prog.follows .mixedOrders = true := by kernel_rfl
theorem flat16 : ∀ t ∈ [68], ∀ ti, tiOf Tryz.prog true t = some ti → FlatOK Tryz.prog t ti.zero := by
  intro t ht ti h
  rw [List.mem_singleton] at ht; subst ht
  exact flatOK_closed (d := 8) (by kernel_rfl) (by decide) (by kernel_rfl) (by kernel_rfl) ti h
theorem env16_ok : EnvOK Tryz.prog env16 ∧ EnvPlain env16 := envOK_of _ _ _ _ ty16 flat16 fn16 mix16
end Go.Proofs.YtjlhclmgjdabfaaGreat
