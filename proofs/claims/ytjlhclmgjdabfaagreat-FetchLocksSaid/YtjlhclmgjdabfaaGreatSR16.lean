/- Two functions of the library's that turn a row of integers: slices.Sort and slices.Compact.
Conditions: none. -/
import Derived.Shelf.Slices.CompactI
import Derived.Shelf.Sort.Plain
import Derived.Test.YtjlhclmgjdabfaaGreatW16b
namespace Go.Proofs.YtjlhclmgjdabfaaGreat
set_option linter.unusedVariables false
set_option linter.unusedSimpArgs false
set_option linter.unusedSectionVars false
open Go Go.Ax
/-! The texts of the two functions are those of the library (printed by the kit's shelf_lay). -/
def lays189_ren : Go.Shelf.Ren := ⟨fun | 189 => 62 | 125 => 110 | 257 => 109 | 128 => 168 | 129 => 169 | 294 => 159 | 295 => 160 | 296 => 161 | 297 => 162 | 298 => 163 | 299 => 164 | 216 => 165 | 300 => 166 | 301 => 167 | 328 => 200 | 329 => 201 | 330 => 202 | 331 => 203 | 332 => 204 | 215 => 205 | 343 => 258 | n => n, fun | 28 => 25 | 3 => 3 | 46 => 64 | 0 => 0 | 51 => 277 | 53 => 65 | 4 => 4 | 183 => 270 | 182 => 269 | 131 => 274 | 5 => 5 | 9 => 9 | 218 => 319 | 222 => 322 | 228 => 370 | 229 => 311 | n => n, fun | n => n⟩
theorem lays189 : Go.Proofs.Lays.n189 Tryz.prog lays189_ren where
  mixed := by kernel_rfl
  f125 := Tryz.func110.trans (congrArg some (by kernel_rfl))
  f128 := Tryz.func168.trans (congrArg some (by kernel_rfl))
  f129 := Tryz.func169.trans (congrArg some (by kernel_rfl))
  f189 := Tryz.func62.trans (congrArg some (by kernel_rfl))
  f215 := Tryz.func205.trans (congrArg some (by kernel_rfl))
  f216 := Tryz.func165.trans (congrArg some (by kernel_rfl))
  f257 := Tryz.func109.trans (congrArg some (by kernel_rfl))
  f294 := Tryz.func159.trans (congrArg some (by kernel_rfl))
  f295 := Tryz.func160.trans (congrArg some (by kernel_rfl))
  f296 := Tryz.func161.trans (congrArg some (by kernel_rfl))
  f297 := Tryz.func162.trans (congrArg some (by kernel_rfl))
  f298 := Tryz.func163.trans (congrArg some (by kernel_rfl))
  f299 := Tryz.func164.trans (congrArg some (by kernel_rfl))
  f300 := Tryz.func166.trans (congrArg some (by kernel_rfl))
  f301 := Tryz.func167.trans (congrArg some (by kernel_rfl))
  f328 := Tryz.func200.trans (congrArg some (by kernel_rfl))
  f329 := Tryz.func201.trans (congrArg some (by kernel_rfl))
  f330 := Tryz.func202.trans (congrArg some (by kernel_rfl))
  f331 := Tryz.func203.trans (congrArg some (by kernel_rfl))
  f332 := Tryz.func204.trans (congrArg some (by kernel_rfl))
  f343 := Tryz.func258.trans (congrArg some (by kernel_rfl))
  t0 := Tryz.underlying0
  a0 := Tryz.isAgg0
  z0 := Tryz.sizeOf0
  v0 := Tryz.zeroValue0
  t3 := Tryz.underlying3
  a3 := Tryz.isAgg3
  z3 := Tryz.sizeOf3
  v3 := Tryz.zeroValue3
  t4 := Tryz.underlying4
  a4 := Tryz.isAgg4
  z4 := Tryz.sizeOf4
  v4 := Tryz.zeroValue4
  t5 := Tryz.underlying5
  a5 := Tryz.isAgg5
  z5 := Tryz.sizeOf5
  v5 := Tryz.zeroValue5
  t9 := Tryz.underlying9
  a9 := Tryz.isAgg9
  z9 := Tryz.sizeOf9
  v9 := Tryz.zeroValue9
  t28 := Tryz.underlying25
  a28 := Tryz.isAgg25
  z28 := Tryz.sizeOf25
  v28 := Tryz.zeroValue25
  t46 := Tryz.underlying64
  a46 := Tryz.isAgg64
  z46 := Tryz.sizeOf64
  v46 := Tryz.zeroValue64
  t51 := Tryz.underlying277
  a51 := Tryz.isAgg277
  z51 := Tryz.sizeOf277
  v51 := Tryz.zeroValue277
  t53 := Tryz.underlying65
  a53 := Tryz.isAgg65
  z53 := Tryz.sizeOf65
  v53 := Tryz.zeroValue65
  t131 := Tryz.underlying274
  a131 := Tryz.isAgg274
  z131 := Tryz.sizeOf274
  v131 := Tryz.zeroValue274
  t182 := Tryz.underlying269
  a182 := Tryz.isAgg269
  z182 := Tryz.sizeOf269
  v182 := Tryz.zeroValue269
  t183 := Tryz.underlying270
  a183 := Tryz.isAgg270
  z183 := Tryz.sizeOf270
  v183 := Tryz.zeroValue270
  t218 := Tryz.underlying319
  a218 := Tryz.isAgg319
  z218 := Tryz.sizeOf319
  v218 := Tryz.zeroValue319
  t222 := Tryz.underlying322
  a222 := Tryz.isAgg322
  z222 := Tryz.sizeOf322
  v222 := Tryz.zeroValue322
  t228 := Tryz.underlying370
  a228 := Tryz.isAgg370
  z228 := Tryz.sizeOf370
  v228 := Tryz.zeroValue370
  t229 := Tryz.underlying311
  a229 := Tryz.isAgg311
  z229 := Tryz.sizeOf311
  v229 := Tryz.zeroValue311
def laysC20_ren : Go.Shelf.Ren := ⟨fun | 20 => 63 | n => n, fun | 22 => 25 | 3 => 3 | 4 => 4 | 0 => 0 | n => n, fun | n => n⟩
theorem laysC20 : Go.Proofs.Lays2.n20 Tryz.prog laysC20_ren where
  mixed := by kernel_rfl
  f20 := Tryz.func63.trans (congrArg some (by kernel_rfl))
  t0 := Tryz.underlying0
  a0 := Tryz.isAgg0
  z0 := Tryz.sizeOf0
  v0 := Tryz.zeroValue0
  t3 := Tryz.underlying3
  a3 := Tryz.isAgg3
  z3 := Tryz.sizeOf3
  v3 := Tryz.zeroValue3
  t4 := Tryz.underlying4
  a4 := Tryz.isAgg4
  z4 := Tryz.sizeOf4
  v4 := Tryz.zeroValue4
  t22 := Tryz.underlying25
  a22 := Tryz.isAgg25
  z22 := Tryz.sizeOf25
  v22 := Tryz.zeroValue25
  i3 := by kernel_rfl

theorem ren189 : lays189_ren.f 189 = 62 := by kernel_rfl
theorem ren20 : laysC20_ren.f 20 = 63 := by kernel_rfl
theorem fn16_62 : env16.fn.get 62 = some Tryz.f62 := by kernel_rfl
theorem fn16_63 : env16.fn.get 63 = some Tryz.f63 := by kernel_rfl
noncomputable def sortOp : RowOp := ⟨fun zs => zs.mergeSort fun x y => decide (x ≤ y), none⟩
noncomputable def compactOp : RowOp := ⟨fun zs => Lib.compact zs ++ List.replicate (zs.length - (Lib.compact zs).length) 0, some fun zs => (Lib.compact zs).length⟩
theorem sort_ok : RowFn Tryz.prog 62 sortOp where
  len zs := by show (zs.mergeSort _).length = _; rw [List.length_mergeSort]
  le k h zs := by cases h
  enter us w := (env16_ok.1.fn 62 _ fn16_62).call us w
  calls blk off cap zs w hH hb h1 h2 h3 := by
    have h := Any.slices_Sort_int lays189 blk off cap zs w hH hb (by omega)
    rw [ren189] at h
    exact h
theorem compact_le (zs : List Int) : (Lib.compact zs).length ≤ zs.length := by
  unfold Lib.compact Lib.compactUpTo
  rw [List.length_map]
  exact Nat.le_trans (List.length_filter_le _ _) (by rw [List.length_range]; exact Nat.le_refl _)
theorem compact_ok : RowFn Tryz.prog 63 compactOp where
  len zs := by show (_ ++ _ : List Int).length = _; rw [List.length_append, List.length_replicate]; have := compact_le zs; omega
  le k h zs := by injection h with h; subst h; exact compact_le zs
  enter us w := (env16_ok.1.fn 63 _ fn16_63).call us w
  calls blk off cap zs w hH hb h1 h2 h3 := by
    have h := Any.slices_Compact_int laysC20 blk off cap zs w hH (by omega) h3
    rw [ren20] at h
    refine h.mono fun e w' ⟨h1, q, h2⟩ => ⟨h1, q, #[], ?_⟩
    rw [h2, Go.Sort.grow_empty]; rfl
end Go.Proofs.YtjlhclmgjdabfaaGreat
