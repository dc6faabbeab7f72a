/- slices.Sort at int sorts an own list. -/
import Derived.Test.YtlagfebklcaaeaaA26
import Derived.Test.YtlagfebklcaaeaaTpCom
import Derived.Shelf.Sort.Plain
import Derived.Shelf.Slices.In.SortNone
namespace Go.Proofs.Ytlagfebklcaaeaa
set_option linter.all false
open Go.Shelf
def lays189_ren : Go.Shelf.Ren := ⟨fun | 189 => 11 | 125 => 41 | 257 => 40 | 128 => 94 | 129 => 95 | 294 => 85 | 295 => 86 | 296 => 87 | 297 => 88 | 298 => 89 | 299 => 90 | 216 => 91 | 300 => 92 | 301 => 93 | 328 => 123 | 329 => 124 | 330 => 125 | 331 => 126 | 332 => 127 | 215 => 99 | 343 => 165 | n => n, fun | 28 => 34 | 3 => 3 | 46 => 86 | 0 => 0 | 51 => 158 | 53 => 161 | 4 => 4 | 183 => 166 | 182 => 165 | 131 => 39 | 5 => 5 | 9 => 9 | 218 => 213 | 222 => 217 | 228 => 247 | 229 => 116 | n => n, fun | n => n⟩
theorem lays189 : Go.Proofs.Lays.n189 Try.prog lays189_ren := {
  mixed := by kernel_rfl
  f125 := Try.func41.trans (congrArg some (by kernel_rfl))
  f128 := Try.func94.trans (congrArg some (by kernel_rfl))
  f129 := Try.func95.trans (congrArg some (by kernel_rfl))
  f189 := Try.func11.trans (congrArg some (by kernel_rfl))
  f215 := Try.func99.trans (congrArg some (by kernel_rfl))
  f216 := Try.func91.trans (congrArg some (by kernel_rfl))
  f257 := Try.func40.trans (congrArg some (by kernel_rfl))
  f294 := Try.func85.trans (congrArg some (by kernel_rfl))
  f295 := Try.func86.trans (congrArg some (by kernel_rfl))
  f296 := Try.func87.trans (congrArg some (by kernel_rfl))
  f297 := Try.func88.trans (congrArg some (by kernel_rfl))
  f298 := Try.func89.trans (congrArg some (by kernel_rfl))
  f299 := Try.func90.trans (congrArg some (by kernel_rfl))
  f300 := Try.func92.trans (congrArg some (by kernel_rfl))
  f301 := Try.func93.trans (congrArg some (by kernel_rfl))
  f328 := Try.func123.trans (congrArg some (by kernel_rfl))
  f329 := Try.func124.trans (congrArg some (by kernel_rfl))
  f330 := Try.func125.trans (congrArg some (by kernel_rfl))
  f331 := Try.func126.trans (congrArg some (by kernel_rfl))
  f332 := Try.func127.trans (congrArg some (by kernel_rfl))
  f343 := Try.func165.trans (congrArg some (by kernel_rfl))
  t0 := Try.underlying0
  a0 := Try.isAgg0
  z0 := Try.sizeOf0
  v0 := Try.zeroValue0
  t3 := Try.underlying3
  a3 := Try.isAgg3
  z3 := Try.sizeOf3
  v3 := Try.zeroValue3
  t4 := Try.underlying4
  a4 := Try.isAgg4
  z4 := Try.sizeOf4
  v4 := Try.zeroValue4
  t5 := Try.underlying5
  a5 := Try.isAgg5
  z5 := Try.sizeOf5
  v5 := Try.zeroValue5
  t9 := Try.underlying9
  a9 := Try.isAgg9
  z9 := Try.sizeOf9
  v9 := Try.zeroValue9
  t28 := Try.underlying34
  a28 := Try.isAgg34
  z28 := Try.sizeOf34
  v28 := Try.zeroValue34
  t46 := Try.underlying86
  a46 := Try.isAgg86
  z46 := Try.sizeOf86
  v46 := Try.zeroValue86
  t51 := Try.underlying158
  a51 := Try.isAgg158
  z51 := Try.sizeOf158
  v51 := Try.zeroValue158
  t53 := Try.underlying161
  a53 := Try.isAgg161
  z53 := Try.sizeOf161
  v53 := Try.zeroValue161
  t131 := Try.underlying39
  a131 := Try.isAgg39
  z131 := Try.sizeOf39
  v131 := Try.zeroValue39
  t182 := Try.underlying165
  a182 := Try.isAgg165
  z182 := Try.sizeOf165
  v182 := Try.zeroValue165
  t183 := Try.underlying166
  a183 := Try.isAgg166
  z183 := Try.sizeOf166
  v183 := Try.zeroValue166
  t218 := Try.underlying213
  a218 := Try.isAgg213
  z218 := Try.sizeOf213
  v218 := Try.zeroValue213
  t222 := Try.underlying217
  a222 := Try.isAgg217
  z222 := Try.sizeOf217
  v222 := Try.zeroValue217
  t228 := Try.underlying247
  a228 := Try.isAgg247
  z228 := Try.sizeOf247
  v228 := Try.zeroValue247
  t229 := Try.underlying116
  a229 := Try.isAgg116
  z229 := Try.sizeOf116
  v229 := Try.zeroValue116 }
theorem sort_ok (l : List Int) (H : Heap) (b : Nat) (f : Bool) (hl : l.length ≤ 1048576) (hb : blkOf H b = some ⟨3, 1, l.map iC, 0⟩) :
    AC Try.prog 11 H [.osl b 0 l.length f] fun r H1 => r = .tup [] ∧ H1 = H.set b (some ⟨3, 1, (l.mergeSort fun x y => decide (x ≤ y)).map iC, 0⟩) :=
  sort_ac (by kernel_rfl) hb (by omega) (fun p cap w => Any.slices_Sort_int_none lays189 p cap w) (fun blk off cap w hH hlt => Any.slices_Sort_int lays189 blk off cap l w hH hlt (by omega))
end Go.Proofs.Ytlagfebklcaaeaa
