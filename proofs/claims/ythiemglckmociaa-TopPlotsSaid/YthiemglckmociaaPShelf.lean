/- The layouts of bits.Len and of slices.SortFunc at points in this dump, laid by the kit (shelf_lay, shelf_lay_g SlLaysF0.n6, lay-plain). No conditions. -/
import Derived.Shelf.SlGeneric
import Derived.Shelf.Small.Bits
import Derived.Shelf.SlSortCmp.SmallK
import Derived.Ground.SlsfProg
import Derived.Ground.Names2Prog
import Derived.Test.YthiemglckmociaaProg
namespace Go.Proofs
open Go.Shelf
def Try.lays125_ren : Go.Shelf.Ren := ⟨fun | 125 => 121 | 128 => 132 | 129 => 133 | n => n, fun | 46 => 101 | 3 => 3 | 51 => 112 | 53 => 114 | 4 => 4 | 5 => 5 | 9 => 9 | n => n, fun | n => n⟩
theorem Try.lays125 : Go.Proofs.Lays.n125 Try.prog Try.lays125_ren := {
  mixed := by kernel_rfl
  f125 := Try.func121.trans (congrArg some (by kernel_rfl))
  f128 := Try.func132.trans (congrArg some (by kernel_rfl))
  f129 := Try.func133.trans (congrArg some (by kernel_rfl))
  t3 := Try.underlying3
  a3 := Try.isAgg3
  z3 := Try.sizeOf3
  v3 := Try.zeroValue3
  t4 := Try.underlying4
  a4 := Try.isAgg4
  z4 := Try.sizeOf4
  v4 := Try.zeroValue4
  t5 := Try.underlying5
  a5 := Try.isAgg5
  z5 := Try.sizeOf5
  v5 := Try.zeroValue5
  t9 := Try.underlying9
  a9 := Try.isAgg9
  z9 := Try.sizeOf9
  v9 := Try.zeroValue9
  t46 := Try.underlying101
  a46 := Try.isAgg101
  z46 := Try.sizeOf101
  v46 := Try.zeroValue101
  t51 := Try.underlying112
  a51 := Try.isAgg112
  z51 := Try.sizeOf112
  v51 := Try.zeroValue112
  t53 := Try.underlying114
  a53 := Try.isAgg114
  z53 := Try.sizeOf114
  v53 := Try.zeroValue114 }
/-- bits.Len. -/
theorem Try.bits_Len (x : Int) (w : World) (h0 : 0 ≤ x) (h1 : x ≤ 18446744073709551615) :
    Calls Try.prog 121 #[.int .u64 x] w fun e w' => e = .returned (.int .i64 (Lib.bitLen x.toNat)) ∧ w' = w := Any.bits_Len Try.lays125 x w h0 h1
def Try.sortP_ren : Go.Shelf.Ren := ⟨fun | 6 => 110 | 15 => 121 | 14 => 120 | 28 => 132 | 29 => 133 | 20 => 124 | 21 => 125 | 22 => 126 | 23 => 127 | 24 => 128 | 25 => 129 | 26 => 130 | 27 => 131 | 46 => 134 | 47 => 135 | 48 => 136 | 49 => 137 | 50 => 138 | 57 => 139 | n => n, fun | 22 => 22 | 24 => 32 | 25 => 77 | 3 => 3 | 39 => 101 | 0 => 0 | 53 => 112 | 55 => 114 | 4 => 4 | 46 => 105 | 45 => 104 | 50 => 109 | 5 => 5 | 9 => 9 | 66 => 115 | 70 => 119 | 76 => 121 | 77 => 122 | n => n, fun | n => n⟩
theorem Try.sortP : Go.Proofs.SlLaysF0.n6 Try.prog Try.sortP_ren := {
  mixed := by kernel_rfl
  f6 := ⟨Try.f110.name, by decide, Try.func110.trans (congrArg some (by kernel_rfl))⟩
  f14 := ⟨Try.f120.name, by decide, Try.func120.trans (congrArg some (by kernel_rfl))⟩
  f15 := Try.func121.trans (congrArg some (by kernel_rfl))
  f20 := ⟨Try.f124.name, by decide, Try.func124.trans (congrArg some (by kernel_rfl))⟩
  f21 := ⟨Try.f125.name, by decide, Try.func125.trans (congrArg some (by kernel_rfl))⟩
  f22 := ⟨Try.f126.name, by decide, Try.func126.trans (congrArg some (by kernel_rfl))⟩
  f23 := ⟨Try.f127.name, by decide, Try.func127.trans (congrArg some (by kernel_rfl))⟩
  f24 := ⟨Try.f128.name, by decide, Try.func128.trans (congrArg some (by kernel_rfl))⟩
  f25 := ⟨Try.f129.name, by decide, Try.func129.trans (congrArg some (by kernel_rfl))⟩
  f26 := ⟨Try.f130.name, by decide, Try.func130.trans (congrArg some (by kernel_rfl))⟩
  f27 := ⟨Try.f131.name, by decide, Try.func131.trans (congrArg some (by kernel_rfl))⟩
  f28 := Try.func132.trans (congrArg some (by kernel_rfl))
  f29 := Try.func133.trans (congrArg some (by kernel_rfl))
  f46 := ⟨Try.f134.name, by decide, Try.func134.trans (congrArg some (by kernel_rfl))⟩
  f47 := Try.func135.trans (congrArg some (by kernel_rfl))
  f48 := Try.func136.trans (congrArg some (by kernel_rfl))
  f49 := ⟨Try.f137.name, by decide, Try.func137.trans (congrArg some (by kernel_rfl))⟩
  f50 := ⟨Try.f138.name, by decide, Try.func138.trans (congrArg some (by kernel_rfl))⟩
  f57 := ⟨Try.f139.name, by decide, Try.func139.trans (congrArg some (by kernel_rfl))⟩
  t0 := Try.underlying0
  a0 := Try.isAgg0
  z0 := Try.sizeOf0
  v0 := Try.zeroValue0
  t3 := Try.underlying3
  a3 := Try.isAgg3
  z3 := Try.sizeOf3
  v3 := Try.zeroValue3
  t4 := Try.underlying4
  a4 := Try.isAgg4
  z4 := Try.sizeOf4
  v4 := Try.zeroValue4
  t5 := Try.underlying5
  a5 := Try.isAgg5
  z5 := Try.sizeOf5
  v5 := Try.zeroValue5
  t9 := Try.underlying9
  a9 := Try.isAgg9
  z9 := Try.sizeOf9
  v9 := Try.zeroValue9
  t22 := Try.underlying22
  a22 := Try.isAgg22
  z22 := Try.sizeOf22
  v22 := Try.zeroValue22
  t25 := Try.underlying77
  a25 := Try.isAgg77
  z25 := Try.sizeOf77
  v25 := Try.zeroValue77
  t39 := Try.underlying101
  a39 := Try.isAgg101
  z39 := Try.sizeOf101
  v39 := Try.zeroValue101
  t45 := Try.underlying104
  a45 := Try.isAgg104
  z45 := Try.sizeOf104
  v45 := Try.zeroValue104
  t46 := Try.underlying105
  a46 := Try.isAgg105
  z46 := Try.sizeOf105
  v46 := Try.zeroValue105
  t50 := Try.underlying109
  a50 := Try.isAgg109
  z50 := Try.sizeOf109
  v50 := Try.zeroValue109
  t53 := Try.underlying112
  a53 := Try.isAgg112
  z53 := Try.sizeOf112
  v53 := Try.zeroValue112
  t55 := Try.underlying114
  a55 := Try.isAgg114
  z55 := Try.sizeOf114
  v55 := Try.zeroValue114
  t66 := Try.underlying115
  a66 := Try.isAgg115
  z66 := Try.sizeOf115
  v66 := Try.zeroValue115
  t70 := Try.underlying119
  a70 := Try.isAgg119
  z70 := Try.sizeOf119
  v70 := Try.zeroValue119
  t76 := Try.underlying121
  a76 := Try.isAgg121
  z76 := Try.sizeOf121
  v76 := Try.zeroValue121
  t77 := Try.underlying122
  a77 := Try.isAgg122
  z77 := Try.sizeOf122
  v77 := Try.zeroValue122 }
end Go.Proofs
