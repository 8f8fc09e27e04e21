/-
  DERIVED: THE SHELF's CONTRACTS AT THIS DUMP, IN PLAIN WORDS (tools/lay-plain.mjs out of 'YtpnkaggkedepeaaTmShelf.lean', which tools/lay-shelf.mjs wrote): THE SAME DECLARATIONS UNDER THE SAME NAMES: 'import', 'namespace', 'open', 'def', 'theorem' AND NOTHING ELSE: no command of the shelf's: FOR A HAND-IN. Each laying: the table of numbers ('.._ren') and one theorem, a field a fact of the dump's own or the kernel's comparison; each contract: ONE APPLICATION.
-/
import Derived.Shelf.SlIterI.Nil
import Derived.Shelf.SlIterI.Stops
import Derived.Shelf.SortM.Plain
import Derived.Shelf.SortM.SortNone
import Derived.Ground.GgzProg
import Derived.Ground.SlgmProg
import Derived.Shelf.SlGeneric
import Derived.Test.YtpnkaggkedepeaaProg
namespace Go.Proofs
open Go.Shelf
def Try.keys62_ren : Go.Shelf.Ren := ⟨fun | 7 => 62 | 10 => 80 | n => n, fun | 23 => 81 | 26 => 2 | 3 => 24 | 28 => 84 | 0 => 0 | 27 => 83 | 33 => 103 | 4 => 4 | n => n, fun | n => n⟩
theorem Try.keys62 : Go.Proofs.SlLaysZI.n7 Try.prog Try.keys62_ren := {
  mixed := by kernel_rfl
  f7 := ⟨Try.f62.name, by decide, Try.func62.trans (congrArg some (by kernel_rfl))⟩
  f10 := ⟨Try.f80.name, by decide, Try.func80.trans (congrArg some (by kernel_rfl))⟩
  t0 := Try.underlying0
  a0 := Try.isAgg0
  z0 := Try.sizeOf0
  v0 := Try.zeroValue0
  t4 := Try.underlying4
  a4 := Try.isAgg4
  z4 := Try.sizeOf4
  v4 := Try.zeroValue4
  t23 := Try.underlying81
  a23 := Try.isAgg81
  z23 := Try.sizeOf81
  v23 := Try.zeroValue81
  t26 := Try.underlying2
  a26 := Try.isAgg2
  z26 := Try.sizeOf2
  v26 := Try.zeroValue2
  t27 := Try.underlying83
  a27 := Try.isAgg83
  z27 := Try.sizeOf83
  v27 := Try.zeroValue83
  t28 := Try.underlying84
  a28 := Try.isAgg84
  z28 := Try.sizeOf84
  v28 := Try.zeroValue84
  t33 := Try.underlying103
  a33 := Try.isAgg103
  z33 := Try.sizeOf103
  v33 := Try.zeroValue103 }
def Try.sorted61_ren : Go.Shelf.Ren := ⟨fun | 6 => 61 | 8 => 78 | 9 => 79 | 11 => 88 | 13 => 90 | 12 => 89 | 23 => 102 | 24 => 103 | 14 => 93 | 15 => 94 | 16 => 95 | 17 => 96 | 18 => 97 | 19 => 98 | 20 => 99 | 21 => 100 | 22 => 101 | 25 => 104 | 26 => 105 | 27 => 106 | 28 => 107 | 29 => 108 | 30 => 84 | 31 => 109 | n => n, fun | 26 => 2 | 28 => 84 | 24 => 30 | 0 => 0 | 3 => 3 | 37 => 111 | 48 => 122 | 50 => 124 | 4 => 4 | 40 => 115 | 39 => 114 | 45 => 70 | 5 => 5 | 9 => 9 | 51 => 125 | 55 => 72 | 57 => 130 | 58 => 131 | 33 => 103 | n => n, fun | n => n⟩
theorem Try.sorted61 : Go.Proofs.SlLaysZI.n6 Try.prog Try.sorted61_ren := {
  mixed := by kernel_rfl
  f6 := ⟨Try.f61.name, by decide, Try.func61.trans (congrArg some (by kernel_rfl))⟩
  f8 := ⟨Try.f78.name, by decide, Try.func78.trans (congrArg some (by kernel_rfl))⟩
  f11 := ⟨Try.f88.name, by decide, Try.func88.trans (congrArg some (by kernel_rfl))⟩
  t0 := Try.underlying0
  a0 := Try.isAgg0
  z0 := Try.sizeOf0
  v0 := Try.zeroValue0
  t24 := Try.underlying30
  a24 := Try.isAgg30
  z24 := Try.sizeOf30
  v24 := Try.zeroValue30
  t26 := Try.underlying2
  a26 := Try.isAgg2
  z26 := Try.sizeOf2
  v26 := Try.zeroValue2
  t28 := Try.underlying84
  a28 := Try.isAgg84
  z28 := Try.sizeOf84
  v28 := Try.zeroValue84
  i26 := by kernel_rfl }
def Try.sort79_ren : Go.Shelf.Ren := ⟨fun | 5 => 79 | 8 => 90 | 7 => 89 | 19 => 102 | 20 => 103 | 10 => 93 | 11 => 94 | 12 => 95 | 13 => 96 | 14 => 97 | 15 => 98 | 16 => 99 | 17 => 100 | 18 => 101 | 30 => 104 | 31 => 105 | 32 => 106 | 33 => 107 | 34 => 108 | 35 => 84 | 40 => 109 | n => n, fun | 23 => 30 | 25 => 2 | 3 => 3 | 32 => 111 | 22 => 30 | 0 => 0 | 44 => 122 | 46 => 124 | 4 => 4 | 36 => 115 | 35 => 114 | 41 => 70 | 5 => 5 | 9 => 9 | 53 => 125 | 57 => 72 | 63 => 130 | 64 => 131 | n => n, fun | n => n⟩
theorem Try.sort79 : Go.Proofs.SlLaysM.n5 Try.prog Try.sort79_ren := {
  mixed := by kernel_rfl
  f5 := ⟨Try.f79.name, by decide, Try.func79.trans (congrArg some (by kernel_rfl))⟩
  f7 := ⟨Try.f89.name, by decide, Try.func89.trans (congrArg some (by kernel_rfl))⟩
  f8 := Try.func90.trans (congrArg some (by kernel_rfl))
  f10 := ⟨Try.f93.name, by decide, Try.func93.trans (congrArg some (by kernel_rfl))⟩
  f11 := ⟨Try.f94.name, by decide, Try.func94.trans (congrArg some (by kernel_rfl))⟩
  f12 := ⟨Try.f95.name, by decide, Try.func95.trans (congrArg some (by kernel_rfl))⟩
  f13 := ⟨Try.f96.name, by decide, Try.func96.trans (congrArg some (by kernel_rfl))⟩
  f14 := ⟨Try.f97.name, by decide, Try.func97.trans (congrArg some (by kernel_rfl))⟩
  f15 := ⟨Try.f98.name, by decide, Try.func98.trans (congrArg some (by kernel_rfl))⟩
  f16 := ⟨Try.f99.name, by decide, Try.func99.trans (congrArg some (by kernel_rfl))⟩
  f17 := ⟨Try.f100.name, by decide, Try.func100.trans (congrArg some (by kernel_rfl))⟩
  f18 := ⟨Try.f101.name, by decide, Try.func101.trans (congrArg some (by kernel_rfl))⟩
  f19 := Try.func102.trans (congrArg some (by kernel_rfl))
  f20 := Try.func103.trans (congrArg some (by kernel_rfl))
  f30 := ⟨Try.f104.name, by decide, Try.func104.trans (congrArg some (by kernel_rfl))⟩
  f31 := Try.func105.trans (congrArg some (by kernel_rfl))
  f32 := Try.func106.trans (congrArg some (by kernel_rfl))
  f33 := ⟨Try.f107.name, by decide, Try.func107.trans (congrArg some (by kernel_rfl))⟩
  f34 := ⟨Try.f108.name, by decide, Try.func108.trans (congrArg some (by kernel_rfl))⟩
  f35 := ⟨Try.f84.name, by decide, Try.func84.trans (congrArg some (by kernel_rfl))⟩
  f40 := ⟨Try.f109.name, by decide, Try.func109.trans (congrArg some (by kernel_rfl))⟩
  t0 := Try.underlying0
  a0 := Try.isAgg0
  z0 := Try.sizeOf0
  v0 := Try.zeroValue0
  t3 := Try.underlying3
  a3 := Try.isAgg3
  z3 := Try.sizeOf3
  v3 := Try.zeroValue3
  t4 := Try.underlying4
  a4 := Try.isAgg4
  z4 := Try.sizeOf4
  v4 := Try.zeroValue4
  t5 := Try.underlying5
  a5 := Try.isAgg5
  z5 := Try.sizeOf5
  v5 := Try.zeroValue5
  t9 := Try.underlying9
  a9 := Try.isAgg9
  z9 := Try.sizeOf9
  v9 := Try.zeroValue9
  t22 := Try.underlying30
  a22 := Try.isAgg30
  z22 := Try.sizeOf30
  v22 := Try.zeroValue30
  t23 := Try.underlying30
  a23 := Try.isAgg30
  z23 := Try.sizeOf30
  v23 := Try.zeroValue30
  t25 := Try.underlying2
  a25 := Try.isAgg2
  z25 := Try.sizeOf2
  v25 := Try.zeroValue2
  t32 := Try.underlying111
  a32 := Try.isAgg111
  z32 := Try.sizeOf111
  v32 := Try.zeroValue111
  t35 := Try.underlying114
  a35 := Try.isAgg114
  z35 := Try.sizeOf114
  v35 := Try.zeroValue114
  t36 := Try.underlying115
  a36 := Try.isAgg115
  z36 := Try.sizeOf115
  v36 := Try.zeroValue115
  t41 := Try.underlying70
  a41 := Try.isAgg70
  z41 := Try.sizeOf70
  v41 := Try.zeroValue70
  t44 := Try.underlying122
  a44 := Try.isAgg122
  z44 := Try.sizeOf122
  v44 := Try.zeroValue122
  t46 := Try.underlying124
  a46 := Try.isAgg124
  z46 := Try.sizeOf124
  v46 := Try.zeroValue124
  t53 := Try.underlying125
  a53 := Try.isAgg125
  z53 := Try.sizeOf125
  v53 := Try.zeroValue125
  t57 := Try.underlying72
  a57 := Try.isAgg72
  z57 := Try.sizeOf72
  v57 := Try.zeroValue72
  t63 := Try.underlying130
  a63 := Try.isAgg130
  z63 := Try.sizeOf130
  v63 := Try.zeroValue130
  t64 := Try.underlying131
  a64 := Try.isAgg131
  z64 := Try.sizeOf131
  v64 := Try.zeroValue131 }
end Go.Proofs
