/-
  DERIVED: THE SHELF's CONTRACTS AT THIS DUMP, IN PLAIN WORDS (tools/lay-plain.mjs out of 'YtialafoofjgchaaShelf.lean', which tools/lay-shelf.mjs wrote): THE SAME DECLARATIONS UNDER THE SAME NAMES: 'import', 'namespace', 'open', 'def', 'theorem' AND NOTHING ELSE: no command of the shelf's: FOR A HAND-IN. Each laying: the table of numbers ('.._ren') and one theorem, a field a fact of the dump's own or the kernel's comparison; each contract: ONE APPLICATION.
-/
import Derived.Shelf.SlGeneric
import Derived.Shelf.SortM.Plain
import Derived.Shelf.SortM.SortNone
import Derived.Ground.SlgmProg
import Derived.Test.YtialafoofjgchaaProg
namespace Go.Proofs
open Go.Shelf
def Try.sortErrnoLays_ren : Go.Shelf.Ren := ⟨fun | 5 => 27 | 8 => 33 | 7 => 32 | 19 => 47 | 20 => 48 | 10 => 38 | 11 => 39 | 12 => 40 | 13 => 41 | 14 => 42 | 15 => 43 | 16 => 44 | 17 => 45 | 18 => 46 | 30 => 50 | 31 => 51 | 32 => 52 | 33 => 53 | 34 => 54 | 35 => 55 | 40 => 56 | n => n, fun | 23 => 35 | 25 => 26 | 3 => 3 | 32 => 85 | 22 => 35 | 0 => 0 | 44 => 29 | 46 => 58 | 4 => 4 | 36 => 96 | 35 => 95 | 41 => 101 | 5 => 5 | 9 => 9 | 53 => 106 | 57 => 109 | 63 => 112 | 64 => 113 | n => n, fun | n => n⟩
theorem Try.sortErrnoLays : Go.Proofs.SlLaysM.n5 Try.prog Try.sortErrnoLays_ren := {
  mixed := by kernel_rfl
  f5 := ⟨Try.f27.name, by decide, Try.func27.trans (congrArg some (by kernel_rfl))⟩
  f7 := ⟨Try.f32.name, by decide, Try.func32.trans (congrArg some (by kernel_rfl))⟩
  f8 := Try.func33.trans (congrArg some (by kernel_rfl))
  f10 := ⟨Try.f38.name, by decide, Try.func38.trans (congrArg some (by kernel_rfl))⟩
  f11 := ⟨Try.f39.name, by decide, Try.func39.trans (congrArg some (by kernel_rfl))⟩
  f12 := ⟨Try.f40.name, by decide, Try.func40.trans (congrArg some (by kernel_rfl))⟩
  f13 := ⟨Try.f41.name, by decide, Try.func41.trans (congrArg some (by kernel_rfl))⟩
  f14 := ⟨Try.f42.name, by decide, Try.func42.trans (congrArg some (by kernel_rfl))⟩
  f15 := ⟨Try.f43.name, by decide, Try.func43.trans (congrArg some (by kernel_rfl))⟩
  f16 := ⟨Try.f44.name, by decide, Try.func44.trans (congrArg some (by kernel_rfl))⟩
  f17 := ⟨Try.f45.name, by decide, Try.func45.trans (congrArg some (by kernel_rfl))⟩
  f18 := ⟨Try.f46.name, by decide, Try.func46.trans (congrArg some (by kernel_rfl))⟩
  f19 := Try.func47.trans (congrArg some (by kernel_rfl))
  f20 := Try.func48.trans (congrArg some (by kernel_rfl))
  f30 := ⟨Try.f50.name, by decide, Try.func50.trans (congrArg some (by kernel_rfl))⟩
  f31 := Try.func51.trans (congrArg some (by kernel_rfl))
  f32 := Try.func52.trans (congrArg some (by kernel_rfl))
  f33 := ⟨Try.f53.name, by decide, Try.func53.trans (congrArg some (by kernel_rfl))⟩
  f34 := ⟨Try.f54.name, by decide, Try.func54.trans (congrArg some (by kernel_rfl))⟩
  f35 := ⟨Try.f55.name, by decide, Try.func55.trans (congrArg some (by kernel_rfl))⟩
  f40 := ⟨Try.f56.name, by decide, Try.func56.trans (congrArg some (by kernel_rfl))⟩
  t0 := Try.underlying0
  a0 := Try.isAgg0
  z0 := Try.sizeOf0
  v0 := Try.zeroValue0
  t3 := Try.underlying3
  a3 := Try.isAgg3
  z3 := Try.sizeOf3
  v3 := Try.zeroValue3
  t4 := Try.underlying4
  a4 := Try.isAgg4
  z4 := Try.sizeOf4
  v4 := Try.zeroValue4
  t5 := Try.underlying5
  a5 := Try.isAgg5
  z5 := Try.sizeOf5
  v5 := Try.zeroValue5
  t9 := Try.underlying9
  a9 := Try.isAgg9
  z9 := Try.sizeOf9
  v9 := Try.zeroValue9
  t22 := Try.underlying35
  a22 := Try.isAgg35
  z22 := Try.sizeOf35
  v22 := Try.zeroValue35
  t23 := Try.underlying35
  a23 := Try.isAgg35
  z23 := Try.sizeOf35
  v23 := Try.zeroValue35
  t25 := Try.underlying26
  a25 := Try.isAgg26
  z25 := Try.sizeOf26
  v25 := Try.zeroValue26
  t32 := Try.underlying85
  a32 := Try.isAgg85
  z32 := Try.sizeOf85
  v32 := Try.zeroValue85
  t35 := Try.underlying95
  a35 := Try.isAgg95
  z35 := Try.sizeOf95
  v35 := Try.zeroValue95
  t36 := Try.underlying96
  a36 := Try.isAgg96
  z36 := Try.sizeOf96
  v36 := Try.zeroValue96
  t41 := Try.underlying101
  a41 := Try.isAgg101
  z41 := Try.sizeOf101
  v41 := Try.zeroValue101
  t44 := Try.underlying29
  a44 := Try.isAgg29
  z44 := Try.sizeOf29
  v44 := Try.zeroValue29
  t46 := Try.underlying58
  a46 := Try.isAgg58
  z46 := Try.sizeOf58
  v46 := Try.zeroValue58
  t53 := Try.underlying106
  a53 := Try.isAgg106
  z53 := Try.sizeOf106
  v53 := Try.zeroValue106
  t57 := Try.underlying109
  a57 := Try.isAgg109
  z57 := Try.sizeOf109
  v57 := Try.zeroValue109
  t63 := Try.underlying112
  a63 := Try.isAgg112
  z63 := Try.sizeOf112
  v63 := Try.zeroValue112
  t64 := Try.underlying113
  a64 := Try.isAgg113
  z64 := Try.sizeOf113
  v64 := Try.zeroValue113 }
end Go.Proofs
