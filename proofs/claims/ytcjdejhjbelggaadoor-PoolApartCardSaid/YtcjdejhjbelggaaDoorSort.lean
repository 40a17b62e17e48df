/- slices.Sort at ints: the library's contract laid at this program (by the kit's lay-shelf and lay-plain; numbers by name). -/
import Derived.Ground.SlgmProg
import Derived.Shelf.SortM.Plain
import Derived.Shelf.SortM.SortNone
import Derived.Test.YtcjdejhjbelggaaDoorProg
namespace Go.Proofs.YtcjdejhjbelggaaDoor
open Go.Shelf
def Tryd.laysSlM5_f37_ren : Go.Shelf.Ren := ⟨fun | 5 => 37 | 8 => 59 | 7 => 58 | 19 => 91 | 20 => 92 | 10 => 82 | 11 => 83 | 12 => 84 | 13 => 85 | 14 => 86 | 15 => 87 | 16 => 88 | 17 => 89 | 18 => 90 | 30 => 101 | 31 => 102 | 32 => 103 | 33 => 104 | 34 => 105 | 35 => 106 | 40 => 115 | n => n, fun | 23 => 31 | 25 => 3 | 3 => 3 | 32 => 27 | 22 => 31 | 0 => 0 | 44 => 145 | 46 => 54 | 4 => 4 | 36 => 138 | 35 => 137 | 41 => 142 | 5 => 5 | 9 => 9 | 53 => 157 | 57 => 161 | 63 => 167 | 64 => 168 | n => n, fun | n => n⟩
theorem Tryd.laysSlM5_f37 : Go.Proofs.SlLaysM.n5 Tryd.prog Tryd.laysSlM5_f37_ren := {
  mixed := by kernel_rfl
  f5 := ⟨Tryd.f37.name, by decide, Tryd.func37.trans (congrArg some (by kernel_rfl))⟩
  f7 := ⟨Tryd.f58.name, by decide, Tryd.func58.trans (congrArg some (by kernel_rfl))⟩
  f8 := Tryd.func59.trans (congrArg some (by kernel_rfl))
  f10 := ⟨Tryd.f82.name, by decide, Tryd.func82.trans (congrArg some (by kernel_rfl))⟩
  f11 := ⟨Tryd.f83.name, by decide, Tryd.func83.trans (congrArg some (by kernel_rfl))⟩
  f12 := ⟨Tryd.f84.name, by decide, Tryd.func84.trans (congrArg some (by kernel_rfl))⟩
  f13 := ⟨Tryd.f85.name, by decide, Tryd.func85.trans (congrArg some (by kernel_rfl))⟩
  f14 := ⟨Tryd.f86.name, by decide, Tryd.func86.trans (congrArg some (by kernel_rfl))⟩
  f15 := ⟨Tryd.f87.name, by decide, Tryd.func87.trans (congrArg some (by kernel_rfl))⟩
  f16 := ⟨Tryd.f88.name, by decide, Tryd.func88.trans (congrArg some (by kernel_rfl))⟩
  f17 := ⟨Tryd.f89.name, by decide, Tryd.func89.trans (congrArg some (by kernel_rfl))⟩
  f18 := ⟨Tryd.f90.name, by decide, Tryd.func90.trans (congrArg some (by kernel_rfl))⟩
  f19 := Tryd.func91.trans (congrArg some (by kernel_rfl))
  f20 := Tryd.func92.trans (congrArg some (by kernel_rfl))
  f30 := ⟨Tryd.f101.name, by decide, Tryd.func101.trans (congrArg some (by kernel_rfl))⟩
  f31 := Tryd.func102.trans (congrArg some (by kernel_rfl))
  f32 := Tryd.func103.trans (congrArg some (by kernel_rfl))
  f33 := ⟨Tryd.f104.name, by decide, Tryd.func104.trans (congrArg some (by kernel_rfl))⟩
  f34 := ⟨Tryd.f105.name, by decide, Tryd.func105.trans (congrArg some (by kernel_rfl))⟩
  f35 := ⟨Tryd.f106.name, by decide, Tryd.func106.trans (congrArg some (by kernel_rfl))⟩
  f40 := ⟨Tryd.f115.name, by decide, Tryd.func115.trans (congrArg some (by kernel_rfl))⟩
  t0 := Tryd.underlying0
  a0 := Tryd.isAgg0
  z0 := Tryd.sizeOf0
  v0 := Tryd.zeroValue0
  t3 := Tryd.underlying3
  a3 := Tryd.isAgg3
  z3 := Tryd.sizeOf3
  v3 := Tryd.zeroValue3
  t4 := Tryd.underlying4
  a4 := Tryd.isAgg4
  z4 := Tryd.sizeOf4
  v4 := Tryd.zeroValue4
  t5 := Tryd.underlying5
  a5 := Tryd.isAgg5
  z5 := Tryd.sizeOf5
  v5 := Tryd.zeroValue5
  t9 := Tryd.underlying9
  a9 := Tryd.isAgg9
  z9 := Tryd.sizeOf9
  v9 := Tryd.zeroValue9
  t22 := Tryd.underlying31
  a22 := Tryd.isAgg31
  z22 := Tryd.sizeOf31
  v22 := Tryd.zeroValue31
  t23 := Tryd.underlying31
  a23 := Tryd.isAgg31
  z23 := Tryd.sizeOf31
  v23 := Tryd.zeroValue31
  t25 := Tryd.underlying3
  a25 := Tryd.isAgg3
  z25 := Tryd.sizeOf3
  v25 := Tryd.zeroValue3
  t32 := Tryd.underlying27
  a32 := Tryd.isAgg27
  z32 := Tryd.sizeOf27
  v32 := Tryd.zeroValue27
  t35 := Tryd.underlying137
  a35 := Tryd.isAgg137
  z35 := Tryd.sizeOf137
  v35 := Tryd.zeroValue137
  t36 := Tryd.underlying138
  a36 := Tryd.isAgg138
  z36 := Tryd.sizeOf138
  v36 := Tryd.zeroValue138
  t41 := Tryd.underlying142
  a41 := Tryd.isAgg142
  z41 := Tryd.sizeOf142
  v41 := Tryd.zeroValue142
  t44 := Tryd.underlying145
  a44 := Tryd.isAgg145
  z44 := Tryd.sizeOf145
  v44 := Tryd.zeroValue145
  t46 := Tryd.underlying54
  a46 := Tryd.isAgg54
  z46 := Tryd.sizeOf54
  v46 := Tryd.zeroValue54
  t53 := Tryd.underlying157
  a53 := Tryd.isAgg157
  z53 := Tryd.sizeOf157
  v53 := Tryd.zeroValue157
  t57 := Tryd.underlying161
  a57 := Tryd.isAgg161
  z57 := Tryd.sizeOf161
  v57 := Tryd.zeroValue161
  t63 := Tryd.underlying167
  a63 := Tryd.isAgg167
  z63 := Tryd.sizeOf167
  v63 := Tryd.zeroValue167
  t64 := Tryd.underlying168
  a64 := Tryd.isAgg168
  z64 := Tryd.sizeOf168
  v64 := Tryd.zeroValue168 }
open Go.Sort Go.RowKit in
theorem Tryd.slices_Sort_int (blk off cap : Nat) (zs : List Int) (w : World) (hH : Holds (Value.int .i64) w blk off zs.toArray) (hblk : blk < w.heap.size) (hsz : zs.length < 4611686018427387904) :
    Calls Tryd.prog 37 #[.slice (some ⟨blk, off, none⟩) zs.length cap] w fun e w' =>
      e = .returned (.tuple #[]) ∧ ∃ n os, w' = grow (putRow (Value.int .i64) (Sort.ahead w n) blk off (zs.mergeSort fun x y => decide (x ≤ y)).toArray) os := AnyM.slices_Sort_int Tryd.laysSlM5_f37 blk off cap zs w hH hblk hsz
open Go.RowKit Go.Sort in
/-- .. and plain. (LAID AT THE INSTANCE 'slices.Sort[[]int,int]': no walk: one application.) -/
theorem Tryd.slices_Sort_int_none (p : Option Addr) (cap : Nat) (w : World) :
    Calls Tryd.prog 37 #[.slice p 0 cap] w fun e w' => e = .returned (.tuple #[]) ∧ w' = w := AnyM.slices_Sort_int_none Tryd.laysSlM5_f37 p cap w
end Go.Proofs.YtcjdejhjbelggaaDoor
