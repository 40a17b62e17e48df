/- slices.Sort at ints: the library's contract laid at this program (by the kit's lay-shelf and lay-plain; numbers by name). -/
import Derived.Ground.SlgmProg
import Derived.Shelf.SortM.Plain
import Derived.Shelf.SortM.SortNone
import Derived.Test.YtanodjaeencmkaaGreatDoorProg
namespace Go.Proofs.YtanodjaeencmkaaGreatDoor
open Go.Shelf
def Tryz.laysSlM5_f37_ren : Go.Shelf.Ren := ⟨fun | 5 => 129 | 8 => 172 | 7 => 171 | 19 => 200 | 20 => 201 | 10 => 191 | 11 => 192 | 12 => 193 | 13 => 194 | 14 => 195 | 15 => 196 | 16 => 197 | 17 => 198 | 18 => 199 | 30 => 205 | 31 => 206 | 32 => 207 | 33 => 208 | 34 => 209 | 35 => 210 | 40 => 211 | n => n, fun | 23 => 24 | 25 => 3 | 3 => 3 | 32 => 50 | 22 => 24 | 0 => 0 | 44 => 236 | 46 => 182 | 4 => 4 | 36 => 230 | 35 => 229 | 41 => 101 | 5 => 5 | 9 => 9 | 53 => 238 | 57 => 242 | 63 => 244 | 64 => 245 | n => n, fun | n => n⟩
theorem Tryz.laysSlM5_f37 : Go.Proofs.SlLaysM.n5 Tryz.prog Tryz.laysSlM5_f37_ren := {
  mixed := by kernel_rfl
  f5 := ⟨Tryz.f129.name, by decide, Tryz.func129.trans (congrArg some (by kernel_rfl))⟩
  f7 := ⟨Tryz.f171.name, by decide, Tryz.func171.trans (congrArg some (by kernel_rfl))⟩
  f8 := Tryz.func172.trans (congrArg some (by kernel_rfl))
  f10 := ⟨Tryz.f191.name, by decide, Tryz.func191.trans (congrArg some (by kernel_rfl))⟩
  f11 := ⟨Tryz.f192.name, by decide, Tryz.func192.trans (congrArg some (by kernel_rfl))⟩
  f12 := ⟨Tryz.f193.name, by decide, Tryz.func193.trans (congrArg some (by kernel_rfl))⟩
  f13 := ⟨Tryz.f194.name, by decide, Tryz.func194.trans (congrArg some (by kernel_rfl))⟩
  f14 := ⟨Tryz.f195.name, by decide, Tryz.func195.trans (congrArg some (by kernel_rfl))⟩
  f15 := ⟨Tryz.f196.name, by decide, Tryz.func196.trans (congrArg some (by kernel_rfl))⟩
  f16 := ⟨Tryz.f197.name, by decide, Tryz.func197.trans (congrArg some (by kernel_rfl))⟩
  f17 := ⟨Tryz.f198.name, by decide, Tryz.func198.trans (congrArg some (by kernel_rfl))⟩
  f18 := ⟨Tryz.f199.name, by decide, Tryz.func199.trans (congrArg some (by kernel_rfl))⟩
  f19 := Tryz.func200.trans (congrArg some (by kernel_rfl))
  f20 := Tryz.func201.trans (congrArg some (by kernel_rfl))
  f30 := ⟨Tryz.f205.name, by decide, Tryz.func205.trans (congrArg some (by kernel_rfl))⟩
  f31 := Tryz.func206.trans (congrArg some (by kernel_rfl))
  f32 := Tryz.func207.trans (congrArg some (by kernel_rfl))
  f33 := ⟨Tryz.f208.name, by decide, Tryz.func208.trans (congrArg some (by kernel_rfl))⟩
  f34 := ⟨Tryz.f209.name, by decide, Tryz.func209.trans (congrArg some (by kernel_rfl))⟩
  f35 := ⟨Tryz.f210.name, by decide, Tryz.func210.trans (congrArg some (by kernel_rfl))⟩
  f40 := ⟨Tryz.f211.name, by decide, Tryz.func211.trans (congrArg some (by kernel_rfl))⟩
  t0 := Tryz.underlying0
  a0 := Tryz.isAgg0
  z0 := Tryz.sizeOf0
  v0 := Tryz.zeroValue0
  t3 := Tryz.underlying3
  a3 := Tryz.isAgg3
  z3 := Tryz.sizeOf3
  v3 := Tryz.zeroValue3
  t4 := Tryz.underlying4
  a4 := Tryz.isAgg4
  z4 := Tryz.sizeOf4
  v4 := Tryz.zeroValue4
  t5 := Tryz.underlying5
  a5 := Tryz.isAgg5
  z5 := Tryz.sizeOf5
  v5 := Tryz.zeroValue5
  t9 := Tryz.underlying9
  a9 := Tryz.isAgg9
  z9 := Tryz.sizeOf9
  v9 := Tryz.zeroValue9
  t22 := Tryz.underlying24
  a22 := Tryz.isAgg24
  z22 := Tryz.sizeOf24
  v22 := Tryz.zeroValue24
  t23 := Tryz.underlying24
  a23 := Tryz.isAgg24
  z23 := Tryz.sizeOf24
  v23 := Tryz.zeroValue24
  t25 := Tryz.underlying3
  a25 := Tryz.isAgg3
  z25 := Tryz.sizeOf3
  v25 := Tryz.zeroValue3
  t32 := Tryz.underlying50
  a32 := Tryz.isAgg50
  z32 := Tryz.sizeOf50
  v32 := Tryz.zeroValue50
  t35 := Tryz.underlying229
  a35 := Tryz.isAgg229
  z35 := Tryz.sizeOf229
  v35 := Tryz.zeroValue229
  t36 := Tryz.underlying230
  a36 := Tryz.isAgg230
  z36 := Tryz.sizeOf230
  v36 := Tryz.zeroValue230
  t41 := Tryz.underlying101
  a41 := Tryz.isAgg101
  z41 := Tryz.sizeOf101
  v41 := Tryz.zeroValue101
  t44 := Tryz.underlying236
  a44 := Tryz.isAgg236
  z44 := Tryz.sizeOf236
  v44 := Tryz.zeroValue236
  t46 := Tryz.underlying182
  a46 := Tryz.isAgg182
  z46 := Tryz.sizeOf182
  v46 := Tryz.zeroValue182
  t53 := Tryz.underlying238
  a53 := Tryz.isAgg238
  z53 := Tryz.sizeOf238
  v53 := Tryz.zeroValue238
  t57 := Tryz.underlying242
  a57 := Tryz.isAgg242
  z57 := Tryz.sizeOf242
  v57 := Tryz.zeroValue242
  t63 := Tryz.underlying244
  a63 := Tryz.isAgg244
  z63 := Tryz.sizeOf244
  v63 := Tryz.zeroValue244
  t64 := Tryz.underlying245
  a64 := Tryz.isAgg245
  z64 := Tryz.sizeOf245
  v64 := Tryz.zeroValue245 }
open Go.Sort Go.RowKit in
theorem Tryz.slices_Sort_int (blk off cap : Nat) (zs : List Int) (w : World) (hH : Holds (Value.int .i64) w blk off zs.toArray) (hblk : blk < w.heap.size) (hsz : zs.length < 4611686018427387904) :
    Calls Tryz.prog 129 #[.slice (some ⟨blk, off, none⟩) zs.length cap] w fun e w' =>
      e = .returned (.tuple #[]) ∧ ∃ n os, w' = grow (putRow (Value.int .i64) (Sort.ahead w n) blk off (zs.mergeSort fun x y => decide (x ≤ y)).toArray) os := AnyM.slices_Sort_int Tryz.laysSlM5_f37 blk off cap zs w hH hblk hsz
open Go.RowKit Go.Sort in
/-- .. and plain. (LAID AT THE INSTANCE 'slices.Sort[[]int,int]': no walk: one application.) -/
theorem Tryz.slices_Sort_int_none (p : Option Addr) (cap : Nat) (w : World) :
    Calls Tryz.prog 129 #[.slice p 0 cap] w fun e w' => e = .returned (.tuple #[]) ∧ w' = w := AnyM.slices_Sort_int_none Tryz.laysSlM5_f37 p cap w
end Go.Proofs.YtanodjaeencmkaaGreatDoor
