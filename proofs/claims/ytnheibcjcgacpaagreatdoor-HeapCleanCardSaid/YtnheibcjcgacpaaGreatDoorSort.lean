/- slices.Sort at ints: the library's contract laid at this program (by the kit's lay-shelf and lay-plain; numbers by name). -/
import Derived.Ground.SlgmProg
import Derived.Shelf.SortM.Plain
import Derived.Shelf.SortM.SortNone
import Derived.Test.YtnheibcjcgacpaaGreatDoorProg
namespace Go.Proofs.YtnheibcjcgacpaaGreatDoor
open Go.Shelf
def Tryz.laysSlM5_f37_ren : Go.Shelf.Ren := ⟨fun | 5 => 197 | 8 => 274 | 7 => 273 | 19 => 316 | 20 => 317 | 10 => 307 | 11 => 308 | 12 => 309 | 13 => 310 | 14 => 311 | 15 => 312 | 16 => 313 | 17 => 314 | 18 => 315 | 30 => 326 | 31 => 327 | 32 => 328 | 33 => 329 | 34 => 330 | 35 => 331 | 40 => 335 | n => n, fun | 23 => 24 | 25 => 3 | 3 => 3 | 32 => 50 | 22 => 24 | 0 => 0 | 44 => 344 | 46 => 92 | 4 => 4 | 36 => 338 | 35 => 337 | 41 => 146 | 5 => 5 | 9 => 9 | 53 => 349 | 57 => 353 | 63 => 358 | 64 => 359 | n => n, fun | n => n⟩
theorem Tryz.laysSlM5_f37 : Go.Proofs.SlLaysM.n5 Tryz.prog Tryz.laysSlM5_f37_ren := {
  mixed := by kernel_rfl
  f5 := ⟨Tryz.f197.name, by decide, Tryz.func197.trans (congrArg some (by kernel_rfl))⟩
  f7 := ⟨Tryz.f273.name, by decide, Tryz.func273.trans (congrArg some (by kernel_rfl))⟩
  f8 := Tryz.func274.trans (congrArg some (by kernel_rfl))
  f10 := ⟨Tryz.f307.name, by decide, Tryz.func307.trans (congrArg some (by kernel_rfl))⟩
  f11 := ⟨Tryz.f308.name, by decide, Tryz.func308.trans (congrArg some (by kernel_rfl))⟩
  f12 := ⟨Tryz.f309.name, by decide, Tryz.func309.trans (congrArg some (by kernel_rfl))⟩
  f13 := ⟨Tryz.f310.name, by decide, Tryz.func310.trans (congrArg some (by kernel_rfl))⟩
  f14 := ⟨Tryz.f311.name, by decide, Tryz.func311.trans (congrArg some (by kernel_rfl))⟩
  f15 := ⟨Tryz.f312.name, by decide, Tryz.func312.trans (congrArg some (by kernel_rfl))⟩
  f16 := ⟨Tryz.f313.name, by decide, Tryz.func313.trans (congrArg some (by kernel_rfl))⟩
  f17 := ⟨Tryz.f314.name, by decide, Tryz.func314.trans (congrArg some (by kernel_rfl))⟩
  f18 := ⟨Tryz.f315.name, by decide, Tryz.func315.trans (congrArg some (by kernel_rfl))⟩
  f19 := Tryz.func316.trans (congrArg some (by kernel_rfl))
  f20 := Tryz.func317.trans (congrArg some (by kernel_rfl))
  f30 := ⟨Tryz.f326.name, by decide, Tryz.func326.trans (congrArg some (by kernel_rfl))⟩
  f31 := Tryz.func327.trans (congrArg some (by kernel_rfl))
  f32 := Tryz.func328.trans (congrArg some (by kernel_rfl))
  f33 := ⟨Tryz.f329.name, by decide, Tryz.func329.trans (congrArg some (by kernel_rfl))⟩
  f34 := ⟨Tryz.f330.name, by decide, Tryz.func330.trans (congrArg some (by kernel_rfl))⟩
  f35 := ⟨Tryz.f331.name, by decide, Tryz.func331.trans (congrArg some (by kernel_rfl))⟩
  f40 := ⟨Tryz.f335.name, by decide, Tryz.func335.trans (congrArg some (by kernel_rfl))⟩
  t0 := Tryz.underlying0
  a0 := Tryz.isAgg0
  z0 := Tryz.sizeOf0
  v0 := Tryz.zeroValue0
  t3 := Tryz.underlying3
  a3 := Tryz.isAgg3
  z3 := Tryz.sizeOf3
  v3 := Tryz.zeroValue3
  t4 := Tryz.underlying4
  a4 := Tryz.isAgg4
  z4 := Tryz.sizeOf4
  v4 := Tryz.zeroValue4
  t5 := Tryz.underlying5
  a5 := Tryz.isAgg5
  z5 := Tryz.sizeOf5
  v5 := Tryz.zeroValue5
  t9 := Tryz.underlying9
  a9 := Tryz.isAgg9
  z9 := Tryz.sizeOf9
  v9 := Tryz.zeroValue9
  t22 := Tryz.underlying24
  a22 := Tryz.isAgg24
  z22 := Tryz.sizeOf24
  v22 := Tryz.zeroValue24
  t23 := Tryz.underlying24
  a23 := Tryz.isAgg24
  z23 := Tryz.sizeOf24
  v23 := Tryz.zeroValue24
  t25 := Tryz.underlying3
  a25 := Tryz.isAgg3
  z25 := Tryz.sizeOf3
  v25 := Tryz.zeroValue3
  t32 := Tryz.underlying50
  a32 := Tryz.isAgg50
  z32 := Tryz.sizeOf50
  v32 := Tryz.zeroValue50
  t35 := Tryz.underlying337
  a35 := Tryz.isAgg337
  z35 := Tryz.sizeOf337
  v35 := Tryz.zeroValue337
  t36 := Tryz.underlying338
  a36 := Tryz.isAgg338
  z36 := Tryz.sizeOf338
  v36 := Tryz.zeroValue338
  t41 := Tryz.underlying146
  a41 := Tryz.isAgg146
  z41 := Tryz.sizeOf146
  v41 := Tryz.zeroValue146
  t44 := Tryz.underlying344
  a44 := Tryz.isAgg344
  z44 := Tryz.sizeOf344
  v44 := Tryz.zeroValue344
  t46 := Tryz.underlying92
  a46 := Tryz.isAgg92
  z46 := Tryz.sizeOf92
  v46 := Tryz.zeroValue92
  t53 := Tryz.underlying349
  a53 := Tryz.isAgg349
  z53 := Tryz.sizeOf349
  v53 := Tryz.zeroValue349
  t57 := Tryz.underlying353
  a57 := Tryz.isAgg353
  z57 := Tryz.sizeOf353
  v57 := Tryz.zeroValue353
  t63 := Tryz.underlying358
  a63 := Tryz.isAgg358
  z63 := Tryz.sizeOf358
  v63 := Tryz.zeroValue358
  t64 := Tryz.underlying359
  a64 := Tryz.isAgg359
  z64 := Tryz.sizeOf359
  v64 := Tryz.zeroValue359 }
open Go.Sort Go.RowKit in
theorem Tryz.slices_Sort_int (blk off cap : Nat) (zs : List Int) (w : World) (hH : Holds (Value.int .i64) w blk off zs.toArray) (hblk : blk < w.heap.size) (hsz : zs.length < 4611686018427387904) :
    Calls Tryz.prog 197 #[.slice (some ⟨blk, off, none⟩) zs.length cap] w fun e w' =>
      e = .returned (.tuple #[]) ∧ ∃ n os, w' = grow (putRow (Value.int .i64) (Sort.ahead w n) blk off (zs.mergeSort fun x y => decide (x ≤ y)).toArray) os := AnyM.slices_Sort_int Tryz.laysSlM5_f37 blk off cap zs w hH hblk hsz
open Go.RowKit Go.Sort in
/-- .. and plain. (LAID AT THE INSTANCE 'slices.Sort[[]int,int]': no walk: one application.) -/
theorem Tryz.slices_Sort_int_none (p : Option Addr) (cap : Nat) (w : World) :
    Calls Tryz.prog 197 #[.slice p 0 cap] w fun e w' => e = .returned (.tuple #[]) ∧ w' = w := AnyM.slices_Sort_int_none Tryz.laysSlM5_f37 p cap w
end Go.Proofs.YtnheibcjcgacpaaGreatDoor
