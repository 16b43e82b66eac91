/- math/bits.TrailingZeros64's contract at this program, by hand (the shelf's script does not lay it). No conditions. -/
import Derived.Test.YtonkenlkigfeoaaGreatDoorProg
import Derived.Shelf.Spec.TrailingZeros
namespace Go.Proofs.YtonkenlkigfeoaaGreatDoor
open Go.RowKit
def lays29_ren : Go.Shelf.Ren := ⟨fun | 29 => 105 | n => n, fun | 0 => 0 | 3 => 3 | 4 => 4 | 5 => 5 | 22 => 23 | 25 => 87 | 54 => 141 | n => n, fun | 1 => 1 | n => n⟩
theorem lays29 : Go.Proofs.Lays7.n29 Tryz.prog lays29_ren := {
 mixed := by kernel_rfl
 f29 := Tryz.func105.trans (congrArg some (by kernel_rfl))
 t0 := Tryz.underlying0
 a0 := Tryz.isAgg0
 z0 := Tryz.sizeOf0
 v0 := Tryz.zeroValue0
 i0 := by kernel_rfl
 t3 := Tryz.underlying3
 a3 := Tryz.isAgg3
 z3 := Tryz.sizeOf3
 v3 := Tryz.zeroValue3
 i3 := by kernel_rfl
 t4 := Tryz.underlying4
 a4 := Tryz.isAgg4
 z4 := Tryz.sizeOf4
 v4 := Tryz.zeroValue4
 i4 := by kernel_rfl
 t5 := Tryz.underlying5
 a5 := Tryz.isAgg5
 z5 := Tryz.sizeOf5
 v5 := Tryz.zeroValue5
 i5 := by kernel_rfl
 t22 := Tryz.underlying23
 a22 := Tryz.isAgg23
 z22 := Tryz.sizeOf23
 v22 := Tryz.zeroValue23
 i22 := by kernel_rfl
 t25 := Tryz.underlying87
 a25 := Tryz.isAgg87
 z25 := Tryz.sizeOf87
 v25 := Tryz.zeroValue87
 i25 := by kernel_rfl
 t54 := Tryz.underlying141
 a54 := Tryz.isAgg141
 z54 := Tryz.sizeOf141
 g1 := by kernel_rfl }
theorem bits_TrailingZeros64 (x : Nat) (hx : x < 18446744073709551616) (w : World) (hT : TabAt 1 Lib.deBruijn64tab w) :
   Calls Tryz.prog 105 #[.int .u64 x] w fun e w' => e = .returned (.int .i64 (Lib.ctz 64 x)) ∧ w = w' :=
 (Any7.bits_TrailingZeros64 lays29 x hx w fun _ => hT).mono fun _ _ h => ⟨h.1, h.2.symm⟩
end Go.Proofs.YtonkenlkigfeoaaGreatDoor
