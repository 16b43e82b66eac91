/- math/bits.TrailingZeros64's contract at this program, by hand (the shelf's script does not lay it). No conditions. -/
import Derived.Test.YtnbfifmnigeolaaDoorProg
import Derived.Shelf.Spec.TrailingZeros
namespace Go.Proofs.YtnbfifmnigeolaaDoor
open Go.RowKit
def lays29_ren : Go.Shelf.Ren := ⟨fun | 29 => 58 | n => n, fun | 0 => 0 | 3 => 3 | 4 => 4 | 5 => 5 | 22 => 22 | 25 => 77 | 54 => 87 | n => n, fun | 1 => 0 | n => n⟩
theorem lays29 : Go.Proofs.Lays7.n29 Tryd.prog lays29_ren := {
  mixed := by kernel_rfl
  f29 := Tryd.func58.trans (congrArg some (by kernel_rfl))
  t0 := Tryd.underlying0
  a0 := Tryd.isAgg0
  z0 := Tryd.sizeOf0
  v0 := Tryd.zeroValue0
  i0 := by kernel_rfl
  t3 := Tryd.underlying3
  a3 := Tryd.isAgg3
  z3 := Tryd.sizeOf3
  v3 := Tryd.zeroValue3
  i3 := by kernel_rfl
  t4 := Tryd.underlying4
  a4 := Tryd.isAgg4
  z4 := Tryd.sizeOf4
  v4 := Tryd.zeroValue4
  i4 := by kernel_rfl
  t5 := Tryd.underlying5
  a5 := Tryd.isAgg5
  z5 := Tryd.sizeOf5
  v5 := Tryd.zeroValue5
  i5 := by kernel_rfl
  t22 := Tryd.underlying22
  a22 := Tryd.isAgg22
  z22 := Tryd.sizeOf22
  v22 := Tryd.zeroValue22
  i22 := by kernel_rfl
  t25 := Tryd.underlying77
  a25 := Tryd.isAgg77
  z25 := Tryd.sizeOf77
  v25 := Tryd.zeroValue77
  i25 := by kernel_rfl
  t54 := Tryd.underlying87
  a54 := Tryd.isAgg87
  z54 := Tryd.sizeOf87
  g1 := by kernel_rfl }
theorem bits_TrailingZeros64 (x : Nat) (hx : x < 18446744073709551616) (w : World) (hT : TabAt 0 Lib.deBruijn64tab w) :
    Calls Tryd.prog 58 #[.int .u64 x] w fun e w' => e = .returned (.int .i64 (Lib.ctz 64 x)) ∧ w = w' :=
  (Any7.bits_TrailingZeros64 lays29 x hx w fun _ => hT).mono fun _ _ h => ⟨h.1, h.2.symm⟩
end Go.Proofs.YtnbfifmnigeolaaDoor
