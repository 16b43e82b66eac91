/- Walk: the ones of a word (math/bits.OnesCount64). Condition: the word is of 64 bits. -/
import Derived.Test.YtnbfifmnigeolaaDoorBits
import Derived.Test.YtnbfifmnigeolaaDoorSetOps
import Derived.Laws.BitsAllLaws
import Derived.Laws.Bits128
namespace Go.Proofs.YtnbfifmnigeolaaDoor
open Go.RowKit Bits
theorem w64 {n : Nat} (h : n < 18446744073709551616) : IntKind.u64.wrap (n : Int) = n := by rw [IntKind.wrap_u64]; omega
theorem step1 (x : Nat) (hx : x < 18446744073709551616) : IntKind.u64.wrap (bits .and .u64 ((x : Int) / 2) 6148914691236517205 + bits .and .u64 (x : Int) 6148914691236517205) = ((f1 x : Nat) : Int) := by
  have h1 := u64_and_nat (x / 2) 6148914691236517205 (by omega) (by decide)
  have h2 := u64_and_nat x 6148914691236517205 hx (by decide)
  have e : ((x / 2 : Nat) : Int) = (x : Int) / 2 := by omega
  rw [e] at h1
  have h3 : bits .and .u64 ((x : Int) / 2) 6148914691236517205 + bits .and .u64 (x : Int) 6148914691236517205 = ((f1 x : Nat) : Int) := by
    unfold f1
    rw [show ((6148914691236517205 : Nat) : Int) = 6148914691236517205 from rfl] at h1 h2
    rw [h1, h2]; simp
  rw [h3, w64 (f1_lt x hx)]
theorem step2 (x : Nat) (hx : x < 18446744073709551616) (hy : f2 x < 18446744073709551616) : IntKind.u64.wrap (bits .and .u64 ((x : Int) / 4) 3689348814741910323 + bits .and .u64 (x : Int) 3689348814741910323) = ((f2 x : Nat) : Int) := by
  have h1 := u64_and_nat (x / 4) 3689348814741910323 (by omega) (by decide)
  have h2 := u64_and_nat x 3689348814741910323 hx (by decide)
  have e : ((x / 4 : Nat) : Int) = (x : Int) / 4 := by omega
  rw [e] at h1
  have h3 : bits .and .u64 ((x : Int) / 4) 3689348814741910323 + bits .and .u64 (x : Int) 3689348814741910323 = ((f2 x : Nat) : Int) := by
    unfold f2
    rw [show ((3689348814741910323 : Nat) : Int) = 3689348814741910323 from rfl] at h1 h2
    rw [h1, h2]; simp
  rw [h3, w64 hy]
theorem step3 (x : Nat) (hx : x < 9223372036854775808) : bits .and .u64 (IntKind.u64.wrap ((x : Int) / 16 + (x : Int))) 1085102592571150095 = ((f3 x : Nat) : Int) := by
  have e : (x : Int) / 16 + (x : Int) = ((x / 16 + x : Nat) : Int) := by omega
  rw [e, w64 (by omega)]
  have h1 := u64_and_nat (x / 16 + x) 1085102592571150095 (by omega) (by decide)
  rw [show ((1085102592571150095 : Nat) : Int) = 1085102592571150095 from rfl] at h1
  rw [h1]; rfl
theorem step4 (x : Nat) (h : f4 x < 1152921504606846976) : IntKind.u64.wrap ((x : Int) + (x : Int) / 256) = ((f4 x : Nat) : Int) := by
  rw [show (x : Int) + (x : Int) / 256 = ((f4 x : Nat) : Int) from by unfold f4; omega, w64 (by omega)]
theorem step5 (x : Nat) (h : f5 x < 1152921504606846976) : IntKind.u64.wrap ((x : Int) + (x : Int) / 65536) = ((f5 x : Nat) : Int) := by
  rw [show (x : Int) + (x : Int) / 65536 = ((f5 x : Nat) : Int) from by unfold f5; omega, w64 (by omega)]
theorem step6 (x : Nat) (h : f6 x < 1152921504606846976) : IntKind.u64.wrap ((x : Int) + (x : Int) / 4294967296) = ((f6 x : Nat) : Int) := by
  rw [show (x : Int) + (x : Int) / 4294967296 = ((f6 x : Nat) : Int) from by unfold f6; omega, w64 (by omega)]
end Go.Proofs.YtnbfifmnigeolaaDoor
