/- utf8.ValidString's contract at this program, by hand (the shelf's script does not lay it). No conditions. -/
import Derived.Test.YtodicgphndoalaaDoorShelf
import Derived.Shelf.Unicode.ValidAny
import Derived.Test.YtodicgphndoalaaDoorUtfSpec
namespace Go.Proofs.YtodicgphndoalaaDoor
open Go.RowKit Go.Lib
def lays196_ren : Go.Shelf.Ren := ⟨fun | 196 => 22 | 259 => 28 | n => n, fun | 9 => 9 | 3 => 3 | 4 => 4 | 5 => 5 | 119 => 46 | 0 => 0 | 12 => 12 | 46 => 50 | 53 => 53 | 139 => 49 | 138 => 48 | n => n, fun | 3 => 0 | 4 => 1 | n => n⟩
theorem lays196 : Go.Proofs.Lays.n196 Tryd.prog lays196_ren := {
  mixed := by kernel_rfl
  f196 := Tryd.func22.trans (congrArg some (by kernel_rfl))
  f259 := Tryd.func28.trans (congrArg some (by kernel_rfl))
  t0 := Tryd.underlying0
  a0 := Tryd.isAgg0
  z0 := Tryd.sizeOf0
  v0 := Tryd.zeroValue0
  t3 := Tryd.underlying3
  a3 := Tryd.isAgg3
  z3 := Tryd.sizeOf3
  v3 := Tryd.zeroValue3
  t4 := Tryd.underlying4
  a4 := Tryd.isAgg4
  z4 := Tryd.sizeOf4
  v4 := Tryd.zeroValue4
  t5 := Tryd.underlying5
  a5 := Tryd.isAgg5
  z5 := Tryd.sizeOf5
  v5 := Tryd.zeroValue5
  t9 := Tryd.underlying9
  a9 := Tryd.isAgg9
  z9 := Tryd.sizeOf9
  v9 := Tryd.zeroValue9
  t12 := Tryd.underlying12
  a12 := Tryd.isAgg12
  z12 := Tryd.sizeOf12
  v12 := Tryd.zeroValue12
  t46 := Tryd.underlying50
  a46 := Tryd.isAgg50
  z46 := Tryd.sizeOf50
  v46 := Tryd.zeroValue50
  t53 := Tryd.underlying53
  a53 := Tryd.isAgg53
  z53 := Tryd.sizeOf53
  v53 := Tryd.zeroValue53
  t119 := Tryd.underlying46
  a119 := Tryd.isAgg46
  z119 := Tryd.sizeOf46
  t138 := Tryd.underlying48
  a138 := Tryd.isAgg48
  z138 := Tryd.sizeOf48
  v138 := Tryd.zeroValue48
  t139 := Tryd.underlying49
  a139 := Tryd.isAgg49
  z139 := Tryd.sizeOf49
  v139 := Tryd.zeroValue49
  g3 := by kernel_rfl
  g4 := by kernel_rfl }
theorem utf8_ValidString (s : ByteArray) (w : World) (hs : s.size ≤ 9223372036854775807) (hT : Lib.Utf8Tabs 0 1 w) :
    Calls Tryd.prog 22 #[.string s] w fun e w' => e = .returned (.bool (Lib.validD s.data.toList)) ∧ Below w.heap.size w w' := Any.utf8_ValidString lays196 s w hs hT
theorem validGoD_more : ∀ (k : Nat) (l : List UInt8), l.length ≤ k → Lib.validGoD k l = valid l := by
  intro k
  induction k with
  | zero => intro l h; obtain rfl : l = [] := List.eq_nil_of_length_eq_zero (by omega); rfl
  | succ k ih =>
    intro l h
    unfold Lib.validGoD
    by_cases h0 : l = []
    · subst h0; rfl
    · rw [if_neg h0, valid_step h0]
      have hd : Lib.decodeL l = dec l := by rw [Lib.decodeL, decode_list, List.drop_zero]
      rw [hd]
      have hp := dec_pos h0
      have hn : (nextL l).2.2 = !((dec l).1 == 65533 && (dec l).2 == 1) := rfl
      by_cases hx : (dec l).1 = 65533 ∧ (dec l).2 = 1
      · rw [if_pos hx, hn]; simp [hx]
      · rw [if_neg hx, hn, ih _ (by rw [List.length_drop]; omega)]
        have : ((dec l).1 == 65533 && (dec l).2 == 1) = false := by rw [Bool.eq_false_iff, ne_eq, Bool.and_eq_true, beq_iff_eq, beq_iff_eq]; exact hx
        rw [this]; rfl
theorem validD_valid (l : List UInt8) : Lib.validD l = valid l := validGoD_more _ l (Nat.le_refl _)
end Go.Proofs.YtodicgphndoalaaDoor
