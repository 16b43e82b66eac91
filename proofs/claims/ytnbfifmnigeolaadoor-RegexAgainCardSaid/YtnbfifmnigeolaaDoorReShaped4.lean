/- Walk: whether a repeat may be (regex.shaped). No conditions. -/
import Derived.Test.YtnbfifmnigeolaaDoorReShaped
namespace Go.Proofs.YtnbfifmnigeolaaDoor
open Go.RowKit Go.Lib
section
variable {w : World} {a : Option Addr} {n cap : Nat} {bA B : Bool}
set_option maxRecDepth 100000 in
set_option maxHeartbeats 4000000 in
theorem shaped_4 (s0 s1 s2 s3 : Nat) (mn mx : Int) (hK : KidsSay w (.slice a n cap) bA) (hB : Hid (B = true ↔ (((s0 : Int) == 0 && ((s1 : Int) == 0 && ((s2 : Int) == 0 && (s3 : Int) == 0))) = true ∧ (n : Int) = 1 ∧ 0 ≤ mn ∧ mn ≤ 20 ∧ (mx = -1 ∨ (mn ≤ mx ∧ mx ≤ 20 ∧ ¬ (mn = 1 ∧ mx = 1)))) ∧ bA = false)) :
    Calls Tryd.prog 20 #[reV ⟨4, (s0, s1, s2, s3), mn, mx, .slice a n cap⟩] w fun e w' => e = .returned (.bool B) ∧ Below w.heap.size w w' := by
  have HK := Lib.hid hK
  clear hK
  obtain ⟨bS, hS⟩ : ∃ b, ((s0 : Int) == 0 && ((s1 : Int) == 0 && ((s2 : Int) == 0 && (s3 : Int) == 0))) = b := ⟨_, rfl⟩
  rw [hS] at hB
  simp only [reV, reC]
  cases bS with
  | false =>
    have HF : Hid (B = false) := Lib.hid (Bool.eq_false_iff.2 fun h => by have := hB.out.1 h; simp at this)
    clear hB HK
    go_enter Tryd.func20, Tryd.ntmps20
    repeat' (first | go_values | go_skip | go_guarded | go_step | go_upon)
    all_goals
      go_ret
      exact ⟨by rw [HF.out]; rfl, (Below.refl _ _).alloc (Nat.le_refl _) _⟩
  | true =>
    simp only [true_and] at hB
    go_enter Tryd.func20, Tryd.ntmps20
    repeat' (first | go_values | go_skip | go_guarded | go_step | go_upon)
    all_goals first
      | (go_ret
         refine ⟨ret_bool ?_ hB.out, (Below.refl _ _).alloc (Nat.le_refl _) _⟩
         simp only [Bool.false_eq_true, false_iff]
         omega)
      | (refine Calls.mono (HK.out _ ((Below.refl _ _).alloc (Nat.le_refl _) _)) ?_
         rintro _ w1 ⟨rfl, hb1⟩
         dsimp only
         (repeat' (first | go_values | go_skip | go_guarded | go_step | go_upon))
         go_ret
         refine ⟨ret_bool ?_ hB.out, ((Below.refl _ _).alloc (Nat.le_refl _) _).trans (hb1.mono (by simp))⟩
         cases bA <;> simp [-Int.natCast_eq_zero] <;> omega)
end
end Go.Proofs.YtnbfifmnigeolaaDoor
