/- Packs of sections, in plain Lean: written, read. No program. -/
import Derived.Test.YtpalafbapehodaaWireLaws
import Derived.Test.YtpalafbapehodaaWirePut4
import Derived.Test.YtpalafbapehodaaSumSpec
namespace Go.Proofs.Ytpalafbapehodaa
/-- a section: its kind, its body -/
abbrev Sec := Nat × List UInt8
def psec (x : Sec) : List UInt8 := vput x.1 ++ (vput x.2.length ++ x.2)
def sizeS : List Sec → Nat
  | [] => 0
  | x :: l => x.2.length + sizeS l
theorem sizeS_append (a b : List Sec) : sizeS (a ++ b) = sizeS a + sizeS b := by
  induction a with
  | nil => simp [sizeS]
  | cons x a ih => simp [sizeS, ih]; omega
theorem sizeS_take_le (l : List Sec) (k : Nat) : sizeS (l.take k) ≤ sizeS l := by
  have := sizeS_append (l.take k) (l.drop k)
  rw [List.take_append_drop] at this
  omega
def begB : List UInt8 := [70, 83, 65, 87, 1]
/-- the first k kinds rise -/
def risesTo (l : List Sec) (k : Nat) : Bool := (List.range k).all fun i => i == 0 || decide ((l.getD (i - 1) (0, [])).1 < (l.getD i (0, [])).1)
theorem risesTo_zero (l : List Sec) : risesTo l 0 = true := rfl
theorem risesTo_succ (l : List Sec) (k : Nat) : risesTo l (k + 1) = (risesTo l k && (k == 0 || decide ((l.getD (k - 1) (0, [])).1 < (l.getD k (0, [])).1))) := by
  unfold risesTo; rw [List.range_succ, List.all_append]; simp
theorem risesTo_false {l : List Sec} {k n : Nat} (h : risesTo l k = false) (hk : k ≤ n) : risesTo l n = false := by
  induction n with
  | zero => obtain rfl : k = 0 := by omega
            exact h
  | succ n ih =>
    rcases Nat.eq_or_lt_of_le hk with rfl | hk
    · exact h
    · rw [risesTo_succ, ih (by omega)]; rfl
def packB (l : List Sec) : List UInt8 := begB ++ vput l.length ++ l.flatMap psec
def putP (l : List Sec) : List UInt8 × Int :=
  if 64 < l.length ∨ 8388608 < sizeS l then ([], 2) else if risesTo l l.length = true then (packB l ++ put4 (sumOn 0 (packB l)), 0) else ([], 1)
/-- m sections, from a place; whether there was one ahead, and its kind -/
def secsF (s : List UInt8) : Nat → Option Nat → Int → List Sec × Int × Int
  | 0, _, at' => ([], at', 0)
  | m + 1, prev, at' =>
    if (vget s at').2.2 ≠ 0 then ([], 0, (vget s at').2.2) else
    if (match prev with | none => false | some p => decide ((vget s at').1 ≤ p)) = true then ([], 0, 21) else
    if (gett s (vget s at').2.1 8388608).2.2 ≠ 0 then ([], 0, (gett s (vget s at').2.1 8388608).2.2) else
    let r := secsF s m (some (vget s at').1) (gett s (vget s at').2.1 8388608).2.1
    if r.2.2 ≠ 0 then ([], 0, r.2.2) else (((vget s at').1, (gett s (vget s at').2.1 8388608).1) :: r.1, r.2.1, 0)
def joinS (acc : List Sec) (r : List Sec × Int × Int) : List Sec × Int × Int := if r.2.2 ≠ 0 then ([], 0, r.2.2) else (acc ++ r.1, r.2.1, 0)
def getP (t : List UInt8) : List Sec × Int :=
  if t.length < 9 then ([], 20) else
  if t.take 5 ≠ begB then ([], 40) else
  if t.drop (t.length - 4) ≠ put4 (sumOn 0 (t.take (t.length - 4))) then ([], 41) else
  if (vget (t.take (t.length - 4)) 5).2.2 ≠ 0 then ([], (vget (t.take (t.length - 4)) 5).2.2) else
  if 64 < (vget (t.take (t.length - 4)) 5).1 then ([], 2) else
  let r := secsF (t.take (t.length - 4)) (vget (t.take (t.length - 4)) 5).1 none (vget (t.take (t.length - 4)) 5).2.1
  if r.2.2 ≠ 0 then ([], r.2.2) else
  if r.2.1 ≠ ((t.length - 4 : Nat) : Int) then ([], 21) else
  if 8388608 < sizeS r.1 then ([], 2) else (r.1, 0)
end Go.Proofs.Ytpalafbapehodaa
