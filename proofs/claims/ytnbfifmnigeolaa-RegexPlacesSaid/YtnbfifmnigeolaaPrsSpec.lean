/- Plain laws: what an expression's text is read as (P6.1). No conditions; no program. -/
import Derived.Test.YtnbfifmnigeolaaReSpec
import Derived.Test.YtnbfifmnigeolaaSetSpec
namespace Go.Proofs.Ytnbfifmnigeolaa
open Go.RowKit
/-- what reading tells: a thing and where it ends; or why it can't go on, and where -/
inductive PR (α : Type) where
  | ok (a : α) (i : Nat)
  | bad (e i : Nat)
  | out
def PR.bind {α β : Type} (x : PR α) (f : α → Nat → PR β) : PR β :=
  match x with
  | .ok a i => f a i
  | .bad e i => .bad e i
  | .out => .out
def bt (s : List UInt8) (i : Nat) : Nat := (s.getD i 0).toNat
/-- does this byte stand there? -/
def isC (s : List UInt8) (i c : Nat) : Prop := i < s.length ∧ bt s i = c
instance (s : List UInt8) (i c : Nat) : Decidable (isC s i c) := by unfold isC; infer_instance
def isD (s : List UInt8) (i : Nat) : Prop := i < s.length ∧ 48 ≤ bt s i ∧ bt s i ≤ 57
instance (s : List UInt8) (i : Nat) : Decidable (isD s i) := by unfold isD; infer_instance
def sgP : List Nat := [92, 40, 41, 91, 93, 123, 125, 46, 42, 43, 63, 124, 94, 36]
/-- a number of a bound -/
def numR (s : List UInt8) (least i : Nat) : PR Nat :=
  if isD s i then
    if isD s (i + 1) then
      if 20 < 10 * (bt s i - 48) + (bt s (i + 1) - 48) ∨ 10 * (bt s i - 48) + (bt s (i + 1) - 48) < least then .bad 60 i else .ok (10 * (bt s i - 48) + (bt s (i + 1) - 48)) (i + 2)
    else if bt s i - 48 < least then .bad 60 i else .ok (bt s i - 48) (i + 1)
  else .bad 60 i
def hexV (c : Nat) : Option Nat :=
  if 48 ≤ c ∧ c ≤ 57 then some (c - 48) else if 97 ≤ c ∧ c ≤ 102 then some (c - 87) else if 65 ≤ c ∧ c ≤ 70 then some (c - 55) else none
def hexR (s : List UInt8) (i : Nat) : PR Nat :=
  if i < s.length then match hexV (bt s i) with
    | some n => .ok n (i + 1)
    | none => .bad 60 i
  else .bad 60 i
/-- what stands behind a backslash: a byte -/
def escR (s : List UInt8) (i : Nat) : PR Nat :=
  if i < s.length then
    if bt s i = 110 then .ok 10 (i + 1) else if bt s i = 116 then .ok 9 (i + 1) else if bt s i = 114 then .ok 13 (i + 1)
    else if bt s i = 120 then (hexR s (i + 1)).bind fun h j => (hexR s j).bind fun l k => .ok (16 * h + l) k
    else if bt s i ∈ sgP ∨ bt s i = 45 ∨ bt s i = 47 then .ok (bt s i) (i + 1) else .bad 60 i
  else .bad 60 i
def rngB (lo hi : Nat) : Nat → Bool := fun b => decide (lo ≤ b) && decide (b < hi + 1)
def orB (p q : Nat → Bool) : Nat → Bool := fun b => p b || q b
def notB (p : Nat → Bool) : Nat → Bool := fun b => !p b
def oneB (c : Nat) : Nat → Bool := fun b => b == c
def digB : Nat → Bool := rngB 48 57
def wordB : Nat → Bool := orB (orB (rngB 48 57) (rngB 65 90)) (orB (rngB 97 122) (oneB 95))
def spcB : Nat → Bool := orB (rngB 9 13) (oneB 32)
/-- a class by a letter -/
def kndC (c : Nat) : Option (Nat → Bool) :=
  if c = 100 then some digB else if c = 68 then some (notB digB) else if c = 119 then some wordB else if c = 87 then some (notB wordB)
  else if c = 115 then some spcB else if c = 83 then some (notB spcB) else none
def kndR (s : List UInt8) (i : Nat) : Option (Nat → Bool) := if i < s.length then kndC (bt s i) else none
/-- an end of a range -/
def pntR (s : List UInt8) (i : Nat) : PR Nat :=
  if isC s i 92 then escR s (i + 1) else if i < s.length ∧ bt s i ≠ 93 ∧ bt s i ≠ 45 then .ok (bt s i) (i + 1) else .bad 60 i
/-- a class's parts -/
def clsL (s : List UInt8) : Nat → (Nat → Bool) → Bool → Nat → PR (Nat → Bool)
  | 0, _, _, _ => .out
  | f + 1, a, first, i =>
    if first = false ∧ isC s i 93 then .ok a i
    else match (if isC s i 92 then kndR s (i + 1) else none) with
      | some k => clsL s f (orB a k) false (i + 2)
      | none => (pntR s i).bind fun lo j =>
          if isC s j 45 then (pntR s (j + 1)).bind fun hi k => if hi < lo then .bad 60 (j + 1) else clsL s f (orB a (rngB lo hi)) false k
          else clsL s f (orB a (rngB lo lo)) false j
noncomputable def wS (p : Nat → Bool) : Nat × Nat × Nat × Nat := (W p 0, W p 1, W p 2, W p 3)
noncomputable def setT (p : Nat → Bool) : Re := .mk 1 (wS p) 0 0 []
noncomputable def clsR (s : List UInt8) (f i : Nat) : PR Re :=
  if isC s i 94 then (clsL s f (fun _ => false) true (i + 1)).bind fun a j => .ok (setT (notB a)) (j + 1)
  else (clsL s f (fun _ => false) true i).bind fun a j => .ok (setT a) (j + 1)
def Re.kindP : Re → Int | .mk k _ _ _ _ => k
def Re.kidsP : Re → List Re | .mk _ _ _ _ l => l
/-- a node of several -/
def joinT (kind : Int) (l : List Re) : Re :=
  match l.flatMap (fun t => if t.kindP = kind then t.kidsP else [t]) with
  | [t] => t
  | k => .mk kind (0, 0, 0, 0) 0 0 k
def repT (lo : Nat) (hi : Int) (t : Re) : Re := if lo = 1 ∧ hi = 1 then t else .mk 4 (0, 0, 0, 0) lo hi [t]
/-- a bound: how often, and where its text ends (its last bracket is still to come) -/
def bndR (s : List UInt8) (i : Nat) : PR (Nat × Int) :=
  (numR s 0 i).bind fun lo j => if isC s j 44 then (if isC s (j + 1) 125 then .ok (lo, -1) (j + 1) else (numR s lo (j + 1)).bind fun hi k => .ok (lo, hi) k) else .ok (lo, lo) j
inductive Tk where
  | alt
  | altL (l : List Re)
  | cat (l : List Re)
  | item
  | itemL (t : Re)
  | atom
noncomputable def prs (s : List UInt8) : Nat → Tk → Nat → Nat → PR Re
  | 0, _, _, _ => .out
  | f + 1, .alt, d, i => (prs s f (.cat []) d i).bind fun t j => prs s f (.altL [t]) d j
  | f + 1, .altL l, d, i => if isC s i 124 then (prs s f (.cat []) d (i + 1)).bind fun t j => prs s f (.altL (l ++ [t])) d j else .ok (joinT 3 l) i
  | f + 1, .cat l, d, i => if i < s.length ∧ bt s i ≠ 124 ∧ bt s i ≠ 41 then (prs s f .item d i).bind fun t j => prs s f (.cat (l ++ [t])) d j else .ok (joinT 2 l) i
  | f + 1, .item, d, i => (prs s f .atom d i).bind fun t j => prs s f (.itemL t) d j
  | f + 1, .itemL t, d, i =>
    if isC s i 42 then prs s f (.itemL (repT 0 (-1) t)) d (i + 1)
    else if isC s i 43 then prs s f (.itemL (repT 1 (-1) t)) d (i + 1)
    else if isC s i 63 then prs s f (.itemL (repT 0 1 t)) d (i + 1)
    else if isC s i 123 then (bndR s (i + 1)).bind fun b j => if isC s j 125 then prs s f (.itemL (repT b.1 b.2 t)) d (j + 1) else .bad 60 j
    else .ok t i
  | f + 1, .atom, d, i =>
    if isC s i 40 then
      if 30 ≤ d then .bad 2 i else (prs s f .alt (d + 1) (i + 1)).bind fun t j => if isC s j 41 then .ok t (j + 1) else .bad 60 j
    else if isC s i 91 then clsR s f (i + 1)
    else if isC s i 46 then .ok (setT (notB (oneB 10))) (i + 1)
    else if isC s i 92 then match kndR s (i + 1) with
      | some k => .ok (setT k) (i + 2)
      | none => (escR s (i + 1)).bind fun c j => .ok (setT (oneB c)) j
    else if i < s.length ∧ ¬ bt s i ∈ sgP then .ok (setT (oneB (bt s i))) (i + 1) else .bad 60 i
/-- the whole of a text (but for the tree being too deep) -/
noncomputable def prsA (s : List UInt8) : PR Re :=
  if 512 < s.length then .bad 2 0
  else match prs s 4200 .alt 0 0 with
    | .ok t j => if j < s.length then .bad 60 j else .ok t 0
    | x => x
end Go.Proofs.Ytnbfifmnigeolaa
