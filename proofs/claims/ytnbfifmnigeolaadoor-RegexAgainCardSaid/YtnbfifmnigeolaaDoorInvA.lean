/- Plain laws: what an expression's text is read as (P6.1). No conditions; no program. Plain laws: where reading an expression ends; what stands behind the byte that can't stand where it stands changes nothing (P6.1). No conditions; no program. Plain laws: how many nodes what is read has. No conditions; no program. Plain laws: what is written of a byte is read as that byte. No conditions; no program. Plain laws: what is written of a set is read as that set. No conditions; no program. Plain laws: what is written of a set is read as a part that is that set. No conditions; no program. Plain laws: more fuel reads the same; rules by which parts are read. No conditions; no program. Plain laws: how often is written as it is read. No conditions; no program. Plain law: what is written of a tree is read as that tree (P6.4). No conditions; no program. Plain law: what is written of a tree is read as that tree (P6.4), whatever the tree. No conditions; no program. -/
import Derived.Test.YtnbfifmnigeolaaDoorReSpec
import Derived.Test.YtnbfifmnigeolaaDoorSetSpec
import Derived.Test.YtnbfifmnigeolaaDoorTxtSpec
import Derived.Lib.Join
namespace Go.Proofs.YtnbfifmnigeolaaDoor
open Go.RowKit
/-- what reading tells: a thing and where it ends; or why it can't go on, and where -/
inductive PR (α : Type) where
  | ok (a : α) (i : Nat)
  | bad (e i : Nat)
  | out
def PR.bind {α β : Type} (x : PR α) (f : α → Nat → PR β) : PR β :=
  match x with
  | .ok a i => f a i
  | .bad e i => .bad e i
  | .out => .out
def bt (s : List UInt8) (i : Nat) : Nat := (s.getD i 0).toNat
/-- does this byte stand there? -/
def isC (s : List UInt8) (i c : Nat) : Prop := i < s.length ∧ bt s i = c
instance (s : List UInt8) (i c : Nat) : Decidable (isC s i c) := by unfold isC; infer_instance
def isD (s : List UInt8) (i : Nat) : Prop := i < s.length ∧ 48 ≤ bt s i ∧ bt s i ≤ 57
instance (s : List UInt8) (i : Nat) : Decidable (isD s i) := by unfold isD; infer_instance
def sgP : List Nat := [92, 40, 41, 91, 93, 123, 125, 46, 42, 43, 63, 124, 94, 36]
/-- a number of a bound -/
def numR (s : List UInt8) (least i : Nat) : PR Nat :=
  if isD s i then
    if isD s (i + 1) then
      if 20 < 10 * (bt s i - 48) + (bt s (i + 1) - 48) ∨ 10 * (bt s i - 48) + (bt s (i + 1) - 48) < least then .bad 60 i else .ok (10 * (bt s i - 48) + (bt s (i + 1) - 48)) (i + 2)
    else if bt s i - 48 < least then .bad 60 i else .ok (bt s i - 48) (i + 1)
  else .bad 60 i
def hexV (c : Nat) : Option Nat :=
  if 48 ≤ c ∧ c ≤ 57 then some (c - 48) else if 97 ≤ c ∧ c ≤ 102 then some (c - 87) else if 65 ≤ c ∧ c ≤ 70 then some (c - 55) else none
def hexR (s : List UInt8) (i : Nat) : PR Nat :=
  if i < s.length then match hexV (bt s i) with
    | some n => .ok n (i + 1)
    | none => .bad 60 i
  else .bad 60 i
/-- what stands behind a backslash: a byte -/
def escR (s : List UInt8) (i : Nat) : PR Nat :=
  if i < s.length then
    if bt s i = 110 then .ok 10 (i + 1) else if bt s i = 116 then .ok 9 (i + 1) else if bt s i = 114 then .ok 13 (i + 1)
    else if bt s i = 120 then (hexR s (i + 1)).bind fun h j => (hexR s j).bind fun l k => .ok (16 * h + l) k
    else if bt s i ∈ sgP ∨ bt s i = 45 ∨ bt s i = 47 then .ok (bt s i) (i + 1) else .bad 60 i
  else .bad 60 i
def rngB (lo hi : Nat) : Nat → Bool := fun b => decide (lo ≤ b) && decide (b < hi + 1)
def orB (p q : Nat → Bool) : Nat → Bool := fun b => p b || q b
def notB (p : Nat → Bool) : Nat → Bool := fun b => !p b
def oneB (c : Nat) : Nat → Bool := fun b => b == c
def digB : Nat → Bool := rngB 48 57
def wordB : Nat → Bool := orB (orB (rngB 48 57) (rngB 65 90)) (orB (rngB 97 122) (oneB 95))
def spcB : Nat → Bool := orB (rngB 9 13) (oneB 32)
/-- a class by a letter -/
def kndC (c : Nat) : Option (Nat → Bool) :=
  if c = 100 then some digB else if c = 68 then some (notB digB) else if c = 119 then some wordB else if c = 87 then some (notB wordB)
  else if c = 115 then some spcB else if c = 83 then some (notB spcB) else none
def kndR (s : List UInt8) (i : Nat) : Option (Nat → Bool) := if i < s.length then kndC (bt s i) else none
/-- an end of a range -/
def pntR (s : List UInt8) (i : Nat) : PR Nat :=
  if isC s i 92 then escR s (i + 1) else if i < s.length ∧ bt s i ≠ 93 ∧ bt s i ≠ 45 then .ok (bt s i) (i + 1) else .bad 60 i
/-- a class's parts -/
def clsL (s : List UInt8) : Nat → (Nat → Bool) → Bool → Nat → PR (Nat → Bool)
  | 0, _, _, _ => .out
  | f + 1, a, first, i =>
    if first = false ∧ isC s i 93 then .ok a i
    else match (if isC s i 92 then kndR s (i + 1) else none) with
      | some k => clsL s f (orB a k) false (i + 2)
      | none => (pntR s i).bind fun lo j =>
          if isC s j 45 then (pntR s (j + 1)).bind fun hi k => if hi < lo then .bad 60 (j + 1) else clsL s f (orB a (rngB lo hi)) false k
          else clsL s f (orB a (rngB lo lo)) false j
noncomputable def wS (p : Nat → Bool) : Nat × Nat × Nat × Nat := (W p 0, W p 1, W p 2, W p 3)
noncomputable def setT (p : Nat → Bool) : Re := .mk 1 (wS p) 0 0 []
noncomputable def clsR (s : List UInt8) (f i : Nat) : PR Re :=
  if isC s i 94 then (clsL s f (fun _ => false) true (i + 1)).bind fun a j => .ok (setT (notB a)) (j + 1)
  else (clsL s f (fun _ => false) true i).bind fun a j => .ok (setT a) (j + 1)
def Re.kindP : Re → Int | .mk k _ _ _ _ => k
def Re.kidsP : Re → List Re | .mk _ _ _ _ l => l
/-- a node of several -/
def joinT (kind : Int) (l : List Re) : Re :=
  match l.flatMap (fun t => if t.kindP = kind then t.kidsP else [t]) with
  | [t] => t
  | k => .mk kind (0, 0, 0, 0) 0 0 k
def repT (lo : Nat) (hi : Int) (t : Re) : Re := if lo = 1 ∧ hi = 1 then t else .mk 4 (0, 0, 0, 0) lo hi [t]
/-- a bound: how often, and where its text ends (its last bracket is still to come) -/
def bndR (s : List UInt8) (i : Nat) : PR (Nat × Int) :=
  (numR s 0 i).bind fun lo j => if isC s j 44 then (if isC s (j + 1) 125 then .ok (lo, -1) (j + 1) else (numR s lo (j + 1)).bind fun hi k => .ok (lo, hi) k) else .ok (lo, lo) j
inductive Tk where
  | alt
  | altL (l : List Re)
  | cat (l : List Re)
  | item
  | itemL (t : Re)
  | atom
noncomputable def prs (s : List UInt8) : Nat → Tk → Nat → Nat → PR Re
  | 0, _, _, _ => .out
  | f + 1, .alt, d, i => (prs s f (.cat []) d i).bind fun t j => prs s f (.altL [t]) d j
  | f + 1, .altL l, d, i => if isC s i 124 then (prs s f (.cat []) d (i + 1)).bind fun t j => prs s f (.altL (l ++ [t])) d j else .ok (joinT 3 l) i
  | f + 1, .cat l, d, i => if i < s.length ∧ bt s i ≠ 124 ∧ bt s i ≠ 41 then (prs s f .item d i).bind fun t j => prs s f (.cat (l ++ [t])) d j else .ok (joinT 2 l) i
  | f + 1, .item, d, i => (prs s f .atom d i).bind fun t j => prs s f (.itemL t) d j
  | f + 1, .itemL t, d, i =>
    if isC s i 42 then prs s f (.itemL (repT 0 (-1) t)) d (i + 1)
    else if isC s i 43 then prs s f (.itemL (repT 1 (-1) t)) d (i + 1)
    else if isC s i 63 then prs s f (.itemL (repT 0 1 t)) d (i + 1)
    else if isC s i 123 then (bndR s (i + 1)).bind fun b j => if isC s j 125 then prs s f (.itemL (repT b.1 b.2 t)) d (j + 1) else .bad 60 j
    else .ok t i
  | f + 1, .atom, d, i =>
    if isC s i 40 then
      if 30 ≤ d then .bad 2 i else (prs s f .alt (d + 1) (i + 1)).bind fun t j => if isC s j 41 then .ok t (j + 1) else .bad 60 j
    else if isC s i 91 then clsR s f (i + 1)
    else if isC s i 46 then .ok (setT (notB (oneB 10))) (i + 1)
    else if isC s i 92 then match kndR s (i + 1) with
      | some k => .ok (setT k) (i + 2)
      | none => (escR s (i + 1)).bind fun c j => .ok (setT (oneB c)) j
    else if i < s.length ∧ ¬ bt s i ∈ sgP then .ok (setT (oneB (bt s i))) (i + 1) else .bad 60 i
/-- the whole of a text (but for the tree being too deep) -/
noncomputable def prsA (s : List UInt8) : PR Re :=
  if 512 < s.length then .bad 2 0
  else match prs s 4200 .alt 0 0 with
    | .ok t j => if j < s.length then .bad 60 j else .ok t 0
    | x => x
end Go.Proofs.YtnbfifmnigeolaaDoor
namespace Go.Proofs.YtnbfifmnigeolaaDoor
open Go.RowKit
section
variable {α β : Type}
/-- where it ends: k bytes behind i at least; n at most -/
def PR.In (i k n : Nat) : PR α → Prop
  | .ok _ j => i + k ≤ j ∧ j ≤ n
  | .bad _ j => i ≤ j ∧ j ≤ n
  | .out => True
theorem PR.In.bind {x : PR α} {f : α → Nat → PR β} {i k k' n : Nat} (h : x.In i k n) (h2 : ∀ a j, i + k ≤ j → j ≤ n → (f a j).In i k' n) : (x.bind f).In i k' n := by
  cases x with
  | ok a j => exact h2 a j h.1 h.2
  | bad e j => exact h
  | out => trivial
theorem PR.In.mono {x : PR α} {i k i' k' n : Nat} (h : x.In i k n) (h1 : i' ≤ i) (h2 : i' + k' ≤ i + k) : x.In i' k' n := by
  cases x with
  | ok a j => exact ⟨by have := h.1; omega, h.2⟩
  | bad e j => exact ⟨by have := h.1; omega, h.2⟩
  | out => trivial
/-- of two readings: what ends at k or ahead of it, or fails at k, the other one does too -/
def PR.Sim (k : Nat) (x y : PR α) : Prop :=
  match x with
  | .ok a j => j ≤ k → y = .ok a j
  | .bad e j => j = k → y = .bad e j
  | .out => True
theorem PR.Sim.far {x y : PR α} {i k l n : Nat} (h : x.In i l n) (hk : k < i) : x.Sim k y := by
  cases x with
  | ok a j => intro hj; have := h.1; omega
  | bad e j => intro hj; have := h.1; omega
  | out => trivial
theorem PR.Sim.bind {x y : PR α} {f g : α → Nat → PR β} {k n : Nat} (h : x.Sim k y) (hf : ∀ a j, x = .ok a j → (f a j).In j 0 n) (hs : ∀ a j, x = .ok a j → j ≤ k → (f a j).Sim k (g a j)) : (x.bind f).Sim k (y.bind g) := by
  cases x with
  | ok a j =>
    by_cases hj : j ≤ k
    · rw [h hj]; exact hs a j rfl hj
    · exact PR.Sim.far (hf a j rfl) (by omega)
  | bad e j => intro hj; rw [h hj]; rfl
  | out => trivial
end
section
variable {s : List UInt8} {i : Nat}
theorem numR_in (hi : i ≤ s.length) (least : Nat) : (numR s least i).In i 1 s.length := by
  unfold numR
  split
  · rename_i h0
    have h0 := h0.1
    split
    · rename_i h1
      have h1 := h1.1
      split <;> (simp only [PR.In]; omega)
    · split <;> (simp only [PR.In]; omega)
  · simp only [PR.In]; omega
theorem hexR_in (hi : i ≤ s.length) : (hexR s i).In i 1 s.length := by
  unfold hexR
  repeat' split
  all_goals (simp only [PR.In]; omega)
theorem escR_in (hi : i ≤ s.length) : (escR s i).In i 1 s.length := by
  unfold escR
  by_cases h : i < s.length
  · rw [if_pos h]
    split
    · simp only [PR.In]; omega
    split
    · simp only [PR.In]; omega
    split
    · simp only [PR.In]; omega
    split
    · exact ((hexR_in h).mono (i' := i) (k' := 2) (by omega) (by omega)).bind fun a j h1 h2 => ((hexR_in h2).mono (i' := i) (k' := 1) (by omega) (by omega)).bind fun b j' h3 h4 => by simp only [PR.In]; omega
    split
    · simp only [PR.In]; omega
    · simp only [PR.In]; omega
  · rw [if_neg h]; simp only [PR.In]; omega
theorem pntR_in (hi : i ≤ s.length) : (pntR s i).In i 1 s.length := by
  unfold pntR
  split
  · rename_i h; exact (escR_in (Nat.succ_le_of_lt h.1)).mono (by omega) (by omega)
  split
  · simp only [PR.In]; omega
  · simp only [PR.In]; omega
theorem kndR_lt {k : Nat → Bool} (h : kndR s i = some k) : i < s.length := by
  unfold kndR at h
  split at h
  · assumption
  · cases h
theorem bndR_in (hi : i ≤ s.length) : (bndR s i).In i 1 s.length := by
  unfold bndR
  refine (numR_in hi 0).bind fun a j h1 h2 => ?_
  split
  · rename_i hc
    split
    · simp only [PR.In]; have := hc.1; omega
    · exact ((numR_in (i := j + 1) (by have := hc.1; omega) a).mono (i' := i) (k' := 1) (by omega) (by omega)).bind fun b j' h3 h4 => by simp only [PR.In]; omega
  · simp only [PR.In]; omega
theorem clsL_in : ∀ (f : Nat) (a : Nat → Bool) (first : Bool) (i : Nat), i ≤ s.length → (clsL s f a first i).In i 0 s.length
  | 0, _, _, _, _ => trivial
  | f + 1, a, first, i, hi => by
    rw [clsL]
    split
    · simp only [PR.In]; omega
    split
    · rename_i k hk
      have hc : isC s i 92 ∧ kndR s (i + 1) = some k := by
        split at hk
        · exact ⟨by assumption, hk⟩
        · cases hk
      have := kndR_lt hc.2
      exact (clsL_in f _ false (i + 2) (by omega)).mono (by omega) (by omega)
    · refine (pntR_in hi).bind fun lo j h1 h2 => ?_
      split
      · rename_i hc
        refine ((pntR_in (i := j + 1) (by have := hc.1; omega)).mono (i' := i) (k' := 1) (by omega) (by omega)).bind fun hi' k h3 h4 => ?_
        split
        · simp only [PR.In]; have := hc.1; omega
        · exact (clsL_in f _ false k h4).mono (by omega) (by omega)
      · exact (clsL_in f _ false j h2).mono (by omega) (by omega)
theorem clsL_end : ∀ (f : Nat) (a : Nat → Bool) (first : Bool) (i : Nat) (b : Nat → Bool) (j : Nat), clsL s f a first i = .ok b j → isC s j 93
  | 0, _, _, _, _, _, h => by rw [clsL] at h; cases h
  | f + 1, a, first, i, b, j, h => by
    rw [clsL] at h
    split at h
    · rename_i hc
      simp only [PR.ok.injEq] at h
      rw [← h.2]; exact hc.2
    split at h
    · exact clsL_end f _ _ _ b j h
    · cases hp : pntR s i with
      | ok lo j' =>
        rw [hp] at h
        dsimp only [PR.bind] at h
        split at h
        · cases hq : pntR s (j' + 1) with
          | ok lo2 j2 =>
            rw [hq] at h
            dsimp only at h
            split at h
            · cases h
            · exact clsL_end f _ _ _ b j h
          | bad e j2 => rw [hq] at h; cases h
          | out => rw [hq] at h; cases h
        · exact clsL_end f _ _ _ b j h
      | bad e j' => rw [hp] at h; cases h
      | out => rw [hp] at h; cases h
theorem PR.In.tight {α : Type} {x : PR α} {i k n : Nat} (h : x.In i k n) (h2 : ∀ a j, x = .ok a j → j < n) {β : Type} {f : α → PR β} (hf : ∀ a j, x = .ok a j → (f a).In j 1 n) : (x.bind fun a _ => f a).In i 1 n := by
  cases x with
  | ok a j => exact (hf a j rfl).mono (by have := h.1; omega) (by have := h.1; omega)
  | bad e j => exact h
  | out => trivial
theorem clsR_in (f : Nat) (hi : i ≤ s.length) : (clsR s f i).In i 1 s.length := by
  unfold clsR
  split
  · rename_i hc
    have h1 := clsL_in f (fun _ => false) true (i + 1) hc.1
    have h2 := clsL_end (s := s) f (fun _ => false) true (i + 1)
    cases hx : clsL s f (fun _ => false) true (i + 1) with
    | ok a j =>
      rw [hx] at h1
      have h3 := (h2 _ _ hx).1
      simp only [PR.In, PR.bind] at h1 ⊢
      omega
    | bad e j => rw [hx] at h1; simp only [PR.In, PR.bind] at h1 ⊢; omega
    | out => trivial
  · have h1 := clsL_in f (fun _ => false) true i hi
    have h2 := clsL_end (s := s) f (fun _ => false) true i
    cases hx : clsL s f (fun _ => false) true i with
    | ok a j =>
      rw [hx] at h1
      have h3 := (h2 _ _ hx).1
      simp only [PR.In, PR.bind] at h1 ⊢
      omega
    | bad e j => rw [hx] at h1; simp only [PR.In, PR.bind] at h1 ⊢; omega
    | out => trivial
/-- how far a part goes at least -/
def Tk.least : Tk → Nat
  | .item => 1
  | .atom => 1
  | _ => 0
theorem prs_in : ∀ (f : Nat) (t : Tk) (d i : Nat), i ≤ s.length → (prs s f t d i).In i t.least s.length
  | 0, _, _, _, _ => trivial
  | f + 1, .alt, d, i, hi => by
    rw [prs]
    exact (prs_in f (.cat []) d i hi).bind fun a j h1 h2 => (prs_in f (.altL [a]) d j h2).mono (by have : (Tk.cat []).least = 0 := rfl; omega) (by have : (Tk.cat []).least = 0 := rfl; simp only [Tk.least]; omega)
  | f + 1, .altL l, d, i, hi => by
    rw [prs]
    split
    · rename_i hc
      refine ((prs_in f (.cat []) d (i + 1) hc.1).mono (i' := i) (k' := 1) (by omega) (by simp only [Tk.least]; omega)).bind fun a j h1 h2 => (prs_in f (.altL _) d j h2).mono (by omega) (by simp only [Tk.least]; omega)
    · simp only [PR.In, Tk.least]; omega
  | f + 1, .cat l, d, i, hi => by
    rw [prs]
    split
    · exact (prs_in f .item d i hi).bind fun a j h1 h2 => (prs_in f (.cat _) d j h2).mono (by omega) (by simp only [Tk.least]; omega)
    · simp only [PR.In, Tk.least]; omega
  | f + 1, .item, d, i, hi => by
    rw [prs]
    exact (prs_in f .atom d i hi).bind fun a j h1 h2 => (prs_in f (.itemL a) d j h2).mono (by omega) (by simp only [Tk.least] at h1 ⊢; omega)
  | f + 1, .itemL t, d, i, hi => by
    rw [prs]
    split
    · rename_i hc; exact (prs_in f (.itemL _) d (i + 1) hc.1).mono (by omega) (by simp only [Tk.least]; omega)
    split
    · rename_i hc; exact (prs_in f (.itemL _) d (i + 1) hc.1).mono (by omega) (by simp only [Tk.least]; omega)
    split
    · rename_i hc; exact (prs_in f (.itemL _) d (i + 1) hc.1).mono (by omega) (by simp only [Tk.least]; omega)
    split
    · rename_i hc
      refine ((bndR_in (i := i + 1) hc.1).mono (i' := i) (k' := 1) (by omega) (by omega)).bind fun b j h1 h2 => ?_
      split
      · rename_i hd; exact (prs_in f (.itemL _) d (j + 1) hd.1).mono (by omega) (by simp only [Tk.least]; omega)
      · simp only [PR.In]; omega
    · simp only [PR.In, Tk.least]; omega
  | f + 1, .atom, d, i, hi => by
    rw [prs]
    split
    · rename_i hc
      split
      · simp only [PR.In]; omega
      · refine ((prs_in f .alt (d + 1) (i + 1) hc.1).mono (i' := i) (k' := 1) (by omega) (by simp only [Tk.least]; omega)).bind fun a j h1 h2 => ?_
        split
        · rename_i hd; simp only [PR.In, Tk.least]; have := hd.1; omega
        · simp only [PR.In]; omega
    split
    · rename_i hc; exact (clsR_in f (i := i + 1) hc.1).mono (by omega) (by simp only [Tk.least]; omega)
    split
    · rename_i hc; simp only [PR.In, Tk.least]; have := hc.1; omega
    split
    · rename_i hc
      split
      · rename_i k hk; have := kndR_lt hk; simp only [PR.In, Tk.least]; omega
      · refine ((escR_in (i := i + 1) hc.1).mono (i' := i) (k' := 1) (by omega) (by omega)).bind fun a j h1 h2 => by simp only [PR.In, Tk.least]; omega
    split
    · simp only [PR.In, Tk.least]; omega
    · simp only [PR.In]; omega
/-- how much a part needs -/
def Tk.need : Tk → Nat
  | .alt => 5
  | .altL _ => 1
  | .cat _ => 4
  | .item => 3
  | .itemL _ => 1
  | .atom => 2
theorem PR.bind_out {α β : Type} {x : PR α} {f : α → Nat → PR β} (hx : x ≠ .out) (hf : ∀ a j, x = .ok a j → f a j ≠ .out) : x.bind f ≠ .out := by
  cases x with
  | ok a j => exact hf a j rfl
  | bad e j => intro h; cases h
  | out => exact absurd rfl hx
theorem numR_out {least : Nat} : numR s least i ≠ .out := by
  unfold numR
  repeat' split
  all_goals (intro h; cases h)
theorem hexR_out {i : Nat} : hexR s i ≠ .out := by
  unfold hexR
  repeat' split
  all_goals (intro h; cases h)
theorem escR_out {i : Nat} : escR s i ≠ .out := by
  unfold escR
  repeat' split
  all_goals first
    | (refine PR.bind_out hexR_out fun a j _ => PR.bind_out hexR_out fun b k _ => ?_; intro h; cases h)
    | (intro h; cases h)
theorem pntR_out {i : Nat} : pntR s i ≠ .out := by
  unfold pntR
  repeat' split
  all_goals first
    | exact escR_out
    | (intro h; cases h)
theorem bndR_out {i : Nat} : bndR s i ≠ .out := by
  unfold bndR
  refine PR.bind_out numR_out fun a j _ => ?_
  repeat' split
  all_goals first
    | (refine PR.bind_out numR_out fun b k _ => ?_; intro h; cases h)
    | (intro h; cases h)
theorem PR.In.okB {α : Type} {x : PR α} {i k n : Nat} (h : x.In i k n) {a : α} {j : Nat} (hx : x = .ok a j) : i + k ≤ j ∧ j ≤ n := by
  rw [hx] at h; exact h
theorem clsL_out : ∀ (f : Nat) (a : Nat → Bool) (first : Bool) (i : Nat), i ≤ s.length → s.length - i < f → clsL s f a first i ≠ .out
  | 0, _, _, _, _, h => absurd h (Nat.not_lt_zero _)
  | f + 1, a, first, i, hi, hf => by
    rw [clsL]
    split
    · intro h; cases h
    split
    · rename_i k hk
      have hc : isC s i 92 ∧ kndR s (i + 1) = some k := by
        split at hk
        · exact ⟨by assumption, hk⟩
        · cases hk
      have := kndR_lt hc.2
      exact clsL_out f _ _ _ (by omega) (by omega)
    · refine PR.bind_out pntR_out fun lo j hp => ?_
      have h1 := (pntR_in hi).okB hp
      split
      · rename_i hc
        refine PR.bind_out pntR_out fun hi' k hq => ?_
        have h2 := (pntR_in (i := j + 1) hc.1).okB hq
        split
        · intro h; cases h
        · exact clsL_out f _ _ _ (by omega) (by omega)
      · exact clsL_out f _ _ _ (by omega) (by omega)
theorem clsR_out (f : Nat) (hi : i ≤ s.length) (hf : s.length - i < f) : clsR s f i ≠ .out := by
  unfold clsR
  split
  · rename_i hc
    have := hc.1
    refine PR.bind_out (clsL_out f _ _ _ (by omega) (by omega)) fun a j _ => ?_
    intro h; cases h
  · refine PR.bind_out (clsL_out f _ _ _ hi (by omega)) fun a j _ => ?_
    intro h; cases h
theorem prs_out : ∀ (f : Nat) (t : Tk) (d i : Nat), i ≤ s.length → 8 * (s.length - i) + t.need ≤ f → prs s f t d i ≠ .out
  | 0, t, _, _, _, h => by cases t <;> simp only [Tk.need] at h <;> omega
  | f + 1, .alt, d, i, hi, hf => by
    rw [prs]
    simp only [Tk.need] at hf
    refine PR.bind_out (prs_out f (.cat []) d i hi (by simp only [Tk.need]; omega)) fun a j hp => ?_
    have h1 := (prs_in f (.cat []) d i hi).okB hp
    simp only [Tk.least] at h1
    exact prs_out f _ d j h1.2 (by simp only [Tk.need]; omega)
  | f + 1, .altL l, d, i, hi, hf => by
    rw [prs]
    simp only [Tk.need] at hf
    split
    · rename_i hc
      have := hc.1
      refine PR.bind_out (prs_out f (.cat []) d (i + 1) hc.1 (by simp only [Tk.need]; omega)) fun a j hp => ?_
      have h1 := (prs_in f (.cat []) d (i + 1) hc.1).okB hp
      simp only [Tk.least] at h1
      exact prs_out f _ d j h1.2 (by simp only [Tk.need]; omega)
    · intro h; cases h
  | f + 1, .cat l, d, i, hi, hf => by
    rw [prs]
    simp only [Tk.need] at hf
    split
    · refine PR.bind_out (prs_out f .item d i hi (by simp only [Tk.need]; omega)) fun a j hp => ?_
      have h1 := (prs_in f .item d i hi).okB hp
      simp only [Tk.least] at h1
      exact prs_out f _ d j h1.2 (by simp only [Tk.need]; omega)
    · intro h; cases h
  | f + 1, .item, d, i, hi, hf => by
    rw [prs]
    simp only [Tk.need] at hf
    refine PR.bind_out (prs_out f .atom d i hi (by simp only [Tk.need]; omega)) fun a j hp => ?_
    have h1 := (prs_in f .atom d i hi).okB hp
    simp only [Tk.least] at h1
    exact prs_out f _ d j h1.2 (by simp only [Tk.need]; omega)
  | f + 1, .itemL t, d, i, hi, hf => by
    rw [prs]
    simp only [Tk.need] at hf
    split
    · rename_i hc; have := hc.1; exact prs_out f _ d _ hc.1 (by simp only [Tk.need]; omega)
    split
    · rename_i hc; have := hc.1; exact prs_out f _ d _ hc.1 (by simp only [Tk.need]; omega)
    split
    · rename_i hc; have := hc.1; exact prs_out f _ d _ hc.1 (by simp only [Tk.need]; omega)
    split
    · rename_i hc
      have := hc.1
      refine PR.bind_out bndR_out fun b j hp => ?_
      have h1 := (bndR_in (i := i + 1) hc.1).okB hp
      split
      · rename_i hd; have := hd.1; exact prs_out f _ d _ hd.1 (by simp only [Tk.need]; omega)
      · intro h; cases h
    · intro h; cases h
  | f + 1, .atom, d, i, hi, hf => by
    rw [prs]
    simp only [Tk.need] at hf
    split
    · rename_i hc
      have := hc.1
      split
      · intro h; cases h
      · refine PR.bind_out (prs_out f .alt (d + 1) (i + 1) hc.1 (by simp only [Tk.need]; omega)) fun a j hp => ?_
        split <;> (intro h; cases h)
    split
    · rename_i hc; have := hc.1; exact clsR_out f hc.1 (by omega)
    split
    · intro h; cases h
    split
    · split
      · intro h; cases h
      · refine PR.bind_out escR_out fun b j _ => ?_
        intro h; cases h
    split <;> (intro h; cases h)
end
end Go.Proofs.YtnbfifmnigeolaaDoor
namespace Go.Proofs.YtnbfifmnigeolaaDoor
open Go.RowKit
mutual
def Re.sz : Re → Nat
  | .mk _ _ _ _ kids => 1 + Re.szL kids
def Re.szL : List Re → Nat
  | [] => 0
  | t :: l => Re.sz t + Re.szL l
end
theorem szL_append : ∀ (l m : List Re), Re.szL (l ++ m) = Re.szL l + Re.szL m
  | [], m => by simp [Re.szL]
  | t :: l, m => by rw [List.cons_append, Re.szL, Re.szL, szL_append l m]; omega
theorem sz_pos (t : Re) : 1 ≤ t.sz := by cases t; rw [Re.sz]; omega
theorem szL_len : ∀ l : List Re, l.length ≤ Re.szL l
  | [] => Nat.zero_le _
  | t :: l => by rw [List.length_cons, Re.szL]; have := sz_pos t; have := szL_len l; omega
/-- a row of trees, those of one kind taken in -/
def flatT (kind : Int) (l : List Re) : List Re := l.flatMap (fun t => if t.kindP = kind then t.kidsP else [t])
theorem flatT_nil (kind : Int) : flatT kind [] = [] := rfl
theorem flatT_snoc (kind : Int) (l : List Re) (t : Re) : flatT kind (l ++ [t]) = flatT kind l ++ (if t.kindP = kind then t.kidsP else [t]) := by
  unfold flatT; rw [List.flatMap_append]; simp
theorem flatT_le (kind : Int) : ∀ l : List Re, Re.szL (flatT kind l) ≤ Re.szL l
  | [] => Nat.le_refl _
  | t :: l => by
    have ih := flatT_le kind l
    unfold flatT at ih ⊢
    rw [List.flatMap_cons, szL_append, Re.szL]
    have : Re.szL (if t.kindP = kind then t.kidsP else [t]) ≤ t.sz := by
      split
      · cases t; rw [Re.sz]; show Re.szL _ ≤ _; simp only [Re.kidsP]; omega
      · simp [Re.szL]
    omega
theorem joinT_eq (kind : Int) (l : List Re) : joinT kind l = match flatT kind l with | [t] => t | k => .mk kind (0, 0, 0, 0) 0 0 k := rfl
theorem joinT_one {kind : Int} {l : List Re} {t : Re} (h : flatT kind l = [t]) : joinT kind l = t := by rw [joinT_eq, h]
theorem joinT_many {kind : Int} {l : List Re} (h : (flatT kind l).length ≠ 1) : joinT kind l = .mk kind (0, 0, 0, 0) 0 0 (flatT kind l) := by
  rw [joinT_eq]
  split
  · rename_i t e; rw [e] at h; simp at h
  · rfl
theorem joinT_sz (kind : Int) (l : List Re) : (joinT kind l).sz ≤ 1 + Re.szL l := by
  have h := flatT_le kind l
  by_cases h1 : (flatT kind l).length = 1
  · obtain ⟨t, ht⟩ := List.length_eq_one_iff.1 h1
    rw [joinT_one ht]
    rw [ht, Re.szL, Re.szL] at h
    omega
  · rw [joinT_many h1, Re.sz]; omega
theorem setT_sz (p : Nat → Bool) : (setT p).sz = 1 := by unfold setT; rw [Re.sz, Re.szL]
theorem repT_sz (lo : Nat) (hi : Int) (t : Re) : (repT lo hi t).sz ≤ 1 + t.sz := by
  unfold repT
  split
  · omega
  · rw [Re.sz, Re.szL, Re.szL]; omega
/-- how many nodes at most, what went into it and is read from i to j -/
def Tk.bound (i j : Nat) : Tk → Nat
  | .alt => 2 * (j - i) + 2
  | .altL l => Re.szL l + 2 * (j - i) + 1
  | .cat l => Re.szL l + 2 * (j - i) + 1
  | .item => 2 * (j - i) - 1
  | .itemL t => t.sz + 2 * (j - i)
  | .atom => 2 * (j - i) - 1
theorem PR.bind_ok {α β : Type} {x : PR α} {f : α → Nat → PR β} {b : β} {j : Nat} (h : x.bind f = .ok b j) : ∃ a k, x = .ok a k ∧ f a k = .ok b j := by
  cases x with
  | ok a k => exact ⟨a, k, rfl, h⟩
  | bad e k => cases h
  | out => cases h
section
variable {s : List UInt8}
theorem clsR_sz {f i : Nat} {t : Re} {j : Nat} (h : clsR s f i = .ok t j) : t.sz = 1 := by
  unfold clsR at h
  split at h
  all_goals
    obtain ⟨a, k, _, h2⟩ := PR.bind_ok h
    simp only [PR.ok.injEq] at h2
    rw [← h2.1]; exact setT_sz _
theorem prs_sz : ∀ (f : Nat) (k : Tk) (d i : Nat), i ≤ s.length → ∀ t j, prs s f k d i = .ok t j → t.sz ≤ k.bound i j
  | 0, _, _, _, _, _, _, h => by rw [prs] at h; cases h
  | f + 1, .alt, d, i, hi, t, j, h => by
    rw [prs] at h
    obtain ⟨a, k, h1, h2⟩ := PR.bind_ok h
    have b1 := (prs_in f (.cat []) d i hi).okB h1
    have b2 := (prs_in f (.altL [a]) d k b1.2).okB h2
    have c1 := prs_sz f _ d i hi _ _ h1
    have c2 := prs_sz f _ d k b1.2 _ _ h2
    simp only [Tk.bound, Tk.least, Re.szL] at *
    omega
  | f + 1, .altL l, d, i, hi, t, j, h => by
    rw [prs] at h
    split at h
    · rename_i hc
      obtain ⟨a, k, h1, h2⟩ := PR.bind_ok h
      have b1 := (prs_in f (.cat []) d (i + 1) hc.1).okB h1
      have b2 := (prs_in f (.altL (l ++ [a])) d k b1.2).okB h2
      have c1 := prs_sz f _ d (i + 1) hc.1 _ _ h1
      have c2 := prs_sz f _ d k b1.2 _ _ h2
      simp only [Tk.bound, Tk.least, Re.szL, szL_append] at *
      omega
    · simp only [PR.ok.injEq] at h
      have := joinT_sz 3 l
      rw [← h.1]
      simp only [Tk.bound]
      omega
  | f + 1, .cat l, d, i, hi, t, j, h => by
    rw [prs] at h
    split at h
    · obtain ⟨a, k, h1, h2⟩ := PR.bind_ok h
      have b1 := (prs_in f .item d i hi).okB h1
      have b2 := (prs_in f (.cat (l ++ [a])) d k b1.2).okB h2
      have c1 := prs_sz f _ d i hi _ _ h1
      have c2 := prs_sz f _ d k b1.2 _ _ h2
      simp only [Tk.bound, Tk.least, Re.szL, szL_append] at *
      omega
    · simp only [PR.ok.injEq] at h
      have := joinT_sz 2 l
      rw [← h.1]
      simp only [Tk.bound]
      omega
  | f + 1, .item, d, i, hi, t, j, h => by
    rw [prs] at h
    obtain ⟨a, k, h1, h2⟩ := PR.bind_ok h
    have b1 := (prs_in f .atom d i hi).okB h1
    have b2 := (prs_in f (.itemL a) d k b1.2).okB h2
    have c1 := prs_sz f _ d i hi _ _ h1
    have c2 := prs_sz f _ d k b1.2 _ _ h2
    simp only [Tk.bound, Tk.least] at *
    omega
  | f + 1, .itemL t0, d, i, hi, t, j, h => by
    rw [prs] at h
    have step : ∀ lo hi' (k : Nat), i + 1 ≤ k → k ≤ s.length → prs s f (.itemL (repT lo hi' t0)) d k = .ok t j → t.sz ≤ t0.sz + 2 * (j - i) := by
      intro lo hi' k h1 h2 h3
      have b2 := (prs_in f (.itemL (repT lo hi' t0)) d k h2).okB h3
      have c2 := prs_sz f _ d k h2 _ _ h3
      have := repT_sz lo hi' t0
      simp only [Tk.bound, Tk.least] at *
      omega
    split at h
    · rename_i hc; exact step _ _ _ (Nat.le_refl _) hc.1 h
    split at h
    · rename_i hc; exact step _ _ _ (Nat.le_refl _) hc.1 h
    split at h
    · rename_i hc; exact step _ _ _ (Nat.le_refl _) hc.1 h
    split at h
    · rename_i hc
      obtain ⟨b, k, h1, h2⟩ := PR.bind_ok h
      have b1 := (bndR_in (i := i + 1) hc.1).okB h1
      split at h2
      · rename_i hd; exact step _ _ _ (by omega) hd.1 h2
      · cases h2
    · simp only [PR.ok.injEq] at h
      rw [← h.1]
      simp only [Tk.bound]
      omega
  | f + 1, .atom, d, i, hi, t, j, h => by
    have hin := (prs_in (f + 1) .atom d i hi).okB h
    simp only [Tk.least, Tk.bound] at hin ⊢
    rw [prs] at h
    split at h
    · rename_i hc
      split at h
      · cases h
      · obtain ⟨a, k, h1, h2⟩ := PR.bind_ok h
        have b1 := (prs_in f .alt (d + 1) (i + 1) hc.1).okB h1
        have c1 := prs_sz f _ (d + 1) (i + 1) hc.1 _ _ h1
        split at h2
        · simp only [PR.ok.injEq] at h2
          simp only [Tk.bound, Tk.least] at *
          rw [← h2.1]
          omega
        · cases h2
    split at h
    · have := clsR_sz h; omega
    split at h
    · simp only [PR.ok.injEq] at h; rw [← h.1, setT_sz]; omega
    split at h
    · split at h
      · simp only [PR.ok.injEq] at h; rw [← h.1, setT_sz]; omega
      · obtain ⟨a, k, h1, h2⟩ := PR.bind_ok h
        simp only [PR.ok.injEq] at h2; rw [← h2.1, setT_sz]; omega
    split at h
    · simp only [PR.ok.injEq] at h; rw [← h.1, setT_sz]; omega
    · cases h
end
end Go.Proofs.YtnbfifmnigeolaaDoor
namespace Go.Proofs.YtnbfifmnigeolaaDoor
open Go.RowKit
/-- these bytes stand there -/
def At (s : List UInt8) (i : Nat) (u : List UInt8) : Prop := ∀ k, k < u.length → i + k < s.length ∧ s.getD (i + k) 0 = u.getD k 0
section
variable {s : List UInt8} {i : Nat}
theorem At.nil : At s i [] := fun _ hk => absurd hk (Nat.not_lt_zero _)
theorem At.left {u v : List UInt8} (h : At s i (u ++ v)) : At s i u := fun k hk => by
  obtain ⟨h1, h2⟩ := h k (by rw [List.length_append]; omega)
  refine ⟨h1, h2.trans ?_⟩
  rw [List.getD_eq_getElem?_getD, List.getD_eq_getElem?_getD, List.getElem?_append_left hk]
theorem At.right {u v : List UInt8} (h : At s i (u ++ v)) : At s (i + u.length) v := fun k hk => by
  obtain ⟨h1, h2⟩ := h (u.length + k) (by rw [List.length_append]; omega)
  rw [← Nat.add_assoc] at h1 h2
  refine ⟨h1, h2.trans ?_⟩
  rw [List.getD_eq_getElem?_getD, List.getD_eq_getElem?_getD, List.getElem?_append_right (by omega), Nat.add_sub_cancel_left]
theorem At.head {c : UInt8} {u : List UInt8} (h : At s i (c :: u)) : i < s.length ∧ bt s i = c.toNat := by
  obtain ⟨h1, h2⟩ := h 0 (by simp)
  rw [Nat.add_zero] at h1 h2
  exact ⟨h1, by unfold bt; rw [h2]; rfl⟩
theorem At.tail {c : UInt8} {u : List UInt8} (h : At s i (c :: u)) : At s (i + 1) u := At.right (u := [c]) h
theorem At.isC {c : UInt8} {u : List UInt8} (h : At s i (c :: u)) : isC s i c.toNat := h.head
theorem At.len {u : List UInt8} (h : At s i u) (h0 : i ≤ s.length) : i + u.length ≤ s.length := by
  rcases Nat.eq_zero_or_pos u.length with h1 | h1
  · omega
  · have := (h (u.length - 1) (by omega)).1; omega
end
theorem isC_ne {s : List UInt8} {i c d : Nat} (h : bt s i = c) (hne : c ≠ d) : ¬ isC s i d := fun q => hne (h.symm.trans q.2)
theorem hexV_hexd : ∀ n : Fin 16, hexV (hexd n.val).toNat = some n.val := by decide
theorem hexR_at {s : List UInt8} {i n : Nat} (hn : n < 16) (h : i < s.length ∧ bt s i = (hexd n).toNat) : hexR s i = .ok n (i + 1) := by
  unfold hexR
  rw [if_pos h.1, h.2, hexV_hexd ⟨n, hn⟩]
theorem sgL_lt' : ∀ c ∈ sgL, c < 256 := by decide
theorem sgL_not : ∀ c, (c ∈ sgL ∨ c = 45 ∨ c = 47) → c ≠ 110 ∧ c ≠ 116 ∧ c ≠ 114 ∧ c ≠ 120 ∧ c ≠ 100 ∧ c ≠ 68 ∧ c ≠ 119 ∧ c ≠ 87 ∧ c ≠ 115 ∧ c ≠ 83 := by
  intro c h
  rcases h with h | h | h
  · simp only [sgL, List.mem_cons, List.not_mem_nil, or_false] at h
    omega
  · omega
  · omega
theorem u8n {c : Nat} (h : c < 256) : (u8 c).toNat = c := u8_toNat_lt h
theorem sgP_sgL : sgP = sgL := rfl
/-- what escR reads behind the backslash of a written byte; no class's letter stands there -/
theorem esc_wrt {s : List UInt8} {i c : Nat} {inn : Bool} (hc : c < 256) (h : At s i (wrt c inn)) (hb : bt s i = 92) : escR s (i + 1) = .ok c (i + (wrt c inn).length) ∧ kndR s (i + 1) = none ∧ isC s i 92 := by
  unfold wrt at h ⊢
  by_cases h1 : c = 10
  · subst h1
    rw [if_pos rfl] at h ⊢
    have e1 : i + 1 < s.length ∧ bt s (i + 1) = 110 := h.tail.head
    refine ⟨?_, ?_, h.head⟩
    · unfold escR; rw [if_pos e1.1, if_pos e1.2]; rfl
    · unfold kndR; rw [if_pos e1.1, e1.2]; rfl
  rw [if_neg h1] at h ⊢
  by_cases h2 : c = 9
  · subst h2
    rw [if_pos rfl] at h ⊢
    have e1 : i + 1 < s.length ∧ bt s (i + 1) = 116 := h.tail.head
    refine ⟨?_, ?_, h.head⟩
    · unfold escR; rw [if_pos e1.1, if_neg (by rw [e1.2]; decide), if_pos e1.2]; rfl
    · unfold kndR; rw [if_pos e1.1, e1.2]; rfl
  rw [if_neg h2] at h ⊢
  by_cases h3 : c = 13
  · subst h3
    rw [if_pos rfl] at h ⊢
    have e1 : i + 1 < s.length ∧ bt s (i + 1) = 114 := h.tail.head
    refine ⟨?_, ?_, h.head⟩
    · unfold escR; rw [if_pos e1.1, if_neg (by rw [e1.2]; decide), if_neg (by rw [e1.2]; decide), if_pos e1.2]; rfl
    · unfold kndR; rw [if_pos e1.1, e1.2]; rfl
  rw [if_neg h3] at h ⊢
  by_cases h4 : c ∈ sgL ∨ (inn = true ∧ (c = 45 ∨ c = 47))
  · rw [if_pos h4] at h ⊢
    have h5 : c ∈ sgL ∨ c = 45 ∨ c = 47 := h4.imp id And.right
    have hn := sgL_not c h5
    have e1 := h.tail.head
    rw [u8n hc] at e1
    refine ⟨?_, ?_, h.head⟩
    · unfold escR
      rw [if_pos e1.1, e1.2, if_neg hn.1, if_neg hn.2.1, if_neg hn.2.2.1, if_neg hn.2.2.2.1, sgP_sgL, if_pos h5]
      rfl
    · unfold kndR kndC
      rw [if_pos e1.1, e1.2, if_neg hn.2.2.2.2.1, if_neg hn.2.2.2.2.2.1, if_neg hn.2.2.2.2.2.2.1, if_neg hn.2.2.2.2.2.2.2.1, if_neg hn.2.2.2.2.2.2.2.2.1, if_neg hn.2.2.2.2.2.2.2.2.2]
  rw [if_neg h4] at h ⊢
  by_cases h5 : 32 < c ∧ c < 127
  · rw [if_pos h5] at h
    have e0 := h.head
    rw [u8n hc, hb] at e0
    exact absurd (.inl (by rw [← e0.2]; decide)) h4
  · rw [if_neg h5] at h ⊢
    have e1 : i + 1 < s.length ∧ bt s (i + 1) = 120 := h.tail.head
    have e2 := h.tail.tail.head
    have e3 := h.tail.tail.tail.head
    refine ⟨?_, ?_, h.head⟩
    · unfold escR
      rw [if_pos e1.1, if_neg (by rw [e1.2]; decide), if_neg (by rw [e1.2]; decide), if_neg (by rw [e1.2]; decide), if_pos e1.2, hexR_at (by omega) e2]
      simp only [PR.bind]
      rw [hexR_at (Nat.mod_lt _ (by decide)) e3]
      simp only [Nat.div_add_mod]
      rfl
    · unfold kndR; rw [if_pos e1.1, e1.2]; rfl
/-- a written byte begins with a backslash, or is that byte, which is no sign -/
theorem wrt_head {s : List UInt8} {i c : Nat} {inn : Bool} (hc : c < 256) (h : At s i (wrt c inn)) : i < s.length ∧ (bt s i = 92 ∨ (bt s i = c ∧ (wrt c inn).length = 1 ∧ c ∉ sgL ∧ ¬ (inn = true ∧ (c = 45 ∨ c = 47)))) := by
  unfold wrt at h ⊢
  by_cases h1 : c = 10
  · rw [if_pos h1] at h; exact ⟨h.head.1, .inl h.head.2⟩
  rw [if_neg h1] at h ⊢
  by_cases h2 : c = 9
  · rw [if_pos h2] at h; exact ⟨h.head.1, .inl h.head.2⟩
  rw [if_neg h2] at h ⊢
  by_cases h3 : c = 13
  · rw [if_pos h3] at h; exact ⟨h.head.1, .inl h.head.2⟩
  rw [if_neg h3] at h ⊢
  by_cases h4 : c ∈ sgL ∨ (inn = true ∧ (c = 45 ∨ c = 47))
  · rw [if_pos h4] at h; exact ⟨h.head.1, .inl h.head.2⟩
  rw [if_neg h4] at h ⊢
  by_cases h5 : 32 < c ∧ c < 127
  · rw [if_pos h5] at h ⊢
    exact ⟨h.head.1, .inr ⟨by rw [h.head.2, u8n hc], rfl, fun q => h4 (.inl q), fun q => h4 (.inr q)⟩⟩
  · rw [if_neg h5] at h; exact ⟨h.head.1, .inl h.head.2⟩
theorem pnt_wrt {s : List UInt8} {i c : Nat} (hc : c < 256) (h : At s i (wrt c true)) : pntR s i = .ok c (i + (wrt c true).length) := by
  obtain ⟨h0, hb | ⟨hb, hl, hn, hx⟩⟩ := wrt_head hc h
  · unfold pntR; rw [if_pos ⟨h0, hb⟩, (esc_wrt hc h hb).1]
  · have n92 : c ≠ 92 := fun e => hn (by rw [e]; decide)
    have n93 : c ≠ 93 := fun e => hn (by rw [e]; decide)
    unfold pntR
    rw [if_neg (isC_ne hb n92), if_pos ⟨h0, by rw [hb]; exact n93, by rw [hb]; exact fun e => hx ⟨rfl, .inl e⟩⟩, hb, hl]
theorem atom_wrt {s : List UInt8} {f d i c : Nat} (hc : c < 256) (h : At s i (wrt c false)) : prs s (f + 1) .atom d i = .ok (setT (oneB c)) (i + (wrt c false).length) := by
  obtain ⟨h0, hb | ⟨hb, hl, hn, hx⟩⟩ := wrt_head hc h
  · obtain ⟨e1, e2, e3⟩ := esc_wrt hc h hb
    rw [prs, if_neg (isC_ne hb (by decide)), if_neg (isC_ne hb (by decide)), if_neg (isC_ne hb (by decide)), if_pos e3, e2]
    dsimp only
    rw [e1]; rfl
  · have n : ∀ k ∈ sgL, c ≠ k := fun k hk e => hn (by rw [e]; exact hk)
    rw [prs, if_neg (isC_ne hb (n 40 (by decide))), if_neg (isC_ne hb (n 91 (by decide))), if_neg (isC_ne hb (n 46 (by decide))), if_neg (isC_ne hb (n 92 (by decide))), if_pos ⟨h0, by rw [hb]; exact hn⟩, hb, hl]
end Go.Proofs.YtnbfifmnigeolaaDoor
namespace Go.Proofs.YtnbfifmnigeolaaDoor
open Go.RowKit
theorem runF_rise (l : List Nat) (i : Nat) : ∀ (f n : Nat), (∀ m, m < n → l.getD (i + m) 0 = l.getD i 0 + m) → ∀ m, m < runF l i f n → l.getD (i + m) 0 = l.getD i 0 + m
  | 0, n, h, m, hm => h m hm
  | f + 1, n, h, m, hm => by
    rw [runF] at hm
    split at hm
    · rename_i hc
      exact runF_rise l i f (n + 1) (fun m' hm' => by
        by_cases e : m' = n
        · rw [e]; exact hc.2
        · exact h m' (by omega)) m hm
    · exact h m hm
theorem runN_rise (l : List Nat) (i : Nat) : ∀ m, m < runN l i → l.getD (i + m) 0 = l.getD i 0 + m := runF_rise l i _ 1 fun m hm => by
  have : m = 0 := by omega
  subst this; simp
section
variable {s : List UInt8} {l : List Nat}
theorem prt_head {pf k j : Nat} (hl : ∀ x ∈ l, x < 256) (hp : l.length - k ≤ pf) (h : At s j (prtF l pf k ++ [93])) : ¬ isC s j 45 := by
  by_cases hk : k < l.length
  · obtain ⟨pf', rfl⟩ : ∃ q, pf = q + 1 := ⟨pf - 1, by omega⟩
    have hx : l.getD k 0 < 256 := by rw [List.getD_eq_getElem?_getD, List.getElem?_eq_getElem hk]; exact hl _ (List.getElem_mem hk)
    have hw : At s j (wrt (l.getD k 0) true) := by
      by_cases h4 : 4 ≤ runN l k
      · rw [prtF_run hk h4] at h; exact h.left.left.left.left
      · rw [prtF_one hk h4] at h; exact h.left.left
    obtain ⟨h0, hb | ⟨hb, _, _, hn⟩⟩ := wrt_head hx hw
    · exact isC_ne hb (by decide)
    · exact isC_ne hb fun e => hn ⟨rfl, .inl e⟩
  · rw [prtF_end hk] at h
    exact isC_ne h.head.2 (by decide)
theorem cls_prt (hl : ∀ x ∈ l, x < 256) : ∀ (pf F k i : Nat) (a : Nat → Bool) (first : Bool), At s i (prtF l pf k ++ [93]) → l.length - k ≤ pf → l.length - k < F → (first = true → k < l.length) →
    ∃ A, clsL s F a first i = .ok A (i + (prtF l pf k).length) ∧ ∀ b, A b = (a b || decide (b ∈ l.drop k))
  | pf, 0, k, i, a, first, _, _, hF, _ => by omega
  | pf, F + 1, k, i, a, first, h, hp, hF, hf => by
    by_cases hk : k < l.length
    · obtain ⟨pf', rfl⟩ : ∃ q, pf = q + 1 := ⟨pf - 1, by omega⟩
      obtain ⟨lo, hlo⟩ : ∃ lo, l.getD k 0 = lo := ⟨_, rfl⟩
      have hx : lo < 256 := by rw [← hlo, List.getD_eq_getElem?_getD, List.getElem?_eq_getElem hk]; exact hl _ (List.getElem_mem hk)
      have hlk : l.drop k = lo :: l.drop (k + 1) := by
        rw [List.drop_eq_getElem_cons hk, ← hlo, List.getD_eq_getElem?_getD, List.getElem?_eq_getElem hk]; rfl
      have hw : At s i (wrt lo true) := by
        rw [← hlo]
        by_cases h4 : 4 ≤ runN l k
        · rw [prtF_run hk h4] at h; exact h.left.left.left.left
        · rw [prtF_one hk h4] at h; exact h.left.left
      have n93 : ¬ isC s i 93 := by
        obtain ⟨h0, hb | ⟨hb, _, hn, _⟩⟩ := wrt_head hx hw
        · exact isC_ne hb (by decide)
        · exact isC_ne hb fun e => hn (by rw [e]; decide)
      have hK : (if isC s i 92 then kndR s (i + 1) else none) = none := by
        obtain ⟨h0, hb | ⟨hb, _, hn, _⟩⟩ := wrt_head hx hw
        · rw [if_pos ⟨h0, hb⟩]; exact (esc_wrt hx hw hb).2.1
        · exact if_neg (isC_ne hb fun e => hn (by rw [e]; decide))
      rw [clsL, if_neg (fun q => n93 q.2), hK]
      dsimp only
      rw [pnt_wrt hx hw]
      simp only [PR.bind]
      by_cases h4 : 4 ≤ runN l k
      · obtain ⟨hr1, hr2⟩ := runN_b hk
        have hrise := runN_rise l k
        obtain ⟨n, hn⟩ : ∃ n, runN l k = n := ⟨_, rfl⟩
        have hhi : l.getD (k + n - 1) 0 = lo + (n - 1) := by
          have := hrise (n - 1) (by omega)
          rw [← Nat.add_sub_assoc (by omega)] at this
          rw [this, hlo]
        rw [prtF_run hk h4, hlo, hn, hhi] at h ⊢
        rw [hn] at hr1 hr2 hrise h4
        have hx2 : lo + (n - 1) < 256 := by
          rw [← hhi, List.getD_eq_getElem?_getD, List.getElem?_eq_getElem (show k + n - 1 < l.length by omega)]; exact hl _ (List.getElem_mem _)
        have h45 : isC s (i + (wrt lo true).length) 45 := h.left.left.left.right.isC
        have hw2 : At s (i + (wrt lo true).length + 1) (wrt (lo + (n - 1)) true) := by
          have := h.left.left.right
          rw [List.length_append, List.length_cons, List.length_nil, ← Nat.add_assoc] at this
          exact this
        have hr : At s (i + (wrt lo true).length + 1 + (wrt (lo + (n - 1)) true).length) (prtF l pf' (k + n) ++ [93]) := by
          have e : (wrt lo true ++ [45] ++ wrt (lo + (n - 1)) true ++ prtF l pf' (k + n) ++ [93]) = (wrt lo true ++ [45] ++ wrt (lo + (n - 1)) true) ++ (prtF l pf' (k + n) ++ [93]) := by simp only [List.append_assoc]
          rw [e] at h
          have := h.right
          rw [List.length_append, List.length_append, List.length_cons, List.length_nil] at this
          rw [show i + (wrt lo true).length + 1 + (wrt (lo + (n - 1)) true).length = i + ((wrt lo true).length + (0 + 1) + (wrt (lo + (n - 1)) true).length) by omega]
          exact this
        rw [if_pos h45, pnt_wrt hx2 hw2]
        dsimp only
        rw [if_neg (by omega)]
        obtain ⟨A, hA, hAb⟩ := cls_prt hl pf' F (k + n) _ (orB a (rngB lo (lo + (n - 1)))) false hr (by omega) (by omega) (fun e => by cases e)
        refine ⟨A, ?_, fun b => ?_⟩
        · rw [hA]
          simp only [List.length_append, List.length_cons, List.length_nil, PR.ok.injEq, true_and]
          omega
        · rw [hAb b]
          have hmem : b ∈ l.drop k ↔ (lo ≤ b ∧ b < lo + (n - 1) + 1) ∨ b ∈ l.drop (k + n) := by
            have e : l.drop k = (l.drop k).take n ++ l.drop (k + n) := by rw [← List.drop_drop, List.take_append_drop]
            rw [e, List.mem_append]
            refine or_congr ?_ Iff.rfl
            constructor
            · intro hm
              obtain ⟨m, hm1⟩ := List.getElem?_of_mem hm
              have hmn : m < n := by
                have := (List.getElem?_eq_some_iff.1 hm1).1
                rw [List.length_take] at this; omega
              rw [List.getElem?_take_of_lt hmn, List.getElem?_drop] at hm1
              have := hrise m hmn
              rw [List.getD_eq_getElem?_getD, hm1, hlo] at this
              simp only [Option.getD_some] at this
              omega
            · rintro ⟨h1, h2⟩
              have hmn : b - lo < n := by omega
              have := hrise (b - lo) hmn
              rw [hlo, List.getD_eq_getElem?_getD, List.getElem?_eq_getElem (show k + (b - lo) < l.length by omega)] at this
              simp only [Option.getD_some] at this
              refine List.mem_of_getElem? (i := b - lo) ?_
              rw [List.getElem?_take_of_lt hmn, List.getElem?_drop, List.getElem?_eq_getElem (show k + (b - lo) < l.length by omega), this]
              congr 1; omega
          unfold orB rngB
          rw [Bool.or_assoc, ← Bool.decide_and, ← Bool.decide_or, decide_eq_decide.2 hmem]
      · rw [prtF_one hk h4, hlo] at h ⊢
        have hr : At s (i + (wrt lo true).length) (prtF l pf' (k + 1) ++ [93]) := by
          rw [List.append_assoc] at h; exact h.right
        rw [if_neg (prt_head hl (by omega) hr)]
        obtain ⟨A, hA, hAb⟩ := cls_prt hl pf' F (k + 1) _ (orB a (rngB lo lo)) false hr (by omega) (by omega) (fun e => by cases e)
        refine ⟨A, ?_, fun b => ?_⟩
        · rw [hA, List.length_append, Nat.add_assoc]
        · rw [hAb b, hlk]
          have hmem : b ∈ lo :: l.drop (k + 1) ↔ (lo ≤ b ∧ b < lo + 1) ∨ b ∈ l.drop (k + 1) := by
            rw [List.mem_cons]
            exact or_congr ⟨fun e => by omega, fun e => by omega⟩ Iff.rfl
          unfold orB rngB
          rw [Bool.or_assoc, ← Bool.decide_and, ← Bool.decide_or, decide_eq_decide.2 hmem]
    · have hfst : first = false := by
        cases first with
        | true => exact absurd (hf rfl) hk
        | false => rfl
      rw [prtF_end hk] at h ⊢
      rw [clsL, if_pos ⟨hfst, h.isC⟩]
      exact ⟨a, rfl, fun b => by rw [List.drop_eq_nil_of_le (by omega)]; simp⟩
end
end Go.Proofs.YtnbfifmnigeolaaDoor
namespace Go.Proofs.YtnbfifmnigeolaaDoor
open Go.RowKit
theorem setT_congr {p q : Nat → Bool} (h : ∀ b, b < 256 → p b = q b) : setT p = setT q := by
  unfold setT wS
  rw [W_congr h (show 0 < 4 by omega), W_congr h (show 1 < 4 by omega), W_congr h (show 2 < 4 by omega), W_congr h (show 3 < 4 by omega)]
theorem bytes_all {p : Nat → Bool} (h : (bytesTo p 256).length = 256) (b : Nat) (hb : b < 256) : p b = true := by
  unfold bytesTo at h
  have := List.length_filter_eq_length_iff.1 (h.trans (by simp : (256 : Nat) = (List.range 256).length))
  exact this b (by simp [hb])
theorem bytes_none {p : Nat → Bool} (h : (bytesTo p 256).length = 0) (b : Nat) (hb : b < 256) : p b = false := by
  cases hp : p b with
  | false => rfl
  | true =>
    have := (bytesTo_mem hb).2 hp
    rw [List.eq_nil_of_length_eq_zero h] at this
    cases this
theorem bytes_low (p : Nat → Bool) : ∀ x ∈ bytesTo p 256, x < 256 := fun _ h => bytesTo_lt h
theorem bytes_is (p : Nat → Bool) (b : Nat) (hb : b < 256) : decide (b ∈ bytesTo p 256) = p b := by
  cases hp : p b with
  | true => exact decide_eq_true ((bytesTo_mem hb).2 hp)
  | false => exact decide_eq_false fun q => by rw [(bytesTo_mem hb).1 q] at hp; cases hp
section
variable {s : List UInt8} {d i F : Nat} {p : Nat → Bool}
theorem atom_class {A : Nat → Bool} {k : Nat} (h : isC s i 91) (hc : clsR s F (i + 1) = .ok (setT A) k) : prs s (F + 1) .atom d i = .ok (setT A) k := by
  rw [prs, if_neg (isC_ne h.2 (by decide)), if_pos h, hc]
/-- a class's parts, written, between brackets -/
theorem cls_list {l : List Nat} {neg : Bool} (hl : ∀ x ∈ l, x < 256) (h0 : 0 < l.length) (hF : l.length < F) (h : At s i ([91] ++ (if neg then [94] else []) ++ prt l ++ [93])) :
    ∃ A, prs s (F + 1) .atom d i = .ok (setT A) (i + ([91] ++ (if neg then [94] else []) ++ prt l ++ [93] : List UInt8).length) ∧ ∀ b, A b = (if neg then !decide (b ∈ l) else decide (b ∈ l)) := by
  have h91 : isC s i 91 := h.left.left.left.isC
  cases neg with
  | true =>
    have h' : At s i (([91] ++ [94]) ++ (prt l ++ [93])) := by simpa only [List.append_assoc, if_true] using h
    have h94 : isC s (i + 1) 94 := h'.left.right.isC
    obtain ⟨A, hA, hb⟩ := cls_prt (s := s) hl l.length F 0 (i + 1 + 1) (fun _ => false) true h'.right (Nat.le_refl _) (by omega) (fun _ => h0)
    refine ⟨notB A, atom_class h91 ?_, fun b => ?_⟩
    · unfold clsR
      rw [if_pos h94, hA]
      simp only [PR.bind, PR.ok.injEq, true_and, if_true, prt, List.length_append, List.length_cons, List.length_nil]
      omega
    · show (!A b) = _
      rw [hb b]
      simp
  | false =>
    have h' : At s i ([91] ++ (prt l ++ [93])) := by simpa only [List.append_assoc, List.append_nil, Bool.false_eq_true, if_false] using h
    have n94 : ¬ isC s (i + 1) 94 := by
      have hx : l.getD 0 0 < 256 := by rw [List.getD_eq_getElem?_getD, List.getElem?_eq_getElem h0]; exact hl _ (List.getElem_mem h0)
      have hw : At s (i + 1) (wrt (l.getD 0 0) true) := by
        have hr : At s (i + 1) (prt l ++ [93]) := h'.right
        unfold prt at hr
        obtain ⟨m, hm⟩ : ∃ m, l.length = m + 1 := ⟨l.length - 1, by omega⟩
        rw [hm] at hr
        by_cases h4 : 4 ≤ runN l 0
        · rw [prtF_run h0 h4] at hr; exact hr.left.left.left.left
        · rw [prtF_one h0 h4] at hr; exact hr.left.left
      obtain ⟨_, hb | ⟨hb, _, hn, _⟩⟩ := wrt_head hx hw
      · exact isC_ne hb (by decide)
      · exact isC_ne hb fun e => hn (by rw [e]; decide)
    obtain ⟨A, hA, hb⟩ := cls_prt (s := s) hl l.length F 0 (i + 1) (fun _ => false) true h'.right (Nat.le_refl _) (by omega) (fun _ => h0)
    refine ⟨A, atom_class h91 ?_, fun b => ?_⟩
    · unfold clsR
      rw [if_neg n94, hA]
      simp only [PR.bind, PR.ok.injEq, true_and, Bool.false_eq_true, if_false, prt, List.length_append, List.length_cons, List.length_nil]
      omega
    · rw [hb b]
      simp
/-- all bytes, as one range -/
theorem all_prt : [92, 120, 48, 48, 45, 92, 120, 102, 102] = wrt 0 true ++ [45] ++ wrt 255 true := by decide
theorem cls_all {a : Nat → Bool} {j : Nat} (h : At s j ([92, 120, 48, 48, 45, 92, 120, 102, 102] ++ [93])) (hF : 2 ≤ F) : ∃ A, clsL s F a true j = .ok A (j + 9) ∧ ∀ b, b < 256 → A b = true := by
  rw [all_prt] at h
  obtain ⟨F', rfl⟩ : ∃ q, F = q + 1 + 1 := ⟨F - 2, by omega⟩
  have hw : At s j (wrt 0 true) := h.left.left.left
  have hb := (h.left.left.left.head (c := 92) (u := [120, 48, 48]))
  have h45 : isC s (j + (wrt 0 true).length) 45 := h.left.left.right.isC
  have hw2 : At s (j + (wrt 0 true).length + 1) (wrt 255 true) := by
    have := h.left.right
    rw [List.length_append, List.length_cons, List.length_nil, ← Nat.add_assoc] at this
    exact this
  have h93 : isC s (j + (wrt 0 true).length + 1 + (wrt 255 true).length) 93 := by
    have := h.right.isC
    rw [List.length_append, List.length_append, List.length_cons, List.length_nil] at this
    rw [show j + (wrt 0 true).length + 1 + (wrt 255 true).length = j + ((wrt 0 true).length + (0 + 1) + (wrt 255 true).length) by omega]
    exact this
  have e := esc_wrt (inn := true) (c := 0) (by decide) hw hb.2
  refine ⟨orB a (rngB 0 255), ?_, fun b hb => by unfold orB rngB; rw [decide_eq_true (Nat.zero_le b), decide_eq_true (show b < 255 + 1 by omega)]; simp⟩
  rw [clsL, if_neg (fun q => by cases q.1), if_pos e.2.2, e.2.1]
  dsimp only
  rw [pnt_wrt (by decide) hw]
  simp only [PR.bind]
  rw [if_pos h45, pnt_wrt (by decide) hw2]
  dsimp only
  rw [if_neg (by decide), clsL, if_pos ⟨rfl, h93⟩]
  rfl
theorem atom_set (hF : 300 ≤ F) (h : At s i (setTx p)) : ∃ q, prs s (F + 1) .atom d i = .ok (setT q) (i + (setTx p).length) ∧ ∀ b, b < 256 → q b = p b := by
  unfold setTx at h ⊢
  by_cases h1 : (bytesTo p 256).length = 1
  · rw [if_pos h1] at h ⊢
    obtain ⟨c, hc⟩ := List.length_eq_one_iff.1 h1
    have e : (bytesTo p 256).getD 0 0 = c := by rw [hc]; rfl
    rw [e] at h ⊢
    have hc256 : c < 256 := bytesTo_lt (p := p) (by rw [hc]; simp)
    refine ⟨oneB c, atom_wrt hc256 h, fun b hb => ?_⟩
    rw [← bytes_is p b hb, hc]
    unfold oneB
    by_cases e : b = c
    · subst e; simp
    · simp [e]
  rw [if_neg h1] at h ⊢
  by_cases h2 : W p 0 = W noLn 0 ∧ W p 1 = W noLn 1 ∧ W p 2 = W noLn 2 ∧ W p 3 = W noLn 3
  · rw [if_pos h2] at h ⊢
    have e0 : bt s i = 46 := h.head.2
    refine ⟨notB (oneB 10), ?_, fun b hb => ?_⟩
    · have h46 : isC s i 46 := h.isC
      rw [prs, if_neg (isC_ne e0 (by decide)), if_neg (isC_ne e0 (by decide)), if_pos h46]
      rfl
    · have := W_inj (p := p) (q := noLn) (fun k hk => by
        rcases (by omega : k = 0 ∨ k = 1 ∨ k = 2 ∨ k = 3) with rfl | rfl | rfl | rfl
        · exact h2.1
        · exact h2.2.1
        · exact h2.2.2.1
        · exact h2.2.2.2) b hb
      rw [this]; rfl
  rw [if_neg h2] at h ⊢
  by_cases h3 : (bytesTo p 256).length = 0
  · rw [if_pos h3] at h ⊢
    have h' : At s i (([91, 94] : List UInt8) ++ ([92, 120, 48, 48, 45, 92, 120, 102, 102] ++ [93])) := h
    obtain ⟨A, hA, hb⟩ := cls_all (F := F) (a := fun _ => false) h'.right (by omega)
    refine ⟨notB A, atom_class h'.left.isC ?_, fun b hb2 => ?_⟩
    · unfold clsR
      have h94 : isC s (i + 1) 94 := h'.left.tail.isC
      rw [if_pos h94]
      have e : clsL s F (fun _ => false) true (i + 1 + 1) = .ok A (i + 2 + 9) := hA
      rw [e]; rfl
    · show (!A b) = _
      rw [hb b hb2, bytes_none h3 b hb2]; rfl
  rw [if_neg h3] at h ⊢
  by_cases h4 : (bytesTo p 256).length = 256
  · rw [if_pos h4] at h ⊢
    have h' : At s i (([91] : List UInt8) ++ ([92, 120, 48, 48, 45, 92, 120, 102, 102] ++ [93])) := h
    obtain ⟨A, hA, hb⟩ := cls_all (F := F) (a := fun _ => false) h'.right (by omega)
    refine ⟨A, atom_class h'.left.isC ?_, fun b hb2 => ?_⟩
    · unfold clsR
      have e92 : bt s (i + 1) = 92 := (h'.right.head (c := 92) (u := [120, 48, 48, 45, 92, 120, 102, 102, 93])).2
      rw [if_neg (isC_ne e92 (by decide))]
      have e : clsL s F (fun _ => false) true (i + 1) = .ok A (i + 1 + 9) := hA
      rw [e]; rfl
    · rw [hb b hb2, bytes_all h4 b hb2]
  rw [if_neg h4] at h ⊢
  have hlen := bytesTo_length p 256
  by_cases h5 : 128 < (bytesTo p 256).length
  · rw [if_pos h5] at h ⊢
    have hne : 0 < (bytesTo (fun b => !p b) 256).length := by
      rcases Nat.eq_zero_or_pos (bytesTo (fun b => !p b) 256).length with h0 | h0
      · exfalso
        apply h4
        unfold bytesTo
        rw [List.length_filter_eq_length_iff.2]
        · simp
        · intro b hb
          have := bytes_none h0 b (by simpa using hb)
          simpa using this
      · exact h0
    have hl2 := bytesTo_length (fun b => !p b) 256
    obtain ⟨A, hA, hb⟩ := cls_list (s := s) (i := i) (d := d) (F := F) (neg := true) (bytes_low _) hne (by omega) h
    refine ⟨A, hA, fun b hb2 => ?_⟩
    rw [hb b, if_pos rfl, bytes_is _ b hb2]
    simp
  · rw [if_neg h5] at h ⊢
    have h' : At s i ([91] ++ (if false = true then [94] else []) ++ prt (bytesTo p 256) ++ [93]) := by simpa using h
    obtain ⟨A, hA, hb⟩ := cls_list (s := s) (i := i) (d := d) (F := F) (neg := false) (bytes_low _) (by omega) (by omega) h'
    refine ⟨A, ?_, fun b hb2 => ?_⟩
    · rw [hA]; simp
    · rw [hb b, if_neg (by decide), bytes_is _ b hb2]
end
end Go.Proofs.YtnbfifmnigeolaaDoor
namespace Go.Proofs.YtnbfifmnigeolaaDoor
open Go.RowKit
theorem bind_mono {α β : Type} {x x' : PR α} {g g' : α → Nat → PR β} (hx : x ≠ .out → x' = x) (hg : ∀ a j, g a j ≠ .out → g' a j = g a j) (h : x.bind g ≠ .out) : x'.bind g' = x.bind g := by
  cases x with
  | ok a j => rw [hx (fun e => by cases e)]; exact hg a j h
  | bad e j => rw [hx (fun e => by cases e)]; rfl
  | out => exact absurd rfl h
theorem ite_mono {α : Type} {p : Prop} [Decidable p] {a b a' b' : PR α} (h1 : a ≠ .out → a' = a) (h2 : b ≠ .out → b' = b) (h : (if p then a else b) ≠ .out) : (if p then a' else b') = if p then a else b := by
  by_cases hp : p
  · rw [if_pos hp] at h ⊢; rw [if_pos hp]; exact h1 h
  · rw [if_neg hp] at h ⊢; rw [if_neg hp]; exact h2 h
section
variable {s : List UInt8}
theorem clsL_mono : ∀ (f : Nat) (a : Nat → Bool) (first : Bool) (i : Nat), clsL s f a first i ≠ .out → clsL s (f + 1) a first i = clsL s f a first i
  | 0, _, _, _, h => absurd (by rw [clsL]) h
  | f + 1, a, first, i, h => by
    rw [clsL] at h
    conv => rhs; rw [clsL]
    rw [clsL]
    refine ite_mono (fun _ => rfl) (fun h => ?_) h
    cases hK : (if isC s i 92 then kndR s (i + 1) else none) with
    | some p => rw [hK] at h; exact clsL_mono f _ _ _ h
    | none =>
      rw [hK] at h
      dsimp only at h ⊢
      refine bind_mono (fun _ => rfl) (fun lo j h => ?_) h
      refine ite_mono (fun h => ?_) (fun h => clsL_mono f _ _ _ h) h
      refine bind_mono (fun _ => rfl) (fun hi k h => ?_) h
      exact ite_mono (fun _ => rfl) (fun h => clsL_mono f _ _ _ h) h
theorem clsR_mono (f i : Nat) (h : clsR s f i ≠ .out) : clsR s (f + 1) i = clsR s f i := by
  unfold clsR at h ⊢
  refine ite_mono (fun h => ?_) (fun h => ?_) h
  · exact bind_mono (fun h => clsL_mono f _ _ _ h) (fun _ _ _ => rfl) h
  · exact bind_mono (fun h => clsL_mono f _ _ _ h) (fun _ _ _ => rfl) h
theorem prs_mono : ∀ (f : Nat) (k : Tk) (d i : Nat), prs s f k d i ≠ .out → prs s (f + 1) k d i = prs s f k d i
  | 0, _, _, _, h => absurd (by rw [prs]) h
  | f + 1, k, d, i, h => by
    cases k with
    | alt =>
      rw [prs] at h
      conv => rhs; rw [prs]
      rw [prs]
      exact bind_mono (fun h => prs_mono f _ _ _ h) (fun _ _ h => prs_mono f _ _ _ h) h
    | altL l =>
      rw [prs] at h
      conv => rhs; rw [prs]
      rw [prs]
      refine ite_mono (fun h => ?_) (fun _ => rfl) h
      exact bind_mono (fun h => prs_mono f _ _ _ h) (fun _ _ h => prs_mono f _ _ _ h) h
    | cat l =>
      rw [prs] at h
      conv => rhs; rw [prs]
      rw [prs]
      refine ite_mono (fun h => ?_) (fun _ => rfl) h
      exact bind_mono (fun h => prs_mono f _ _ _ h) (fun _ _ h => prs_mono f _ _ _ h) h
    | item =>
      rw [prs] at h
      conv => rhs; rw [prs]
      rw [prs]
      exact bind_mono (fun h => prs_mono f _ _ _ h) (fun _ _ h => prs_mono f _ _ _ h) h
    | itemL t =>
      rw [prs] at h
      conv => rhs; rw [prs]
      rw [prs]
      refine ite_mono (fun h => prs_mono f _ _ _ h) (fun h => ?_) h
      refine ite_mono (fun h => prs_mono f _ _ _ h) (fun h => ?_) h
      refine ite_mono (fun h => prs_mono f _ _ _ h) (fun h => ?_) h
      refine ite_mono (fun h => ?_) (fun _ => rfl) h
      refine bind_mono (fun _ => rfl) (fun b j h => ?_) h
      exact ite_mono (fun h => prs_mono f _ _ _ h) (fun _ => rfl) h
    | atom =>
      rw [prs] at h
      conv => rhs; rw [prs]
      rw [prs]
      refine ite_mono (fun h => ?_) (fun h => ?_) h
      · refine ite_mono (fun _ => rfl) (fun h => ?_) h
        exact bind_mono (fun h => prs_mono f _ _ _ h) (fun _ _ _ => rfl) h
      refine ite_mono (fun h => clsR_mono f _ h) (fun _ => rfl) h
theorem prs_more {f : Nat} {k : Tk} {d i : Nat} {t : Re} {j : Nat} (h : prs s f k d i = .ok t j) : ∀ n, prs s (f + n) k d i = .ok t j
  | 0 => h
  | n + 1 => by
    have := prs_more h n
    rw [← Nat.add_assoc, prs_mono _ _ _ _ (by rw [this]; intro e; cases e), this]
theorem prs_le {f g : Nat} {k : Tk} {d i : Nat} {t : Re} {j : Nat} (h : prs s f k d i = .ok t j) (hg : f ≤ g) : prs s g k d i = .ok t j := by
  have := prs_more h (g - f)
  rwa [Nat.add_sub_of_le hg] at this
/-- with enough fuel, it is read so -/
def Rd (s : List UInt8) (k : Tk) (d i : Nat) (t : Re) (j : Nat) : Prop := ∃ f, prs s f k d i = .ok t j
variable {d i j j' : Nat} {t t' : Re} {l : List Re}
theorem Rd.alt (h1 : Rd s (.cat []) d i t j) (h2 : Rd s (.altL [t]) d j t' j') : Rd s .alt d i t' j' := by
  obtain ⟨f, h1⟩ := h1
  obtain ⟨g, h2⟩ := h2
  refine ⟨max f g + 1, ?_⟩
  rw [prs, prs_le h1 (Nat.le_max_left _ _)]
  exact prs_le h2 (Nat.le_max_right _ _)
theorem Rd.altMore (hc : isC s i 124) (h1 : Rd s (.cat []) d (i + 1) t j) (h2 : Rd s (.altL (l ++ [t])) d j t' j') : Rd s (.altL l) d i t' j' := by
  obtain ⟨f, h1⟩ := h1
  obtain ⟨g, h2⟩ := h2
  refine ⟨max f g + 1, ?_⟩
  rw [prs, if_pos hc, prs_le h1 (Nat.le_max_left _ _)]
  exact prs_le h2 (Nat.le_max_right _ _)
theorem Rd.altEnd (hc : ¬ isC s i 124) : Rd s (.altL l) d i (joinT 3 l) i := ⟨1, by rw [prs, if_neg hc]⟩
theorem Rd.catMore (hc : i < s.length ∧ bt s i ≠ 124 ∧ bt s i ≠ 41) (h1 : Rd s .item d i t j) (h2 : Rd s (.cat (l ++ [t])) d j t' j') : Rd s (.cat l) d i t' j' := by
  obtain ⟨f, h1⟩ := h1
  obtain ⟨g, h2⟩ := h2
  refine ⟨max f g + 1, ?_⟩
  rw [prs, if_pos hc, prs_le h1 (Nat.le_max_left _ _)]
  exact prs_le h2 (Nat.le_max_right _ _)
theorem Rd.catEnd (hc : ¬ (i < s.length ∧ bt s i ≠ 124 ∧ bt s i ≠ 41)) : Rd s (.cat l) d i (joinT 2 l) i := ⟨1, by rw [prs, if_neg hc]⟩
theorem Rd.item (h1 : Rd s .atom d i t j) (h2 : Rd s (.itemL t) d j t' j') : Rd s .item d i t' j' := by
  obtain ⟨f, h1⟩ := h1
  obtain ⟨g, h2⟩ := h2
  refine ⟨max f g + 1, ?_⟩
  rw [prs, prs_le h1 (Nat.le_max_left _ _)]
  exact prs_le h2 (Nat.le_max_right _ _)
/-- no sign of how often stands there -/
def noRep (s : List UInt8) (i : Nat) : Prop := ¬ isC s i 42 ∧ ¬ isC s i 43 ∧ ¬ isC s i 63 ∧ ¬ isC s i 123
theorem Rd.itemEnd (hc : noRep s i) : Rd s (.itemL t) d i t i := ⟨1, by rw [prs, if_neg hc.1, if_neg hc.2.1, if_neg hc.2.2.1, if_neg hc.2.2.2]⟩
theorem Rd.brk (h40 : isC s i 40) (hd : d < 30) (h1 : Rd s .alt (d + 1) (i + 1) t j) (h41 : isC s j 41) : Rd s .atom d i t (j + 1) := by
  obtain ⟨f, h1⟩ := h1
  exact ⟨f + 1, by rw [prs, if_pos h40, if_neg (by omega), h1]; simp only [PR.bind]; rw [if_pos h41]⟩
theorem Rd.set {p : Nat → Bool} (h : At s i (setTx p)) : ∃ q, Rd s .atom d i (setT q) (i + (setTx p).length) ∧ ∀ b, b < 256 → q b = p b := by
  obtain ⟨q, hq, hb⟩ := atom_set (F := 300) (d := d) (Nat.le_refl _) h
  exact ⟨q, ⟨301, hq⟩, hb⟩
/-- how often, with a bound of digits -/
theorem Rd.bound {lo : Nat} {hi : Int} {k : Nat} (hc : isC s i 123) (hb : bndR s (i + 1) = .ok (lo, hi) k) (h125 : isC s k 125) (h2 : Rd s (.itemL (repT lo hi t)) d (k + 1) t' j') : Rd s (.itemL t) d i t' j' := by
  obtain ⟨g, h2⟩ := h2
  refine ⟨g + 1, ?_⟩
  have e0 := hc.2
  rw [prs, if_neg (isC_ne e0 (by decide)), if_neg (isC_ne e0 (by decide)), if_neg (isC_ne e0 (by decide)), if_pos hc, hb]
  simp only [PR.bind]
  rw [if_pos h125, h2]
theorem Rd.star (hc : isC s i 42) (h2 : Rd s (.itemL (repT 0 (-1) t)) d (i + 1) t' j') : Rd s (.itemL t) d i t' j' := by
  obtain ⟨g, h2⟩ := h2
  exact ⟨g + 1, by rw [prs, if_pos hc, h2]⟩
theorem Rd.plus (hc : isC s i 43) (h2 : Rd s (.itemL (repT 1 (-1) t)) d (i + 1) t' j') : Rd s (.itemL t) d i t' j' := by
  obtain ⟨g, h2⟩ := h2
  exact ⟨g + 1, by rw [prs, if_neg (isC_ne hc.2 (by decide)), if_pos hc, h2]⟩
theorem Rd.may (hc : isC s i 63) (h2 : Rd s (.itemL (repT 0 1 t)) d (i + 1) t' j') : Rd s (.itemL t) d i t' j' := by
  obtain ⟨g, h2⟩ := h2
  exact ⟨g + 1, by rw [prs, if_neg (isC_ne hc.2 (by decide)), if_neg (isC_ne hc.2 (by decide)), if_pos hc, h2]⟩
end
end Go.Proofs.YtnbfifmnigeolaaDoor
namespace Go.Proofs.YtnbfifmnigeolaaDoor
open Go.RowKit
theorem itoa_20 : ∀ n : Fin 21, Lib.itoa ((n.val : Nat) : Int) = if n.val < 10 then [u8 (48 + n.val)] else [u8 (48 + n.val / 10), u8 (48 + n.val % 10)] := by decide +kernel
section
variable {s : List UInt8} {i d : Nat}
theorem dig_at {n : Nat} {u : List UInt8} (hn : n < 10) (h : At s i (u8 (48 + n) :: u)) : isD s i ∧ bt s i - 48 = n := by
  have e := h.head
  rw [u8n (by omega)] at e
  exact ⟨⟨e.1, by omega, by omega⟩, by omega⟩
theorem num_at {n least : Nat} (hn : n ≤ 20) (hl : least ≤ n) (h : At s i (Lib.itoa (n : Int))) (hd : ¬ isD s (i + (Lib.itoa (n : Int)).length)) : numR s least i = .ok n (i + (Lib.itoa (n : Int)).length) := by
  have e := itoa_20 ⟨n, by omega⟩
  dsimp only at e
  rw [e] at h hd ⊢
  by_cases h10 : n < 10
  · rw [if_pos h10] at h hd ⊢
    obtain ⟨h1, h2⟩ := dig_at h10 h
    have hd' : ¬ isD s (i + 1) := hd
    unfold numR
    rw [if_pos h1, if_neg hd', h2, if_neg (by omega)]
    rfl
  · rw [if_neg h10] at h hd ⊢
    obtain ⟨h1, h2⟩ := dig_at (by omega) h
    obtain ⟨h3, h4⟩ := dig_at (Nat.mod_lt _ (by decide)) h.tail
    unfold numR
    rw [if_pos h1, if_pos h3, h2, h4, show 10 * (n / 10) + n % 10 = n by omega, if_neg (by omega)]
    rfl
theorem num_len (n : Nat) (hn : n ≤ 20) : 0 < (Lib.itoa (n : Int)).length := by
  have e := itoa_20 ⟨n, by omega⟩
  dsimp only at e
  rw [e]
  split <;> simp
theorem noD {c : Nat} (h : isC s i c) (hc : ¬ (48 ≤ c ∧ c ≤ 57)) : ¬ isD s i := fun q => hc (by have := q.2; rw [h.2] at this; exact this)
theorem numDig {n : Nat} {u : List UInt8} (hn : n ≤ 20) (h : At s i (Lib.itoa (n : Int) ++ u)) : isD s i := by
  have e := itoa_20 ⟨n, by omega⟩
  dsimp only at e
  rw [e] at h
  by_cases h10 : n < 10
  · rw [if_pos h10] at h; exact (dig_at h10 h).1
  · rw [if_neg h10] at h; exact (dig_at (by omega) h).1
variable {t t' : Re} {j' : Nat}
theorem repT_is {lo : Nat} {hi : Int} (h : ¬ (lo = 1 ∧ hi = 1)) : repT lo hi t = .mk 4 (0, 0, 0, 0) lo hi [t] := by unfold repT; rw [if_neg h]
theorem Rd.rpt {a b : Int} (ha : 0 ≤ a ∧ a ≤ 20) (hb : b = -1 ∨ (a ≤ b ∧ b ≤ 20 ∧ ¬ (a = 1 ∧ b = 1))) (h : At s i (rpt a b)) (h2 : Rd s (.itemL (.mk 4 (0, 0, 0, 0) a b [t])) d (i + (Go.Proofs.YtnbfifmnigeolaaDoor.rpt a b).length) t' j') : Rd s (.itemL t) d i t' j' := by
  obtain ⟨n, rfl⟩ : ∃ n : Nat, a = n := ⟨a.toNat, by omega⟩
  unfold Go.Proofs.YtnbfifmnigeolaaDoor.rpt at h h2
  by_cases c1 : ((n : Nat) : Int) = 0 ∧ b = -1
  · rw [if_pos c1] at h h2
    obtain ⟨e1, rfl⟩ := c1
    have hn : n = 0 := by omega
    subst hn
    exact Rd.star h.isC (by rw [repT_is (by omega)]; exact h2)
  rw [if_neg c1] at h h2
  by_cases c2 : ((n : Nat) : Int) = 1 ∧ b = -1
  · rw [if_pos c2] at h h2
    obtain ⟨e1, rfl⟩ := c2
    have hn : n = 1 := by omega
    subst hn
    exact Rd.plus h.isC (by rw [repT_is (by omega)]; exact h2)
  rw [if_neg c2] at h h2
  by_cases c3 : ((n : Nat) : Int) = 0 ∧ b = 1
  · rw [if_pos c3] at h h2
    obtain ⟨e1, rfl⟩ := c3
    have hn : n = 0 := by omega
    subst hn
    exact Rd.may h.isC (by rw [repT_is (by omega)]; exact h2)
  rw [if_neg c3] at h h2
  by_cases c4 : ((n : Nat) : Int) = b
  · subst c4
    rw [if_pos rfl] at h h2
    have hA : At s (i + 1) (Lib.itoa (n : Int) ++ [125]) := by rw [List.append_assoc] at h; exact h.right
    have h125 : isC s (i + 1 + (Lib.itoa (n : Int)).length) 125 := hA.right.isC
    have hnum := num_at (least := 0) (by omega) (Nat.zero_le _) hA.left (noD h125 (by decide))
    refine Rd.bound (lo := n) (hi := n) (k := i + 1 + (Lib.itoa (n : Int)).length) h.left.left.isC ?_ h125 ?_
    · unfold bndR
      rw [hnum]
      simp only [PR.bind]
      rw [if_neg (isC_ne h125.2 (by decide))]
    · rw [repT_is (by omega)]
      rw [List.length_append, List.length_append, List.length_cons, List.length_nil, List.length_cons, List.length_nil] at h2
      rw [show i + 1 + (Lib.itoa (n : Int)).length + 1 = i + (0 + 1 + (Lib.itoa (n : Int)).length + (0 + 1)) by omega]
      exact h2
  rw [if_neg c4] at h h2
  by_cases c5 : b = -1
  · subst c5
    rw [if_pos rfl] at h h2
    have hA : At s (i + 1) (Lib.itoa (n : Int) ++ [44, 125]) := by rw [List.append_assoc] at h; exact h.right
    have h44 : isC s (i + 1 + (Lib.itoa (n : Int)).length) 44 := hA.right.isC
    have h125 : isC s (i + 1 + (Lib.itoa (n : Int)).length + 1) 125 := hA.right.tail.isC
    have hnum := num_at (least := 0) (by omega) (Nat.zero_le _) hA.left (noD h44 (by decide))
    refine Rd.bound (lo := n) (hi := -1) (k := i + 1 + (Lib.itoa (n : Int)).length + 1) h.left.left.isC ?_ h125 ?_
    · unfold bndR
      rw [hnum]
      simp only [PR.bind]
      rw [if_pos h44, if_pos h125]
    · rw [repT_is (by omega)]
      rw [List.length_append, List.length_append, List.length_cons, List.length_nil, List.length_cons, List.length_cons, List.length_nil] at h2
      rw [show i + 1 + (Lib.itoa (n : Int)).length + 1 + 1 = i + (0 + 1 + (Lib.itoa (n : Int)).length + (0 + 1 + 1)) by omega]
      exact h2
  rw [if_neg c5] at h h2
  obtain ⟨m, rfl⟩ : ∃ m : Nat, b = m := ⟨b.toNat, by omega⟩
  have hA : At s (i + 1) (Lib.itoa (n : Int) ++ ([44] ++ (Lib.itoa (m : Int) ++ [125]))) := by
    simp only [List.append_assoc] at h
    exact h.right
  have h44 : isC s (i + 1 + (Lib.itoa (n : Int)).length) 44 := hA.right.isC
  have hB : At s (i + 1 + (Lib.itoa (n : Int)).length + 1) (Lib.itoa (m : Int) ++ [125]) := hA.right.tail
  have h125 : isC s (i + 1 + (Lib.itoa (n : Int)).length + 1 + (Lib.itoa (m : Int)).length) 125 := hB.right.isC
  have hnum := num_at (least := 0) (by omega) (Nat.zero_le _) hA.left (noD h44 (by decide))
  have hnum2 := num_at (least := n) (by omega) (by omega) hB.left (noD h125 (by decide))
  have hdg := numDig (by omega) hB
  refine Rd.bound (lo := n) (hi := m) (k := i + 1 + (Lib.itoa (n : Int)).length + 1 + (Lib.itoa (m : Int)).length) h.left.left.left.left.isC ?_ h125 ?_
  · unfold bndR
    rw [hnum]
    simp only [PR.bind]
    rw [if_pos h44, if_neg (fun q => by have h1 := hdg.2; rw [q.2] at h1; omega), hnum2]
  · rw [repT_is (by omega)]
    simp only [List.length_append, List.length_cons, List.length_nil] at h2
    rw [show i + 1 + (Lib.itoa (n : Int)).length + 1 + (Lib.itoa (m : Int)).length + 1 = i + (0 + 1 + (Lib.itoa (n : Int)).length + (0 + 1) + (Lib.itoa (m : Int)).length + (0 + 1)) by omega]
    exact h2
end
end Go.Proofs.YtnbfifmnigeolaaDoor
namespace Go.Proofs.YtnbfifmnigeolaaDoor
open Go.RowKit
/-- one behind the other ends there -/
def End1 (s : List UInt8) (j : Nat) : Prop := ¬ (j < s.length ∧ bt s j ≠ 124 ∧ bt s j ≠ 41)
/-- alternatives end there -/
def End2 (s : List UInt8) (j : Nat) : Prop := End1 s j ∧ ¬ isC s j 124
/-- a part begins there -/
def Hd (s : List UInt8) (i : Nat) : Prop := i < s.length ∧ bt s i ≠ 124 ∧ bt s i ≠ 41 ∧ bt s i ≠ 42 ∧ bt s i ≠ 43 ∧ bt s i ≠ 63 ∧ bt s i ≠ 123
section
variable {s : List UInt8} {i j d : Nat}
theorem End1.noRep (h : End1 s j) : noRep s j := by
  have : ∀ c, c ≠ 124 → c ≠ 41 → ¬ isC s j c := fun c h1 h2 q => h ⟨q.1, by rw [q.2]; exact h1, by rw [q.2]; exact h2⟩
  exact ⟨this 42 (by decide) (by decide), this 43 (by decide) (by decide), this 63 (by decide) (by decide), this 123 (by decide) (by decide)⟩
theorem Hd.noRep (h : Hd s i) : noRep s i := ⟨fun q => h.2.2.2.1 q.2, fun q => h.2.2.2.2.1 q.2, fun q => h.2.2.2.2.2.1 q.2, fun q => h.2.2.2.2.2.2 q.2⟩
theorem Hd.of {c : Nat} (h : isC s i c) (hc : c ≠ 124 ∧ c ≠ 41 ∧ c ≠ 42 ∧ c ≠ 43 ∧ c ≠ 63 ∧ c ≠ 123) : Hd s i := ⟨h.1, by rw [h.2]; exact hc.1, by rw [h.2]; exact hc.2.1, by rw [h.2]; exact hc.2.2.1, by rw [h.2]; exact hc.2.2.2.1, by rw [h.2]; exact hc.2.2.2.2.1, by rw [h.2]; exact hc.2.2.2.2.2⟩
theorem End1.bar (h : isC s j 124) : End1 s j := fun q => q.2.1 h.2
theorem End2.brk (h : isC s j 41) : End2 s j := ⟨fun q => q.2.2 h.2, isC_ne h.2 (by decide)⟩
theorem set_head {p : Nat → Bool} (h : At s i (setTx p)) : Hd s i := by
  unfold setTx at h
  by_cases h1 : (bytesTo p 256).length = 1
  · rw [if_pos h1] at h
    obtain ⟨c, hc⟩ := List.length_eq_one_iff.1 h1
    have e : (bytesTo p 256).getD 0 0 = c := by rw [hc]; rfl
    rw [e] at h
    have hc256 : c < 256 := bytesTo_lt (p := p) (by rw [hc]; simp)
    obtain ⟨h0, hb | ⟨hb, _, hn, _⟩⟩ := wrt_head hc256 h
    · exact Hd.of ⟨h0, hb⟩ (by decide)
    · have n : ∀ k ∈ sgL, c ≠ k := fun k hk e => hn (by rw [e]; exact hk)
      exact Hd.of ⟨h0, hb⟩ ⟨n _ (by decide), n _ (by decide), n _ (by decide), n _ (by decide), n _ (by decide), n _ (by decide)⟩
  rw [if_neg h1] at h
  by_cases h2 : W p 0 = W noLn 0 ∧ W p 1 = W noLn 1 ∧ W p 2 = W noLn 2 ∧ W p 3 = W noLn 3
  · rw [if_pos h2] at h
    have e : isC s i 46 := h.isC
    exact Hd.of e (by decide)
  rw [if_neg h2] at h
  have e : isC s i 91 := by
    by_cases h3 : (bytesTo p 256).length = 0
    · rw [if_pos h3] at h; exact h.isC
    rw [if_neg h3] at h
    by_cases h4 : (bytesTo p 256).length = 256
    · rw [if_pos h4] at h; exact h.isC
    rw [if_neg h4] at h
    by_cases h5 : 128 < (bytesTo p 256).length
    · rw [if_pos h5] at h; exact h.left.left.left.isC (u := [94])
    · rw [if_neg h5] at h; exact h.left.left.isC
  exact Hd.of e (by decide)
end
theorem joinT_self {k : Int} {t : Re} (h : t.kindP ≠ k) : joinT k [t] = t := joinT_one (by unfold flatT; simp [h])
theorem flatT_none {k : Int} : ∀ {l : List Re}, (∀ u ∈ l, u.kindP ≠ k) → flatT k l = l
  | [], _ => rfl
  | u :: l, h => by
    have ih := flatT_none (k := k) (l := l) fun v hv => h v (by simp [hv])
    unfold flatT at ih ⊢
    rw [List.flatMap_cons, if_neg (h u (by simp)), ih]; rfl
theorem set_is {st : Nat × Nat × Nat × Nat} (h : words64 st) : wS (setP st) = st := by
  obtain ⟨h0, h1, h2, h3⟩ := h
  unfold wS setP
  rw [← W_ofW0 _ _ _ h0, ← W_ofW1 _ _ _ h1, ← W_ofW2 _ _ _ h2, ← W_ofW3 _ _ _ h3]
theorem join_flat (xs : List (List UInt8)) : Lib.join xs [] = xs.flatten := by
  cases xs with
  | nil => rfl
  | cons x r => rw [Lib.join_cons]; unfold Lib.joinTail; simp
/-- a node's text within a row -/
noncomputable def tx (h : Nat) (u : Re) : List UInt8 := brk (decide (u.kind = 3)) (txt h u)
/-- what is asked of a tree, and what is said of it -/
structure Inv (h : Nat) (t : Re) : Prop where
  atom : ∀ s d i, d + dep h t ≤ 30 → t.kind = 1 → At s i (txt h t) → Rd s .atom d i t (i + (txt h t).length)
  item : ∀ s d i, d + dep h t ≤ 30 → t.kind = 1 ∨ t.kind = 4 → At s i (txt h t) → noRep s (i + (txt h t).length) → Rd s .item d i t (i + (txt h t).length)
  head : ∀ s i, t.kind = 1 ∨ t.kind = 4 → At s i (txt h t) → Hd s i
  cat : ∀ s d i, d + dep h t ≤ 30 → t.kind ≠ 3 → At s i (txt h t) → End1 s (i + (txt h t).length) → Rd s (.cat []) d i t (i + (txt h t).length)
  alt : ∀ s d i, d + dep h t ≤ 30 → At s i (txt h t) → End2 s (i + (txt h t).length) → Rd s .alt d i t (i + (txt h t).length)
section
variable {s : List UInt8} {h d : Nat}
theorem tx_head {u : Re} {i : Nat} (hi : Inv h u) (hk : u.kind = 1 ∨ u.kind = 3 ∨ u.kind = 4) (ha : At s i (tx h u)) : Hd s i := by
  unfold tx at ha
  by_cases h3 : u.kind = 3
  · rw [decide_eq_true h3] at ha
    unfold brk at ha
    rw [if_pos rfl] at ha
    have e : isC s i 40 := ha.left.left.isC
    exact Hd.of e (by decide)
  · rw [decide_eq_false h3] at ha
    exact hi.head s i (by omega) ha
/-- a node in brackets -/
theorem brk_atom {u : Re} {i : Nat} (hi : Inv h u) (hd : d + 1 + dep h u ≤ 30) (ha : At s i (brk true (txt h u))) : Rd s .atom d i u (i + (brk true (txt h u)).length) := by
  unfold brk at ha ⊢
  rw [if_pos rfl] at ha ⊢
  have h40 : isC s i 40 := ha.left.left.isC
  have hm : At s (i + 1) (txt h u) := ha.left.right
  have h41 : isC s (i + 1 + (txt h u).length) 41 := by
    have := ha.right.isC
    rw [List.length_append, List.length_cons, List.length_nil] at this
    rw [show i + 1 + (txt h u).length = i + (0 + 1 + (txt h u).length) by omega]
    exact this
  have := Rd.brk (d := d) h40 (by omega) (hi.alt s (d + 1) (i + 1) (by omega) hm (End2.brk h41)) h41
  rw [List.length_append, List.length_append, List.length_cons, List.length_nil, List.length_cons, List.length_nil]
  rw [show i + (0 + 1 + (txt h u).length + (0 + 1)) = i + 1 + (txt h u).length + 1 by omega]
  exact this
theorem tx_item {u : Re} {i : Nat} (hi : Inv h u) (hk : u.kind = 1 ∨ u.kind = 3 ∨ u.kind = 4) (hd : d + 1 + dep h u ≤ 30) (ha : At s i (tx h u)) (hn : noRep s (i + (tx h u).length)) : Rd s .item d i u (i + (tx h u).length) := by
  unfold tx at ha hn ⊢
  by_cases h3 : u.kind = 3
  · rw [decide_eq_true h3] at ha hn ⊢
    exact Rd.item (brk_atom hi hd ha) (Rd.itemEnd hn)
  · rw [decide_eq_false h3] at ha hn ⊢
    exact hi.item s d i (by omega) (by omega) ha hn
theorem cat_kids : ∀ (rest acc : List Re) (i : Nat), (∀ u ∈ rest, Inv h u ∧ (u.kind = 1 ∨ u.kind = 3 ∨ u.kind = 4) ∧ d + 1 + dep h u ≤ 30) → At s i (rest.map (tx h)).flatten → End1 s (i + (rest.map (tx h)).flatten.length) → Rd s (.cat acc) d i (joinT 2 (acc ++ rest)) (i + (rest.map (tx h)).flatten.length)
  | [], acc, i, _, _, he => by
    have := Rd.catEnd (d := d) (l := acc) (i := i) (s := s) he
    rw [List.append_nil]; exact this
  | u :: r, acc, i, hu, ha, he => by
    obtain ⟨h1, h2, h3⟩ := hu u (by simp)
    rw [List.map_cons, List.flatten_cons] at ha he ⊢
    rw [List.length_append, ← Nat.add_assoc] at he ⊢
    have hh := tx_head h1 h2 ha.left
    have hn : noRep s (i + (tx h u).length) := by
      cases r with
      | nil => exact End1.noRep he
      | cons v r' =>
        obtain ⟨g1, g2, _⟩ := hu v (by simp)
        have := ha.right
        rw [List.map_cons, List.flatten_cons] at this
        exact (tx_head g1 g2 this.left).noRep
    have ih := cat_kids r (acc ++ [u]) (i + (tx h u).length) (fun v hv => hu v (by simp [hv])) ha.right he
    rw [List.append_assoc] at ih
    exact Rd.catMore ⟨hh.1, hh.2.1, hh.2.2.1⟩ (tx_item h1 h2 h3 ha.left hn) ih
theorem alt_kids : ∀ (rest acc : List Re) (i : Nat), (∀ u ∈ rest, Inv h u ∧ u.kind ≠ 3 ∧ d + dep h u ≤ 30) → At s i (Lib.joinTail [124] (rest.map (txt h))) → End2 s (i + (Lib.joinTail [124] (rest.map (txt h))).length) → Rd s (.altL acc) d i (joinT 3 (acc ++ rest)) (i + (Lib.joinTail [124] (rest.map (txt h))).length)
  | [], acc, i, _, _, he => by
    have := Rd.altEnd (d := d) (l := acc) (i := i) (s := s) he.2
    rw [List.append_nil]; exact this
  | u :: r, acc, i, hu, ha, he => by
    obtain ⟨h1, h2, h3⟩ := hu u (by simp)
    have e : Lib.joinTail [124] ((u :: r).map (txt h)) = [124] ++ txt h u ++ Lib.joinTail [124] (r.map (txt h)) := by
      unfold Lib.joinTail; rw [List.map_cons, List.map_cons, List.flatten_cons]
    rw [e] at ha he ⊢
    have h124 : isC s i 124 := ha.left.left.isC
    have hu1 : At s (i + 1) (txt h u) := ha.left.right
    have hr : At s (i + 1 + (txt h u).length) (Lib.joinTail [124] (r.map (txt h))) := by
      have := ha.right
      rw [List.length_append, List.length_cons, List.length_nil] at this
      rw [show i + 1 + (txt h u).length = i + (0 + 1 + (txt h u).length) by omega]
      exact this
    have hle : i + ([124] ++ txt h u ++ Lib.joinTail [124] (r.map (txt h))).length = i + 1 + (txt h u).length + (Lib.joinTail [124] (r.map (txt h))).length := by
      simp only [List.length_append, List.length_cons, List.length_nil]; omega
    rw [hle] at he ⊢
    have h1e : End1 s (i + 1 + (txt h u).length) := by
      cases r with
      | nil => exact he.1
      | cons v r' =>
        have e2 : Lib.joinTail [124] ((v :: r').map (txt h)) = [124] ++ (txt h v ++ Lib.joinTail [124] (r'.map (txt h))) := by
          unfold Lib.joinTail; rw [List.map_cons, List.map_cons, List.flatten_cons, List.append_assoc]
        rw [e2] at hr
        exact End1.bar hr.left.isC
    have ih := alt_kids r (acc ++ [u]) (i + 1 + (txt h u).length) (fun v hv => hu v (by simp [hv])) hr he
    rw [List.append_assoc] at ih
    exact Rd.altMore h124 (h1.cat s d (i + 1) h3 h2 hu1 h1e) ih
end
theorem dep_kid {h : Nat} {t u : Re} (hu : u ∈ t.kids) : 1 + dep h u ≤ dep (h + 1) t := by
  rw [dep]
  have : ∀ {l : List Nat} {x : Nat}, x ∈ l → x ≤ mxl l := by
    intro l
    induction l with
    | nil => intro x hx; cases hx
    | cons y l ih =>
      intro x hx
      rw [mxl]
      rcases List.mem_cons.1 hx with rfl | hx
      · omega
      · have := ih hx; omega
  have := this (List.mem_map.2 ⟨u, hu, rfl⟩ : dep h u ∈ t.kids.map (dep h))
  omega
end Go.Proofs.YtnbfifmnigeolaaDoor
namespace Go.Proofs.YtnbfifmnigeolaaDoor
open Go.RowKit
theorem kind_same (t : Re) : t.kindP = t.kind := by cases t; rfl
/-- of what a part is, behind one another and alternatives of one are it, too -/
theorem Inv.of_item {h : Nat} {t : Re} (hk : t.kind = 1 ∨ t.kind = 4) (h1 : ∀ s d i, d + dep h t ≤ 30 → t.kind = 1 → At s i (txt h t) → Rd s .atom d i t (i + (txt h t).length))
    (h2 : ∀ s d i, d + dep h t ≤ 30 → At s i (txt h t) → noRep s (i + (txt h t).length) → Rd s .item d i t (i + (txt h t).length)) (h3 : ∀ s i, At s i (txt h t) → Hd s i) : Inv h t := by
  have hcat : ∀ s d i, d + dep h t ≤ 30 → At s i (txt h t) → End1 s (i + (txt h t).length) → Rd s (.cat []) d i t (i + (txt h t).length) := fun s d i hd ha he => by
    have hh := h3 s i ha
    refine Rd.catMore ⟨hh.1, hh.2.1, hh.2.2.1⟩ (h2 s d i hd ha (End1.noRep he)) ?_
    have := Rd.catEnd (d := d) (l := [] ++ [t]) he
    rwa [List.nil_append, joinT_self (by rw [kind_same]; omega)] at this
  refine ⟨h1, fun s d i hd _ => h2 s d i hd, fun s i _ => h3 s i, fun s d i hd _ => hcat s d i hd, fun s d i hd ha he => ?_⟩
  refine Rd.alt (hcat s d i hd ha he.1) ?_
  have := Rd.altEnd (d := d) (l := [t]) he.2
  rwa [joinT_self (by rw [kind_same]; omega)] at this
theorem noS_is {st : Nat × Nat × Nat × Nat} (h : noS st = true) : st = (0, 0, 0, 0) := by
  obtain ⟨a, b, c, e⟩ := st
  unfold noS at h
  simp only [Bool.and_eq_true, beq_iff_eq] at h
  obtain ⟨h1, h2, h3, h4⟩ := h
  rw [show a = 0 by omega, show b = 0 by omega, show c = 0 by omega, show e = 0 by omega]
theorem inv_tree : ∀ (h : Nat) (t : Re), shp h t = true → allW h t → Inv h t
  | 0, t, hs, _ => by rw [shp] at hs; cases hs
  | h + 1, .mk k st mn mx kids, hs, hw => by
    obtain ⟨hok, hkids⟩ := shp_open hs
    have IH : ∀ u ∈ kids, Inv h u := fun u hu => inv_tree h u (hkids u hu) (hw.2 u hu)
    have hkk : ∀ u ∈ kids, u.kind = 1 ∨ u.kind = 2 ∨ u.kind = 3 ∨ u.kind = 4 := fun u hu => by
      have := hkids u hu
      cases h with
      | zero => rw [shp] at this; cases this
      | succ h =>
        have o := (shp_open this).1
        obtain ⟨k', _, _, _, _⟩ := u
        show k' = 1 ∨ k' = 2 ∨ k' = 3 ∨ k' = 4
        rcases o with ⟨o, _⟩ | ⟨o | o, _⟩ | ⟨o, _⟩ <;> omega
    have hdk : ∀ d : Nat, d + dep (h + 1) (.mk k st mn mx kids) ≤ 30 → ∀ u ∈ kids, d + 1 + dep h u ≤ 30 := fun d hd u hu => by
      have := dep_kid (h := h) (t := .mk k st mn mx kids) hu
      omega
    rcases hok with ⟨rfl, rfl, rfl, hl⟩ | ⟨hk, hn, rfl, rfl, hl, hne⟩ | ⟨rfl, hn, hl, ha0, ha1, hb⟩
    · have hkn : kids = [] := List.eq_nil_of_length_eq_zero (by omega)
      subst hkn
      have htx : txt (h + 1) (.mk 1 st 0 0 []) = setTx (setP st) := by rw [txt]; exact if_pos rfl
      have hat : ∀ s d i, At s i (setTx (setP st)) → Rd s .atom d i (.mk 1 st 0 0 []) (i + (setTx (setP st)).length) := fun s d i ha => by
        obtain ⟨q, hq, hb⟩ := Rd.set (d := d) ha
        have e : setT q = .mk 1 st 0 0 [] := by rw [setT_congr hb]; unfold setT; rw [set_is (show words64 st from hw.1)]
        rwa [e] at hq
      refine Inv.of_item (.inl rfl) (fun s d i _ _ ha => ?_) (fun s d i _ ha hr => ?_) fun s i ha => ?_
      · rw [htx] at ha ⊢; exact hat s d i ha
      · rw [htx] at ha hr ⊢; exact Rd.item (hat s d i ha) (Rd.itemEnd hr)
      · rw [htx] at ha; exact set_head ha
    · have hst := noS_is hn
      subst hst
      rcases hk with rfl | rfl
      · have hkk2 : ∀ u ∈ kids, u.kind = 1 ∨ u.kind = 3 ∨ u.kind = 4 := fun u hu => by have h1 := hkk u hu; have h2 := hne u hu; omega
        have htx : txt (h + 1) (.mk 2 (0, 0, 0, 0) 0 0 kids) = (kids.map (tx h)).flatten := by
          rw [txt, if_neg (show ¬ (Re.kind (.mk 2 (0, 0, 0, 0) 0 0 kids) = 1) by show ¬ ((2 : Int) = 1); omega), if_neg (show ¬ (Re.kind (.mk 2 (0, 0, 0, 0) 0 0 kids) = 4) by show ¬ ((2 : Int) = 4); omega), if_pos (show Re.kind (.mk 2 (0, 0, 0, 0) 0 0 kids) = 2 from rfl), join_flat]
          congr 1
          refine List.map_congr_left fun u _ => ?_
          unfold tx
          congr 1
          exact decide_eq_decide.2 ⟨fun q => q.2, fun q => ⟨rfl, q⟩⟩
        have hj : joinT 2 kids = .mk 2 (0, 0, 0, 0) 0 0 kids := by
          have e := flatT_none (k := 2) (l := kids) fun u hu => by rw [kind_same]; exact hne u hu
          rw [joinT_many (by rw [e]; omega), e]
        have hcat : ∀ s d i, d + dep (h + 1) (.mk 2 (0, 0, 0, 0) 0 0 kids) ≤ 30 → At s i (txt (h + 1) (.mk 2 (0, 0, 0, 0) 0 0 kids)) → End1 s (i + (txt (h + 1) (.mk 2 (0, 0, 0, 0) 0 0 kids)).length) → Rd s (.cat []) d i (.mk 2 (0, 0, 0, 0) 0 0 kids) (i + (txt (h + 1) (.mk 2 (0, 0, 0, 0) 0 0 kids)).length) := fun s d i hd ha he => by
          rw [htx] at ha he ⊢
          have := cat_kids (d := d) kids [] i (fun u hu => ⟨IH u hu, hkk2 u hu, hdk d hd u hu⟩) ha he
          rwa [List.nil_append, hj] at this
        refine ⟨fun s d i _ hk1 => ?_, fun s d i _ hk1 => ?_, fun s i hk1 => ?_, fun s d i hd _ => hcat s d i hd, fun s d i hd ha he => ?_⟩
        · exact absurd (show (2 : Int) = 1 from hk1) (by omega)
        · rcases hk1 with q | q
          · exact absurd (show (2 : Int) = 1 from q) (by omega)
          · exact absurd (show (2 : Int) = 4 from q) (by omega)
        · rcases hk1 with q | q
          · exact absurd (show (2 : Int) = 1 from q) (by omega)
          · exact absurd (show (2 : Int) = 4 from q) (by omega)
        · refine Rd.alt (hcat s d i hd ha he.1) ?_
          have := Rd.altEnd (d := d) (l := [.mk 2 (0, 0, 0, 0) 0 0 kids]) he.2
          rwa [joinT_self (by show (2 : Int) ≠ 3; omega)] at this
      · have hl2 : 2 ≤ kids.length := by omega
        obtain ⟨u, r, rfl⟩ : ∃ u r, kids = u :: r := by
          cases kids with
          | nil => simp at hl2
          | cons u r => exact ⟨u, r, rfl⟩
        have htx : txt (h + 1) (.mk 3 (0, 0, 0, 0) 0 0 (u :: r)) = txt h u ++ Lib.joinTail [124] (r.map (txt h)) := by
          rw [txt, if_neg (show ¬ (Re.kind (.mk 3 (0, 0, 0, 0) 0 0 (u :: r)) = 1) by show ¬ ((3 : Int) = 1); omega), if_neg (show ¬ (Re.kind (.mk 3 (0, 0, 0, 0) 0 0 (u :: r)) = 4) by show ¬ ((3 : Int) = 4); omega), if_neg (show ¬ (Re.kind (.mk 3 (0, 0, 0, 0) 0 0 (u :: r)) = 2) by show ¬ ((3 : Int) = 2); omega)]
          have e : (Re.kids (.mk 3 (0, 0, 0, 0) 0 0 (u :: r))).map (fun k => brk (decide (Re.kind (.mk 3 (0, 0, 0, 0) 0 0 (u :: r)) = 2 ∧ k.kind = 3)) (txt h k)) = (u :: r).map (txt h) := by
            refine List.map_congr_left fun v _ => ?_
            rw [decide_eq_false (fun q => absurd (show (3 : Int) = 2 from q.1) (by omega))]
            rfl
          rw [e, List.map_cons, Lib.join_cons]
        have hj : joinT 3 (u :: r) = .mk 3 (0, 0, 0, 0) 0 0 (u :: r) := by
          have e := flatT_none (k := 3) (l := u :: r) fun v hv => by rw [kind_same]; exact hne v hv
          rw [joinT_many (by rw [e]; omega), e]
        refine ⟨fun s d i _ hk1 => ?_, fun s d i _ hk1 => ?_, fun s i hk1 => ?_, fun s d i hd hk1 => absurd rfl hk1, fun s d i hd ha he => ?_⟩
        · exact absurd (show (3 : Int) = 1 from hk1) (by omega)
        · rcases hk1 with q | q
          · exact absurd (show (3 : Int) = 1 from q) (by omega)
          · exact absurd (show (3 : Int) = 4 from q) (by omega)
        · rcases hk1 with q | q
          · exact absurd (show (3 : Int) = 1 from q) (by omega)
          · exact absurd (show (3 : Int) = 4 from q) (by omega)
        · rw [htx] at ha he ⊢
          rw [List.length_append, ← Nat.add_assoc] at he ⊢
          have hdu := fun v (hv : v ∈ u :: r) => (show d + dep h v ≤ 30 by have := hdk d hd v hv; omega)
          have h1e : End1 s (i + (txt h u).length) := by
            have hr := ha.right
            cases r with
            | nil => simp at hl2
            | cons v r' =>
              have e2 : Lib.joinTail [124] ((v :: r').map (txt h)) = [124] ++ (txt h v ++ Lib.joinTail [124] (r'.map (txt h))) := by
                unfold Lib.joinTail; rw [List.map_cons, List.map_cons, List.flatten_cons, List.append_assoc]
              rw [e2] at hr
              exact End1.bar hr.left.isC
          have hrest := alt_kids (d := d) r [u] (i + (txt h u).length) (fun v hv => ⟨IH v (by simp [hv]), hne v (by simp [hv]), hdu v (by simp [hv])⟩) ha.right he
          have e3 : [u] ++ r = u :: r := rfl
          rw [e3, hj] at hrest
          exact Rd.alt ((IH u (by simp)).cat s d i (hdu u (by simp)) (hne u (by simp)) ha.left h1e) hrest
    · have hst := noS_is hn
      subst hst
      obtain ⟨u, rfl⟩ : ∃ u, kids = [u] := List.length_eq_one_iff.1 (by omega)
      have htx : txt (h + 1) (.mk 4 (0, 0, 0, 0) mn mx [u]) = brk (decide (u.kind ≠ 1)) (txt h u) ++ rpt mn mx := by
        rw [txt, if_neg (show ¬ (Re.kind (.mk 4 (0, 0, 0, 0) mn mx [u]) = 1) by show ¬ ((4 : Int) = 1); omega), if_pos (show Re.kind (.mk 4 (0, 0, 0, 0) mn mx [u]) = 4 from rfl)]
        rfl
      have hu := IH u (by simp)
      have hat : ∀ s d i, d + dep (h + 1) (.mk 4 (0, 0, 0, 0) mn mx [u]) ≤ 30 → At s i (brk (decide (u.kind ≠ 1)) (txt h u)) → Rd s .atom d i u (i + (brk (decide (u.kind ≠ 1)) (txt h u)).length) := fun s d i hd ha => by
        have hd' := hdk d hd u (by simp)
        by_cases h1 : u.kind = 1
        · rw [decide_eq_false (fun q => q h1)] at ha ⊢
          exact hu.atom s d i (by omega) h1 ha
        · rw [decide_eq_true h1] at ha ⊢
          exact brk_atom hu hd' ha
      refine Inv.of_item (.inr rfl) (fun s d i _ hk1 => absurd (show (4 : Int) = 1 from hk1) (by omega)) (fun s d i hd ha hr => ?_) fun s i ha => ?_
      · rw [htx] at ha hr ⊢
        rw [List.length_append, ← Nat.add_assoc] at hr ⊢
        exact Rd.item (hat s d i hd ha.left) (Rd.rpt ⟨ha0, ha1⟩ hb ha.right (Rd.itemEnd hr))
      · rw [htx] at ha
        have hb1 := ha.left
        by_cases h1 : u.kind = 1
        · rw [decide_eq_false (fun q => q h1)] at hb1
          exact hu.head s i (.inl h1) hb1
        · rw [decide_eq_true h1] at hb1
          unfold brk at hb1
          rw [if_pos rfl] at hb1
          have e : isC s i 40 := hb1.left.left.isC
          exact Hd.of e (by decide)
/-- a tree's text, whole, is read as that tree -/
theorem prsA_txt {h : Nat} {t : Re} (hs : shp h t = true) (hw : allW h t) (hd : dep h t ≤ 30) (hl : (txt h t).length ≤ 512) : prsA (txt h t) = .ok t 0 := by
  have hat : At (txt h t) 0 (txt h t) := fun k hk => ⟨by omega, by rw [Nat.zero_add]⟩
  obtain ⟨f, hf⟩ := (inv_tree h t hs hw).alt (txt h t) 0 0 (by omega) hat ⟨fun q => by have := q.1; omega, fun q => by have := q.1; omega⟩
  rw [Nat.zero_add] at hf
  have hout := prs_out (s := txt h t) 4200 .alt 0 0 (Nat.zero_le _) (by simp only [Tk.need]; omega)
  have h42 : prs (txt h t) 4200 .alt 0 0 = .ok t (txt h t).length := by
    rcases Nat.le_total f 4200 with h1 | h1
    · exact prs_le hf h1
    · have : ∀ n, prs (txt h t) (4200 + n) .alt 0 0 = prs (txt h t) 4200 .alt 0 0 := by
        intro n
        induction n with
        | zero => rfl
        | succ n ih => rw [← Nat.add_assoc, prs_mono _ _ _ _ (by rw [ih]; exact hout), ih]
      rw [← this (f - 4200), Nat.add_sub_of_le h1, hf]
  unfold prsA
  rw [if_neg (by omega), h42]
  dsimp only
  rw [if_neg (by omega)]
end Go.Proofs.YtnbfifmnigeolaaDoor
