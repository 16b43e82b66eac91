/- Plain laws: where reading an expression ends; what stands behind the byte that can't stand where it stands changes nothing (P6.1). No conditions; no program. -/
import Derived.Test.YtnbfifmnigeolaaPrsSpec
namespace Go.Proofs.Ytnbfifmnigeolaa
open Go.RowKit
section
variable {α β : Type}
/-- where it ends: k bytes behind i at least; n at most -/
def PR.In (i k n : Nat) : PR α → Prop
  | .ok _ j => i + k ≤ j ∧ j ≤ n
  | .bad _ j => i ≤ j ∧ j ≤ n
  | .out => True
theorem PR.In.bind {x : PR α} {f : α → Nat → PR β} {i k k' n : Nat} (h : x.In i k n) (h2 : ∀ a j, i + k ≤ j → j ≤ n → (f a j).In i k' n) : (x.bind f).In i k' n := by
  cases x with
  | ok a j => exact h2 a j h.1 h.2
  | bad e j => exact h
  | out => trivial
theorem PR.In.mono {x : PR α} {i k i' k' n : Nat} (h : x.In i k n) (h1 : i' ≤ i) (h2 : i' + k' ≤ i + k) : x.In i' k' n := by
  cases x with
  | ok a j => exact ⟨by have := h.1; omega, h.2⟩
  | bad e j => exact ⟨by have := h.1; omega, h.2⟩
  | out => trivial
/-- of two readings: what ends at k or ahead of it, or fails at k, the other one does too -/
def PR.Sim (k : Nat) (x y : PR α) : Prop :=
  match x with
  | .ok a j => j ≤ k → y = .ok a j
  | .bad e j => j = k → y = .bad e j
  | .out => True
theorem PR.Sim.far {x y : PR α} {i k l n : Nat} (h : x.In i l n) (hk : k < i) : x.Sim k y := by
  cases x with
  | ok a j => intro hj; have := h.1; omega
  | bad e j => intro hj; have := h.1; omega
  | out => trivial
theorem PR.Sim.bind {x y : PR α} {f g : α → Nat → PR β} {k n : Nat} (h : x.Sim k y) (hf : ∀ a j, x = .ok a j → (f a j).In j 0 n) (hs : ∀ a j, x = .ok a j → j ≤ k → (f a j).Sim k (g a j)) : (x.bind f).Sim k (y.bind g) := by
  cases x with
  | ok a j =>
    by_cases hj : j ≤ k
    · rw [h hj]; exact hs a j rfl hj
    · exact PR.Sim.far (hf a j rfl) (by omega)
  | bad e j => intro hj; rw [h hj]; rfl
  | out => trivial
end
section
variable {s : List UInt8} {i : Nat}
theorem numR_in (hi : i ≤ s.length) (least : Nat) : (numR s least i).In i 1 s.length := by
  unfold numR
  split
  · rename_i h0
    have h0 := h0.1
    split
    · rename_i h1
      have h1 := h1.1
      split <;> (simp only [PR.In]; omega)
    · split <;> (simp only [PR.In]; omega)
  · simp only [PR.In]; omega
theorem hexR_in (hi : i ≤ s.length) : (hexR s i).In i 1 s.length := by
  unfold hexR
  repeat' split
  all_goals (simp only [PR.In]; omega)
theorem escR_in (hi : i ≤ s.length) : (escR s i).In i 1 s.length := by
  unfold escR
  by_cases h : i < s.length
  · rw [if_pos h]
    split
    · simp only [PR.In]; omega
    split
    · simp only [PR.In]; omega
    split
    · simp only [PR.In]; omega
    split
    · exact ((hexR_in h).mono (i' := i) (k' := 2) (by omega) (by omega)).bind fun a j h1 h2 => ((hexR_in h2).mono (i' := i) (k' := 1) (by omega) (by omega)).bind fun b j' h3 h4 => by simp only [PR.In]; omega
    split
    · simp only [PR.In]; omega
    · simp only [PR.In]; omega
  · rw [if_neg h]; simp only [PR.In]; omega
theorem pntR_in (hi : i ≤ s.length) : (pntR s i).In i 1 s.length := by
  unfold pntR
  split
  · rename_i h; exact (escR_in (Nat.succ_le_of_lt h.1)).mono (by omega) (by omega)
  split
  · simp only [PR.In]; omega
  · simp only [PR.In]; omega
theorem kndR_lt {k : Nat → Bool} (h : kndR s i = some k) : i < s.length := by
  unfold kndR at h
  split at h
  · assumption
  · cases h
theorem bndR_in (hi : i ≤ s.length) : (bndR s i).In i 1 s.length := by
  unfold bndR
  refine (numR_in hi 0).bind fun a j h1 h2 => ?_
  split
  · rename_i hc
    split
    · simp only [PR.In]; have := hc.1; omega
    · exact ((numR_in (i := j + 1) (by have := hc.1; omega) a).mono (i' := i) (k' := 1) (by omega) (by omega)).bind fun b j' h3 h4 => by simp only [PR.In]; omega
  · simp only [PR.In]; omega
theorem clsL_in : ∀ (f : Nat) (a : Nat → Bool) (first : Bool) (i : Nat), i ≤ s.length → (clsL s f a first i).In i 0 s.length
  | 0, _, _, _, _ => trivial
  | f + 1, a, first, i, hi => by
    rw [clsL]
    split
    · simp only [PR.In]; omega
    split
    · rename_i k hk
      have hc : isC s i 92 ∧ kndR s (i + 1) = some k := by
        split at hk
        · exact ⟨by assumption, hk⟩
        · cases hk
      have := kndR_lt hc.2
      exact (clsL_in f _ false (i + 2) (by omega)).mono (by omega) (by omega)
    · refine (pntR_in hi).bind fun lo j h1 h2 => ?_
      split
      · rename_i hc
        refine ((pntR_in (i := j + 1) (by have := hc.1; omega)).mono (i' := i) (k' := 1) (by omega) (by omega)).bind fun hi' k h3 h4 => ?_
        split
        · simp only [PR.In]; have := hc.1; omega
        · exact (clsL_in f _ false k h4).mono (by omega) (by omega)
      · exact (clsL_in f _ false j h2).mono (by omega) (by omega)
theorem clsL_end : ∀ (f : Nat) (a : Nat → Bool) (first : Bool) (i : Nat) (b : Nat → Bool) (j : Nat), clsL s f a first i = .ok b j → isC s j 93
  | 0, _, _, _, _, _, h => by rw [clsL] at h; cases h
  | f + 1, a, first, i, b, j, h => by
    rw [clsL] at h
    split at h
    · rename_i hc
      simp only [PR.ok.injEq] at h
      rw [← h.2]; exact hc.2
    split at h
    · exact clsL_end f _ _ _ b j h
    · cases hp : pntR s i with
      | ok lo j' =>
        rw [hp] at h
        dsimp only [PR.bind] at h
        split at h
        · cases hq : pntR s (j' + 1) with
          | ok lo2 j2 =>
            rw [hq] at h
            dsimp only at h
            split at h
            · cases h
            · exact clsL_end f _ _ _ b j h
          | bad e j2 => rw [hq] at h; cases h
          | out => rw [hq] at h; cases h
        · exact clsL_end f _ _ _ b j h
      | bad e j' => rw [hp] at h; cases h
      | out => rw [hp] at h; cases h
theorem PR.In.tight {α : Type} {x : PR α} {i k n : Nat} (h : x.In i k n) (h2 : ∀ a j, x = .ok a j → j < n) {β : Type} {f : α → PR β} (hf : ∀ a j, x = .ok a j → (f a).In j 1 n) : (x.bind fun a _ => f a).In i 1 n := by
  cases x with
  | ok a j => exact (hf a j rfl).mono (by have := h.1; omega) (by have := h.1; omega)
  | bad e j => exact h
  | out => trivial
theorem clsR_in (f : Nat) (hi : i ≤ s.length) : (clsR s f i).In i 1 s.length := by
  unfold clsR
  split
  · rename_i hc
    have h1 := clsL_in f (fun _ => false) true (i + 1) hc.1
    have h2 := clsL_end (s := s) f (fun _ => false) true (i + 1)
    cases hx : clsL s f (fun _ => false) true (i + 1) with
    | ok a j =>
      rw [hx] at h1
      have h3 := (h2 _ _ hx).1
      simp only [PR.In, PR.bind] at h1 ⊢
      omega
    | bad e j => rw [hx] at h1; simp only [PR.In, PR.bind] at h1 ⊢; omega
    | out => trivial
  · have h1 := clsL_in f (fun _ => false) true i hi
    have h2 := clsL_end (s := s) f (fun _ => false) true i
    cases hx : clsL s f (fun _ => false) true i with
    | ok a j =>
      rw [hx] at h1
      have h3 := (h2 _ _ hx).1
      simp only [PR.In, PR.bind] at h1 ⊢
      omega
    | bad e j => rw [hx] at h1; simp only [PR.In, PR.bind] at h1 ⊢; omega
    | out => trivial
/-- how far a part goes at least -/
def Tk.least : Tk → Nat
  | .item => 1
  | .atom => 1
  | _ => 0
theorem prs_in : ∀ (f : Nat) (t : Tk) (d i : Nat), i ≤ s.length → (prs s f t d i).In i t.least s.length
  | 0, _, _, _, _ => trivial
  | f + 1, .alt, d, i, hi => by
    rw [prs]
    exact (prs_in f (.cat []) d i hi).bind fun a j h1 h2 => (prs_in f (.altL [a]) d j h2).mono (by have : (Tk.cat []).least = 0 := rfl; omega) (by have : (Tk.cat []).least = 0 := rfl; simp only [Tk.least]; omega)
  | f + 1, .altL l, d, i, hi => by
    rw [prs]
    split
    · rename_i hc
      refine ((prs_in f (.cat []) d (i + 1) hc.1).mono (i' := i) (k' := 1) (by omega) (by simp only [Tk.least]; omega)).bind fun a j h1 h2 => (prs_in f (.altL _) d j h2).mono (by omega) (by simp only [Tk.least]; omega)
    · simp only [PR.In, Tk.least]; omega
  | f + 1, .cat l, d, i, hi => by
    rw [prs]
    split
    · exact (prs_in f .item d i hi).bind fun a j h1 h2 => (prs_in f (.cat _) d j h2).mono (by omega) (by simp only [Tk.least]; omega)
    · simp only [PR.In, Tk.least]; omega
  | f + 1, .item, d, i, hi => by
    rw [prs]
    exact (prs_in f .atom d i hi).bind fun a j h1 h2 => (prs_in f (.itemL a) d j h2).mono (by omega) (by simp only [Tk.least] at h1 ⊢; omega)
  | f + 1, .itemL t, d, i, hi => by
    rw [prs]
    split
    · rename_i hc; exact (prs_in f (.itemL _) d (i + 1) hc.1).mono (by omega) (by simp only [Tk.least]; omega)
    split
    · rename_i hc; exact (prs_in f (.itemL _) d (i + 1) hc.1).mono (by omega) (by simp only [Tk.least]; omega)
    split
    · rename_i hc; exact (prs_in f (.itemL _) d (i + 1) hc.1).mono (by omega) (by simp only [Tk.least]; omega)
    split
    · rename_i hc
      refine ((bndR_in (i := i + 1) hc.1).mono (i' := i) (k' := 1) (by omega) (by omega)).bind fun b j h1 h2 => ?_
      split
      · rename_i hd; exact (prs_in f (.itemL _) d (j + 1) hd.1).mono (by omega) (by simp only [Tk.least]; omega)
      · simp only [PR.In]; omega
    · simp only [PR.In, Tk.least]; omega
  | f + 1, .atom, d, i, hi => by
    rw [prs]
    split
    · rename_i hc
      split
      · simp only [PR.In]; omega
      · refine ((prs_in f .alt (d + 1) (i + 1) hc.1).mono (i' := i) (k' := 1) (by omega) (by simp only [Tk.least]; omega)).bind fun a j h1 h2 => ?_
        split
        · rename_i hd; simp only [PR.In, Tk.least]; have := hd.1; omega
        · simp only [PR.In]; omega
    split
    · rename_i hc; exact (clsR_in f (i := i + 1) hc.1).mono (by omega) (by simp only [Tk.least]; omega)
    split
    · rename_i hc; simp only [PR.In, Tk.least]; have := hc.1; omega
    split
    · rename_i hc
      split
      · rename_i k hk; have := kndR_lt hk; simp only [PR.In, Tk.least]; omega
      · refine ((escR_in (i := i + 1) hc.1).mono (i' := i) (k' := 1) (by omega) (by omega)).bind fun a j h1 h2 => by simp only [PR.In, Tk.least]; omega
    split
    · simp only [PR.In, Tk.least]; omega
    · simp only [PR.In]; omega
/-- how much a part needs -/
def Tk.need : Tk → Nat
  | .alt => 5
  | .altL _ => 1
  | .cat _ => 4
  | .item => 3
  | .itemL _ => 1
  | .atom => 2
theorem PR.bind_out {α β : Type} {x : PR α} {f : α → Nat → PR β} (hx : x ≠ .out) (hf : ∀ a j, x = .ok a j → f a j ≠ .out) : x.bind f ≠ .out := by
  cases x with
  | ok a j => exact hf a j rfl
  | bad e j => intro h; cases h
  | out => exact absurd rfl hx
theorem numR_out {least : Nat} : numR s least i ≠ .out := by
  unfold numR
  repeat' split
  all_goals (intro h; cases h)
theorem hexR_out {i : Nat} : hexR s i ≠ .out := by
  unfold hexR
  repeat' split
  all_goals (intro h; cases h)
theorem escR_out {i : Nat} : escR s i ≠ .out := by
  unfold escR
  repeat' split
  all_goals first
    | (refine PR.bind_out hexR_out fun a j _ => PR.bind_out hexR_out fun b k _ => ?_; intro h; cases h)
    | (intro h; cases h)
theorem pntR_out {i : Nat} : pntR s i ≠ .out := by
  unfold pntR
  repeat' split
  all_goals first
    | exact escR_out
    | (intro h; cases h)
theorem bndR_out {i : Nat} : bndR s i ≠ .out := by
  unfold bndR
  refine PR.bind_out numR_out fun a j _ => ?_
  repeat' split
  all_goals first
    | (refine PR.bind_out numR_out fun b k _ => ?_; intro h; cases h)
    | (intro h; cases h)
theorem PR.In.okB {α : Type} {x : PR α} {i k n : Nat} (h : x.In i k n) {a : α} {j : Nat} (hx : x = .ok a j) : i + k ≤ j ∧ j ≤ n := by
  rw [hx] at h; exact h
theorem clsL_out : ∀ (f : Nat) (a : Nat → Bool) (first : Bool) (i : Nat), i ≤ s.length → s.length - i < f → clsL s f a first i ≠ .out
  | 0, _, _, _, _, h => absurd h (Nat.not_lt_zero _)
  | f + 1, a, first, i, hi, hf => by
    rw [clsL]
    split
    · intro h; cases h
    split
    · rename_i k hk
      have hc : isC s i 92 ∧ kndR s (i + 1) = some k := by
        split at hk
        · exact ⟨by assumption, hk⟩
        · cases hk
      have := kndR_lt hc.2
      exact clsL_out f _ _ _ (by omega) (by omega)
    · refine PR.bind_out pntR_out fun lo j hp => ?_
      have h1 := (pntR_in hi).okB hp
      split
      · rename_i hc
        refine PR.bind_out pntR_out fun hi' k hq => ?_
        have h2 := (pntR_in (i := j + 1) hc.1).okB hq
        split
        · intro h; cases h
        · exact clsL_out f _ _ _ (by omega) (by omega)
      · exact clsL_out f _ _ _ (by omega) (by omega)
theorem clsR_out (f : Nat) (hi : i ≤ s.length) (hf : s.length - i < f) : clsR s f i ≠ .out := by
  unfold clsR
  split
  · rename_i hc
    have := hc.1
    refine PR.bind_out (clsL_out f _ _ _ (by omega) (by omega)) fun a j _ => ?_
    intro h; cases h
  · refine PR.bind_out (clsL_out f _ _ _ hi (by omega)) fun a j _ => ?_
    intro h; cases h
theorem prs_out : ∀ (f : Nat) (t : Tk) (d i : Nat), i ≤ s.length → 8 * (s.length - i) + t.need ≤ f → prs s f t d i ≠ .out
  | 0, t, _, _, _, h => by cases t <;> simp only [Tk.need] at h <;> omega
  | f + 1, .alt, d, i, hi, hf => by
    rw [prs]
    simp only [Tk.need] at hf
    refine PR.bind_out (prs_out f (.cat []) d i hi (by simp only [Tk.need]; omega)) fun a j hp => ?_
    have h1 := (prs_in f (.cat []) d i hi).okB hp
    simp only [Tk.least] at h1
    exact prs_out f _ d j h1.2 (by simp only [Tk.need]; omega)
  | f + 1, .altL l, d, i, hi, hf => by
    rw [prs]
    simp only [Tk.need] at hf
    split
    · rename_i hc
      have := hc.1
      refine PR.bind_out (prs_out f (.cat []) d (i + 1) hc.1 (by simp only [Tk.need]; omega)) fun a j hp => ?_
      have h1 := (prs_in f (.cat []) d (i + 1) hc.1).okB hp
      simp only [Tk.least] at h1
      exact prs_out f _ d j h1.2 (by simp only [Tk.need]; omega)
    · intro h; cases h
  | f + 1, .cat l, d, i, hi, hf => by
    rw [prs]
    simp only [Tk.need] at hf
    split
    · refine PR.bind_out (prs_out f .item d i hi (by simp only [Tk.need]; omega)) fun a j hp => ?_
      have h1 := (prs_in f .item d i hi).okB hp
      simp only [Tk.least] at h1
      exact prs_out f _ d j h1.2 (by simp only [Tk.need]; omega)
    · intro h; cases h
  | f + 1, .item, d, i, hi, hf => by
    rw [prs]
    simp only [Tk.need] at hf
    refine PR.bind_out (prs_out f .atom d i hi (by simp only [Tk.need]; omega)) fun a j hp => ?_
    have h1 := (prs_in f .atom d i hi).okB hp
    simp only [Tk.least] at h1
    exact prs_out f _ d j h1.2 (by simp only [Tk.need]; omega)
  | f + 1, .itemL t, d, i, hi, hf => by
    rw [prs]
    simp only [Tk.need] at hf
    split
    · rename_i hc; have := hc.1; exact prs_out f _ d _ hc.1 (by simp only [Tk.need]; omega)
    split
    · rename_i hc; have := hc.1; exact prs_out f _ d _ hc.1 (by simp only [Tk.need]; omega)
    split
    · rename_i hc; have := hc.1; exact prs_out f _ d _ hc.1 (by simp only [Tk.need]; omega)
    split
    · rename_i hc
      have := hc.1
      refine PR.bind_out bndR_out fun b j hp => ?_
      have h1 := (bndR_in (i := i + 1) hc.1).okB hp
      split
      · rename_i hd; have := hd.1; exact prs_out f _ d _ hd.1 (by simp only [Tk.need]; omega)
      · intro h; cases h
    · intro h; cases h
  | f + 1, .atom, d, i, hi, hf => by
    rw [prs]
    simp only [Tk.need] at hf
    split
    · rename_i hc
      have := hc.1
      split
      · intro h; cases h
      · refine PR.bind_out (prs_out f .alt (d + 1) (i + 1) hc.1 (by simp only [Tk.need]; omega)) fun a j hp => ?_
        split <;> (intro h; cases h)
    split
    · rename_i hc; have := hc.1; exact clsR_out f hc.1 (by omega)
    split
    · intro h; cases h
    split
    · split
      · intro h; cases h
      · refine PR.bind_out escR_out fun b j _ => ?_
        intro h; cases h
    split <;> (intro h; cases h)
end
end Go.Proofs.Ytnbfifmnigeolaa
