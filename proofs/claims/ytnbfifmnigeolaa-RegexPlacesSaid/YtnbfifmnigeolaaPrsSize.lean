/- Plain laws: how many nodes what is read has. No conditions; no program. -/
import Derived.Test.YtnbfifmnigeolaaPrsLaw
namespace Go.Proofs.Ytnbfifmnigeolaa
open Go.RowKit
mutual
def Re.sz : Re → Nat
  | .mk _ _ _ _ kids => 1 + Re.szL kids
def Re.szL : List Re → Nat
  | [] => 0
  | t :: l => Re.sz t + Re.szL l
end
theorem szL_append : ∀ (l m : List Re), Re.szL (l ++ m) = Re.szL l + Re.szL m
  | [], m => by simp [Re.szL]
  | t :: l, m => by rw [List.cons_append, Re.szL, Re.szL, szL_append l m]; omega
theorem sz_pos (t : Re) : 1 ≤ t.sz := by cases t; rw [Re.sz]; omega
theorem szL_len : ∀ l : List Re, l.length ≤ Re.szL l
  | [] => Nat.zero_le _
  | t :: l => by rw [List.length_cons, Re.szL]; have := sz_pos t; have := szL_len l; omega
/-- a row of trees, those of one kind taken in -/
def flatT (kind : Int) (l : List Re) : List Re := l.flatMap (fun t => if t.kindP = kind then t.kidsP else [t])
theorem flatT_nil (kind : Int) : flatT kind [] = [] := rfl
theorem flatT_snoc (kind : Int) (l : List Re) (t : Re) : flatT kind (l ++ [t]) = flatT kind l ++ (if t.kindP = kind then t.kidsP else [t]) := by
  unfold flatT; rw [List.flatMap_append]; simp
theorem flatT_le (kind : Int) : ∀ l : List Re, Re.szL (flatT kind l) ≤ Re.szL l
  | [] => Nat.le_refl _
  | t :: l => by
    have ih := flatT_le kind l
    unfold flatT at ih ⊢
    rw [List.flatMap_cons, szL_append, Re.szL]
    have : Re.szL (if t.kindP = kind then t.kidsP else [t]) ≤ t.sz := by
      split
      · cases t; rw [Re.sz]; show Re.szL _ ≤ _; simp only [Re.kidsP]; omega
      · simp [Re.szL]
    omega
theorem joinT_eq (kind : Int) (l : List Re) : joinT kind l = match flatT kind l with | [t] => t | k => .mk kind (0, 0, 0, 0) 0 0 k := rfl
theorem joinT_one {kind : Int} {l : List Re} {t : Re} (h : flatT kind l = [t]) : joinT kind l = t := by rw [joinT_eq, h]
theorem joinT_many {kind : Int} {l : List Re} (h : (flatT kind l).length ≠ 1) : joinT kind l = .mk kind (0, 0, 0, 0) 0 0 (flatT kind l) := by
  rw [joinT_eq]
  split
  · rename_i t e; rw [e] at h; simp at h
  · rfl
theorem joinT_sz (kind : Int) (l : List Re) : (joinT kind l).sz ≤ 1 + Re.szL l := by
  have h := flatT_le kind l
  by_cases h1 : (flatT kind l).length = 1
  · obtain ⟨t, ht⟩ := List.length_eq_one_iff.1 h1
    rw [joinT_one ht]
    rw [ht, Re.szL, Re.szL] at h
    omega
  · rw [joinT_many h1, Re.sz]; omega
theorem setT_sz (p : Nat → Bool) : (setT p).sz = 1 := by unfold setT; rw [Re.sz, Re.szL]
theorem repT_sz (lo : Nat) (hi : Int) (t : Re) : (repT lo hi t).sz ≤ 1 + t.sz := by
  unfold repT
  split
  · omega
  · rw [Re.sz, Re.szL, Re.szL]; omega
/-- how many nodes at most, what went into it and is read from i to j -/
def Tk.bound (i j : Nat) : Tk → Nat
  | .alt => 2 * (j - i) + 2
  | .altL l => Re.szL l + 2 * (j - i) + 1
  | .cat l => Re.szL l + 2 * (j - i) + 1
  | .item => 2 * (j - i) - 1
  | .itemL t => t.sz + 2 * (j - i)
  | .atom => 2 * (j - i) - 1
theorem PR.bind_ok {α β : Type} {x : PR α} {f : α → Nat → PR β} {b : β} {j : Nat} (h : x.bind f = .ok b j) : ∃ a k, x = .ok a k ∧ f a k = .ok b j := by
  cases x with
  | ok a k => exact ⟨a, k, rfl, h⟩
  | bad e k => cases h
  | out => cases h
section
variable {s : List UInt8}
theorem clsR_sz {f i : Nat} {t : Re} {j : Nat} (h : clsR s f i = .ok t j) : t.sz = 1 := by
  unfold clsR at h
  split at h
  all_goals
    obtain ⟨a, k, _, h2⟩ := PR.bind_ok h
    simp only [PR.ok.injEq] at h2
    rw [← h2.1]; exact setT_sz _
theorem prs_sz : ∀ (f : Nat) (k : Tk) (d i : Nat), i ≤ s.length → ∀ t j, prs s f k d i = .ok t j → t.sz ≤ k.bound i j
  | 0, _, _, _, _, _, _, h => by rw [prs] at h; cases h
  | f + 1, .alt, d, i, hi, t, j, h => by
    rw [prs] at h
    obtain ⟨a, k, h1, h2⟩ := PR.bind_ok h
    have b1 := (prs_in f (.cat []) d i hi).okB h1
    have b2 := (prs_in f (.altL [a]) d k b1.2).okB h2
    have c1 := prs_sz f _ d i hi _ _ h1
    have c2 := prs_sz f _ d k b1.2 _ _ h2
    simp only [Tk.bound, Tk.least, Re.szL] at *
    omega
  | f + 1, .altL l, d, i, hi, t, j, h => by
    rw [prs] at h
    split at h
    · rename_i hc
      obtain ⟨a, k, h1, h2⟩ := PR.bind_ok h
      have b1 := (prs_in f (.cat []) d (i + 1) hc.1).okB h1
      have b2 := (prs_in f (.altL (l ++ [a])) d k b1.2).okB h2
      have c1 := prs_sz f _ d (i + 1) hc.1 _ _ h1
      have c2 := prs_sz f _ d k b1.2 _ _ h2
      simp only [Tk.bound, Tk.least, Re.szL, szL_append] at *
      omega
    · simp only [PR.ok.injEq] at h
      have := joinT_sz 3 l
      rw [← h.1]
      simp only [Tk.bound]
      omega
  | f + 1, .cat l, d, i, hi, t, j, h => by
    rw [prs] at h
    split at h
    · obtain ⟨a, k, h1, h2⟩ := PR.bind_ok h
      have b1 := (prs_in f .item d i hi).okB h1
      have b2 := (prs_in f (.cat (l ++ [a])) d k b1.2).okB h2
      have c1 := prs_sz f _ d i hi _ _ h1
      have c2 := prs_sz f _ d k b1.2 _ _ h2
      simp only [Tk.bound, Tk.least, Re.szL, szL_append] at *
      omega
    · simp only [PR.ok.injEq] at h
      have := joinT_sz 2 l
      rw [← h.1]
      simp only [Tk.bound]
      omega
  | f + 1, .item, d, i, hi, t, j, h => by
    rw [prs] at h
    obtain ⟨a, k, h1, h2⟩ := PR.bind_ok h
    have b1 := (prs_in f .atom d i hi).okB h1
    have b2 := (prs_in f (.itemL a) d k b1.2).okB h2
    have c1 := prs_sz f _ d i hi _ _ h1
    have c2 := prs_sz f _ d k b1.2 _ _ h2
    simp only [Tk.bound, Tk.least] at *
    omega
  | f + 1, .itemL t0, d, i, hi, t, j, h => by
    rw [prs] at h
    have step : ∀ lo hi' (k : Nat), i + 1 ≤ k → k ≤ s.length → prs s f (.itemL (repT lo hi' t0)) d k = .ok t j → t.sz ≤ t0.sz + 2 * (j - i) := by
      intro lo hi' k h1 h2 h3
      have b2 := (prs_in f (.itemL (repT lo hi' t0)) d k h2).okB h3
      have c2 := prs_sz f _ d k h2 _ _ h3
      have := repT_sz lo hi' t0
      simp only [Tk.bound, Tk.least] at *
      omega
    split at h
    · rename_i hc; exact step _ _ _ (Nat.le_refl _) hc.1 h
    split at h
    · rename_i hc; exact step _ _ _ (Nat.le_refl _) hc.1 h
    split at h
    · rename_i hc; exact step _ _ _ (Nat.le_refl _) hc.1 h
    split at h
    · rename_i hc
      obtain ⟨b, k, h1, h2⟩ := PR.bind_ok h
      have b1 := (bndR_in (i := i + 1) hc.1).okB h1
      split at h2
      · rename_i hd; exact step _ _ _ (by omega) hd.1 h2
      · cases h2
    · simp only [PR.ok.injEq] at h
      rw [← h.1]
      simp only [Tk.bound]
      omega
  | f + 1, .atom, d, i, hi, t, j, h => by
    have hin := (prs_in (f + 1) .atom d i hi).okB h
    simp only [Tk.least, Tk.bound] at hin ⊢
    rw [prs] at h
    split at h
    · rename_i hc
      split at h
      · cases h
      · obtain ⟨a, k, h1, h2⟩ := PR.bind_ok h
        have b1 := (prs_in f .alt (d + 1) (i + 1) hc.1).okB h1
        have c1 := prs_sz f _ (d + 1) (i + 1) hc.1 _ _ h1
        split at h2
        · simp only [PR.ok.injEq] at h2
          simp only [Tk.bound, Tk.least] at *
          rw [← h2.1]
          omega
        · cases h2
    split at h
    · have := clsR_sz h; omega
    split at h
    · simp only [PR.ok.injEq] at h; rw [← h.1, setT_sz]; omega
    split at h
    · split at h
      · simp only [PR.ok.injEq] at h; rw [← h.1, setT_sz]; omega
      · obtain ⟨a, k, h1, h2⟩ := PR.bind_ok h
        simp only [PR.ok.injEq] at h2; rw [← h2.1, setT_sz]; omega
    split at h
    · simp only [PR.ok.injEq] at h; rw [← h.1, setT_sz]; omega
    · cases h
end
end Go.Proofs.Ytnbfifmnigeolaa
