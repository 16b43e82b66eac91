/- Plain laws: which configurations may be (P17.2). No conditions; no program. -/
import Derived.Test.YtkpdcejnanhgoaaReLaw
namespace Go.Proofs.Ytkpdcejnanhgoaa
open Go.RowKit
/-- a rule: what it looks for, what it puts -/
abbrev RuleP := List UInt8 × List UInt8
def frm (l : List RuleP) (i : Nat) : List UInt8 := (l.getD i ([], [])).1
def rto (l : List RuleP) (i : Nat) : List UInt8 := (l.getD i ([], [])).2
/-- a rule that may not be -/
def badR (l : List RuleP) (i : Nat) : Prop := (frm l i).length < 1 ∨ 16 < (frm l i).length ∨ 32 < (rto l i).length ∨ ∃ j, j < i ∧ frm l j = frm l i
open Classical in
noncomputable def ruleE (l : List RuleP) : Int := if 64 < l.length then 2 else if ∃ i, i < l.length ∧ badR l i then 110 else 0
theorem ruleE_long {l : List RuleP} (h : 64 < l.length) : ruleE l = 2 := by unfold ruleE; rw [if_pos h]
theorem ruleE_bad {l : List RuleP} (h : ¬ 64 < l.length) {i : Nat} (hi : i < l.length) (hb : badR l i) : ruleE l = 110 := by
  unfold ruleE; rw [if_neg h, if_pos ⟨i, hi, hb⟩]
theorem ruleE_ok {l : List RuleP} (h : ¬ 64 < l.length) (hb : ∀ i, i < l.length → ¬ badR l i) : ruleE l = 0 := by
  unfold ruleE; rw [if_neg h, if_neg (by rintro ⟨i, hi, h⟩; exact hb i hi h)]
theorem ruleE_open {l : List RuleP} (h : ruleE l = 0) : l.length ≤ 64 ∧ ∀ i, i < l.length → ¬ badR l i := by
  by_cases h1 : 64 < l.length
  · rw [ruleE_long h1] at h; exact absurd h (by decide)
  · refine ⟨by omega, fun i hi hb => ?_⟩
    rw [ruleE_bad h1 hi hb] at h; exact absurd h (by decide)
/-- how many bytes a byte may become -/
def upN (f t : Nat) : Nat := (t + f - 1) / f
def growTo (l : List RuleP) : Nat → Nat
  | 0 => 1
  | k + 1 => max (growTo l k) (upN (frm l k).length (rto l k).length)
def growN (l : List RuleP) : Nat := growTo l l.length
theorem upN_le {f t : Nat} (hf : 1 ≤ f) (ht : t ≤ 32) : upN f t ≤ 32 := by
  unfold upN
  exact Nat.div_le_of_le_mul (by omega)
theorem upN_iff {f t n : Nat} (hf : 1 ≤ f) : n * f < t ↔ n < upN f t := by
  unfold upN
  rw [Nat.lt_iff_add_one_le (m := n), Nat.le_div_iff_mul_le (by omega), Nat.add_mul]
  omega
theorem growTo_le {l : List RuleP} (h : ruleE l = 0) : ∀ k, k ≤ l.length → 1 ≤ growTo l k ∧ growTo l k ≤ 32
  | 0, _ => ⟨Nat.le_refl _, by show 1 ≤ 32; omega⟩
  | k + 1, hk => by
    have ih := growTo_le h k (by omega)
    have hb := (ruleE_open h).2 k (by omega)
    unfold badR at hb
    have h3 : 1 ≤ (frm l k).length ∧ (rto l k).length ≤ 32 := by
      constructor
      · by_cases h : (frm l k).length < 1
        · exact absurd (.inl h) hb
        · omega
      · by_cases h : 32 < (rto l k).length
        · exact absurd (.inr (.inr (.inl h))) hb
        · omega
    have h2 := upN_le h3.1 h3.2
    rw [growTo]
    omega
/-- the error of the first passes -/
noncomputable def passE (ps : List (List RuleP)) : Nat → Int
  | 0 => 0
  | k + 1 => if passE ps k = 0 then ruleE (ps.getD k []) else passE ps k
def growAll (ps : List (List RuleP)) : Nat → Nat
  | 0 => 1
  | k + 1 => growAll ps k * growN (ps.getD k [])
theorem passE_stay {ps : List (List RuleP)} {k : Nat} (h : passE ps k ≠ 0) : ∀ {n : Nat}, k ≤ n → passE ps n = passE ps k
  | 0, hn => by rw [show k = 0 by omega]
  | n + 1, hn => by
    by_cases e : k = n + 1
    · rw [e]
    · have ih := passE_stay (n := n) h (by omega)
      rw [passE, if_neg (by rw [ih]; exact h), ih]
theorem passE_step {ps : List (List RuleP)} {k : Nat} (h : passE ps k = 0) (e : ruleE (ps.getD k []) ≠ 0) {n : Nat} (hn : k < n) : passE ps n = ruleE (ps.getD k []) := by
  have h1 : passE ps (k + 1) = ruleE (ps.getD k []) := by rw [passE, if_pos h]
  rw [passE_stay (k := k + 1) (by rw [h1]; exact e) (by omega), h1]
theorem growAll_le {ps : List (List RuleP)} : ∀ k, k ≤ 4 → passE ps k = 0 → growAll ps k ≤ 32 ^ k
  | 0, _, _ => Nat.le_refl _
  | k + 1, hk, h => by
    rw [passE] at h
    by_cases e : passE ps k = 0
    · rw [if_pos e] at h
      have ih := growAll_le k (by omega) e
      have h2 := (growTo_le h _ (Nat.le_refl _)).2
      rw [growAll, Nat.pow_succ]
      exact Nat.mul_le_mul ih h2
    · rw [if_neg e] at h; exact absurd h e
/-- the texts of all ids behind so many merges, or none -/
def tx0 : List (List UInt8) := (List.range 256).map fun b => [u8 b]
open Classical in
noncomputable def txStep (k : Nat) (m : Int × Int) (ts : List (List UInt8)) : Option (List (List UInt8)) :=
  if (0 ≤ m.1 ∧ m.1 < 256 + k) ∧ (0 ≤ m.2 ∧ m.2 < 256 + k) ∧ (ts.getD m.1.toNat [] ++ ts.getD m.2.toNat []).length ≤ 64 ∧ (ts.getD m.1.toNat [] ++ ts.getD m.2.toNat []) ∉ ts.drop 256
  then some (ts ++ [ts.getD m.1.toNat [] ++ ts.getD m.2.toNat []]) else none
noncomputable def txTo (l : List (Int × Int)) : Nat → Option (List (List UInt8))
  | 0 => some tx0
  | k + 1 => (txTo l k).bind (txStep k (l.getD k (0, 0)))
noncomputable def textsE (l : List (Int × Int)) : Int := if 1024 < l.length then 2 else if (txTo l l.length).isSome = true then 0 else 130
theorem textsE_long {l : List (Int × Int)} (h : 1024 < l.length) : textsE l = 2 := by unfold textsE; rw [if_pos h]
theorem txTo_stay {l : List (Int × Int)} {k : Nat} (h : txTo l k = none) : ∀ {n : Nat}, k ≤ n → txTo l n = none
  | 0, hn => by rw [← h, show k = 0 by omega]
  | n + 1, hn => by
    by_cases e : k = n + 1
    · rw [← e]; exact h
    · rw [txTo, txTo_stay (n := n) h (by omega)]; rfl
theorem textsE_bad {l : List (Int × Int)} (h : ¬ 1024 < l.length) {k : Nat} (hk : k < l.length) {ts : List (List UInt8)} (ht : txTo l k = some ts) (hs : txStep k (l.getD k (0, 0)) ts = none) : textsE l = 130 := by
  unfold textsE
  rw [if_neg h, txTo_stay (k := k + 1) (by rw [txTo, ht]; exact hs) (by omega)]; rfl
theorem textsE_ok {l : List (Int × Int)} (h : ¬ 1024 < l.length) {ts : List (List UInt8)} (ht : txTo l l.length = some ts) : textsE l = 0 := by
  unfold textsE; rw [if_neg h, ht]; rfl
/-- a name that may not be -/
def nam (l : List (List UInt8)) (i : Nat) : List UInt8 := l.getD i []
def badN (l : List (List UInt8)) (i : Nat) : Prop := (nam l i).length < 1 ∨ 32 < (nam l i).length ∨ ∃ j, j < i ∧ nam l j = nam l i
def namesBad (l : List (List UInt8)) : Prop := ∃ i, i < l.length ∧ badN l i
def frameBad (n : Nat) (l : List Int) : Prop := 32 < l.length ∨ ∃ x ∈ l, x < 0 ∨ (n : Int) ≤ x
/-- how often a node's kids count -/
def timesOf (t : Re) : Int := match t with | .mk k _ a b _ => if k = 4 then max 1 (max a b) else 1
theorem times_pos (t : Re) : 1 ≤ timesOf t := by
  obtain ⟨k, s, a, b, l⟩ := t
  unfold timesOf
  dsimp only
  split <;> omega
theorem times_le {t : Re} (h : okP t) : timesOf t ≤ 20 := by
  obtain ⟨k, s, a, b, l⟩ := t
  unfold okP at h
  unfold timesOf
  dsimp only at h ⊢
  split <;> omega
/-- the size of an expression, up to 1001 -/
def szR : Nat → Re → Int
  | 0, _ => 2
  | h + 1, t => min (2 + (t.kids.map fun k => szR h k * timesOf t).sum) 1001
def szTo (h : Nat) (t : Re) (k : Nat) : Int := 2 + ((t.kids.take k).map fun k => szR h k * timesOf t).sum
theorem sum_nn : ∀ {l : List Int}, (∀ x ∈ l, 0 ≤ x) → 0 ≤ l.sum
  | [], _ => Int.le_refl _
  | x :: l, h => by
    have h1 := h x (by simp)
    have h2 := sum_nn (l := l) fun y hy => h y (by simp [hy])
    rw [List.sum_cons]; omega
theorem szR_nn : ∀ (h : Nat) (t : Re), 0 ≤ szR h t ∧ szR h t ≤ 1001
  | 0, _ => ⟨by show (0 : Int) ≤ 2; omega, by show (2 : Int) ≤ 1001; omega⟩
  | h + 1, t => by
    have hs : 0 ≤ (t.kids.map fun k => szR h k * timesOf t).sum := sum_nn fun x hx => by
      obtain ⟨k, _, rfl⟩ := List.mem_map.1 hx
      exact Int.mul_nonneg (szR_nn h k).1 (by have := times_pos t; omega)
    rw [szR]; omega
theorem szTo_zero {h : Nat} {t : Re} : szTo h t 0 = 2 := rfl
theorem szTo_succ {h : Nat} {t : Re} {k : Nat} {u : Re} (hu : t.kids[k]? = some u) : szTo h t (k + 1) = szTo h t k + szR h u * timesOf t := by
  unfold szTo
  rw [List.take_add_one, hu]
  simp only [Option.toList_some, List.map_append, List.map_cons, List.map_nil, List.sum_append, List.sum_cons, List.sum_nil]
  omega
theorem szTo_all {h : Nat} {t : Re} {k : Nat} (hk : t.kids.length ≤ k) : szR (h + 1) t = min (szTo h t k) 1001 := by
  unfold szTo
  rw [List.take_of_length_le hk, szR]
theorem szTo_over {h : Nat} {t : Re} {k : Nat} (hk : 1001 < szTo h t k) : szR (h + 1) t = 1001 := by
  have e : (t.kids.map fun k => szR h k * timesOf t).sum = ((t.kids.take k).map fun k => szR h k * timesOf t).sum + ((t.kids.drop k).map fun k => szR h k * timesOf t).sum := by
    rw [← List.sum_append, ← List.map_append, List.take_append_drop]
  have h2 : 0 ≤ ((t.kids.drop k).map fun k => szR h k * timesOf t).sum := sum_nn fun x hx => by
    obtain ⟨u, _, rfl⟩ := List.mem_map.1 hx
    exact Int.mul_nonneg (szR_nn h u).1 (by have := times_pos t; omega)
  unfold szTo at hk
  rw [szR, e]; omega
/-- a configuration -/
structure ConfP where
  ps : List (List RuleP)
  re : Re
  ms : List (Int × Int)
  ns : List (List UInt8)
  bf : List Int
  af : List Int
end Go.Proofs.Ytkpdcejnanhgoaa
