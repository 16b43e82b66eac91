/- Plain laws: the least byte of each class; classes rise with their least bytes, are parted, and stay with a set made of those there. No conditions; no program. -/
import Derived.Test.YtapanlchnmgkmaaClsLaw
namespace Go.Proofs.Ytapanlchnmgkmaa
/-- after j bytes from 255 down: the least one seen of class c, or 0 -/
def lst (f : Nat → Nat) : Nat → Nat → Nat
  | 0, _ => 0
  | j + 1, c => if f (255 - j) = c then 255 - j else lst f j c
theorem lst_le (f : Nat → Nat) (c : Nat) : ∀ j, lst f j c ≤ 255
  | 0 => by simp [lst]
  | j + 1 => by
    have := lst_le f c j
    unfold lst; split <;> omega
theorem lst_spec (f : Nat → Nat) (c : Nat) : ∀ j, j ≤ 256 → ∀ b, 256 - j ≤ b → b < 256 → f b = c → f (lst f j c) = c ∧ lst f j c ≤ b
  | 0, _, b, h1, h2, _ => by omega
  | j + 1, hj, b, h1, h2, hb => by
    unfold lst
    split
    · rename_i h; exact ⟨h, by omega⟩
    · rename_i h
      have hne : b ≠ 255 - j := fun e => h (by rw [← e]; exact hb)
      exact lst_spec f c j (by omega) b (by omega) h2 hb
section
variable {α : Type} [DecidableEq α]
theorem cls_onto (f : Nat → α) : ∀ m, m ≤ 256 → ∀ c, c < (keysTo f m).length → ∃ b, b < m ∧ cls f b = c
  | 0, _, c, h => by simp [keysTo] at h
  | m + 1, hm, c, h => by
    cases hf : findIn (f m) 0 (keysTo f m) with
    | some j =>
      rw [(cls_old f (by omega) hf).2] at h
      obtain ⟨b, hb, e⟩ := cls_onto f m (by omega) c h
      exact ⟨b, by omega, e⟩
    | none =>
      obtain ⟨h1, h2⟩ := cls_new f (by omega) hf
      rw [h2, List.length_append] at h
      simp at h
      by_cases hc : c < (keysTo f m).length
      · obtain ⟨b, hb, e⟩ := cls_onto f m (by omega) c hc
        exact ⟨b, by omega, e⟩
      · exact ⟨m, by omega, by omega⟩
/-- the least byte of a class -/
def rep (f : Nat → α) (c : Nat) : Nat := lst (cls f) 256 c
theorem rep_lt (f : Nat → α) (c : Nat) : rep f c < 256 := by have := lst_le (cls f) c 256; unfold rep; omega
theorem rep_at (f : Nat → α) {b : Nat} (hb : b < 256) : cls f (rep f (cls f b)) = cls f b ∧ rep f (cls f b) ≤ b := by
  unfold rep
  exact lst_spec (cls f) (cls f b) 256 (Nat.le_refl _) b (by omega) hb rfl
theorem rep_cls (f : Nat → α) {c : Nat} (hc : c < clsN f) : cls f (rep f c) = c := by
  unfold clsN at hc
  obtain ⟨m, hm⟩ : ∃ m, m = 256 := ⟨_, rfl⟩
  rw [← hm] at hc
  obtain ⟨b, hb, rfl⟩ := cls_onto f m (by omega) c hc
  exact (rep_at f (by omega)).1
theorem rep_rise (f : Nat → α) {k : Nat} (hk : k + 1 < clsN f) : rep f k < rep f (k + 1) := by
  have h1 := rep_cls f hk
  have h2 := rep_lt f (k + 1)
  generalize hb : rep f (k + 1) = b at *
  cases hf : findIn (f b) 0 (keysTo f b) with
  | some j =>
    have h3 := (cls_old f h2 hf).1
    have h4 := (findIn_bound hf).2
    obtain ⟨b', hb', e⟩ := cls_onto f b (by omega) j (by omega)
    have h5 := (rep_at f (show b' < 256 by omega)).2
    rw [show cls f b' = k + 1 by omega, hb] at h5
    omega
  | none =>
    have h3 := (cls_new f h2 hf).1
    obtain ⟨b', hb', e⟩ := cls_onto f b (by omega) k (by omega)
    have h5 := (rep_at f (show b' < 256 by omega)).2
    rw [e] at h5
    omega
end
/-- two classes are parted by some set -/
theorem rep_parted (l : List (Nat → Bool)) {k c : Nat} (hk : k < clsN (sig l)) (hc : c < k) : (l.any fun a => a (rep (sig l) k) != a (rep (sig l) c)) = true := by
  rcases Bool.eq_false_or_eq_true (l.any fun a => a (rep (sig l) k) != a (rep (sig l) c)) with h | h
  · exact h
  · exfalso
    have e : sig l (rep (sig l) k) = sig l (rep (sig l) c) := by
      unfold sig
      refine List.map_congr_left fun p hp => ?_
      have := (List.any_eq_false.1 h) p hp
      simp only [bne_iff_ne, ne_eq, Classical.not_not] at this
      exact this
    have := (cls_inj (sig l) (rep_lt _ _) (rep_lt _ _)).2 e
    rw [rep_cls (sig l) hk, rep_cls (sig l) (by omega)] at this
    omega
/-- a set is a whole number of classes -/
theorem rep_same (l : List (Nat → Bool)) {p : Nat → Bool} (hp : p ∈ l) {b : Nat} (hb : b < 256) : p b = p (rep (sig l) (cls (sig l) b)) := by
  have e := (cls_inj (sig l) hb (rep_lt _ _)).1 (rep_at (sig l) hb).1.symm
  unfold sig at e
  exact List.map_inj_left.1 e p hp
theorem sig_alike (l : List (Nat → Bool)) {p q : Nat → Bool} (hp : p ∈ l) (hq : q ∈ l) : Alike (sig l) (sig (l ++ [fun b => p b || !q b])) := fun b c _ _ => by
  rw [sig_snoc, sig_snoc]
  constructor
  · intro h
    have h1 : p b = p c := List.map_inj_left.1 (show l.map (fun p => p b) = l.map fun p => p c from h) p hp
    have h2 : q b = q c := List.map_inj_left.1 (show l.map (fun p => p b) = l.map fun p => p c from h) q hq
    rw [h, h1, h2]
  · intro h
    exact (List.append_inj' h rfl).1
theorem clsN_nil : clsN (sig []) = 1 := (stOf_ok []).many.symm
theorem clsN_pos (l : List (Nat → Bool)) : 0 < clsN (sig l) := Nat.lt_of_le_of_lt (Nat.zero_le _) (cls_lt (sig l) (b := 0) (by omega))
end Go.Proofs.Ytapanlchnmgkmaa
