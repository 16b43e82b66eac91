/- Plain laws: the states of a double array and their paths, when a node's kids have got their places. No conditions; no program. -/
import Derived.Test.YtndekogkfbhabaaTriPut
namespace Go.Proofs.Ytndekogkfbhabaa
theorem St_lt {M : TM} {P : Nat → List UInt8} (h : Inv M P) {q : Nat} (hq : M.St q) : q < M.c.length := by
  rcases hq with rfl | hq
  · exact h.pos
  · exact C_in hq
/-- no state lies beyond s -/
def FreshP (M : TM) (P : Nat → List UInt8) (p : List UInt8) : Prop := ∀ q, M.St q → ∀ l, l ≠ [] → P q ≠ p ++ l
section
variable {M : TM} {P : Nat → List UInt8} {s : Nat} {k : UInt8} {ks : List UInt8}
/-- the paths behind it -/
noncomputable def putP (M : TM) (P : Nat → List UInt8) (s : Nat) (k : UInt8) (ks : List UInt8) (q : Nat) : List UInt8 :=
  match (k :: ks).find? fun b => kS M k ks b == q with
  | some b => P s ++ [b]
  | none => P q
variable (h : Inv M P) (hp : (k :: ks).Pairwise fun a b => a.toNat < b.toNat)
include h hp
theorem kS_at {b : UInt8} (hb : b ∈ k :: ks) : (kS M k ks b : Int) = baseF M k ks + b.toNat + 1 ∧ 1 ≤ kS M k ks b ∧ M.C (kS M k ks b) < 0 := by
  obtain ⟨h1, h2, h3⟩ := base_at (M := M) (k := k) (ks := ks) h.fr (List.pairwise_cons.1 hp).1
  have := h1 b hb
  unfold kS
  exact ⟨by omega, by omega, this.2⟩
theorem kS_inj {b b' : UInt8} (hb : b ∈ k :: ks) (hb' : b' ∈ k :: ks) (e : kS M k ks b = kS M k ks b') : b = b' := by
  have h1 := (kS_at h hp hb).1
  have h2 := (kS_at h hp hb').1
  rw [e] at h1
  exact byte_eq (by omega)
theorem putP_kid {b : UInt8} (hb : b ∈ k :: ks) : putP M P s k ks (kS M k ks b) = P s ++ [b] := by
  unfold putP
  cases e : (k :: ks).find? fun x => kS M k ks x == kS M k ks b with
  | none => exact absurd (List.find?_eq_none.1 e b hb) (by simp)
  | some x =>
    have h1 := List.find?_some e
    have h2 := List.mem_of_find?_eq_some e
    rw [kS_inj h hp h2 hb (by simpa using h1)]
theorem putP_old {q : Nat} (hq : M.St q) : putP M P s k ks q = P q := by
  unfold putP
  cases e : (k :: ks).find? fun x => kS M k ks x == q with
  | none => rfl
  | some x =>
    have h1 := List.find?_some e
    have h2 := kS_at h hp (List.mem_of_find?_eq_some e)
    have h3 : kS M k ks x = q := by simpa using h1
    rw [h3] at h2
    rcases hq with rfl | hq <;> omega
theorem put_St (q : Nat) : (putF M s k ks).St q ↔ M.St q ∨ ∃ b ∈ k :: ks, kS M k ks b = q := by
  unfold TM.St
  rw [put_C hp h.fr]
  by_cases e : ∃ b ∈ k :: ks, kS M k ks b = q
  · rw [if_pos e]
    exact ⟨fun _ => .inr e, fun _ => .inr (by omega)⟩
  · rw [if_neg e]
    exact ⟨fun x => .inl x, fun x => x.resolve_right e⟩
theorem put_inv (hs : M.St s) (hf : FreshP M P (P s)) : Inv (putF M s k ks) (putP M P s k ks) := by
  have hsl := St_lt h hs
  obtain ⟨h1, h2, h3⟩ := base_at (M := M) (k := k) (ks := ks) h.fr (List.pairwise_cons.1 hp).1
  obtain ⟨l1, l2, l3⟩ := put_len (M := M) (s := s) (k := k) (ks := ks) ⟨h.lb, h.lw⟩
  have hfr := freeF_at M.c (M.c.length + 1) M.free (by omega) h.fr.2
  have hk0 : ¬ ∃ b ∈ k :: ks, kS M k ks b = 0 := by
    rintro ⟨b, hb, e⟩
    have := (kS_at h hp hb).2.1
    omega
  have hkk : ∀ b ∈ k :: ks, ∀ q, M.St q → kS M k ks b ≠ q := by
    rintro b hb q hq rfl
    have := kS_at h hp hb
    rcases hq with e | hq <;> omega
  refine ⟨l2, l3, by have := h.pos; omega, ?_, ?_, ?_, ?_, ?_, ?_⟩
  · rw [put_C hp h.fr, if_neg hk0]; exact h.c0
  · rw [putP_old h hp (.inl rfl)]; exact h.p0
  · intro x
    rw [put_B h.lb hsl]
    have := h.bas x
    split <;> omega
  · unfold putF
    dsimp only
    rw [len_setAll, len_grow]
    have := h.fr
    omega
  · intro q hq
    rw [put_C hp h.fr] at hq ⊢
    by_cases e : ∃ b ∈ k :: ks, kS M k ks b = q
    · rw [if_pos e]
      obtain ⟨b, hb, rfl⟩ := e
      refine ⟨s, b, rfl, (put_St h hp s).2 (.inl hs), ?_, ?_⟩
      · rw [putP_kid h hp hb, putP_old h hp hs]
      · rw [put_B h.lb hsl, if_pos rfl]
        exact (kS_at h hp hb).1
    · rw [if_neg e] at hq ⊢
      obtain ⟨x, b, e1, e2, e3, e4⟩ := h.par q hq
      have hne : s ≠ x := by
        rintro rfl
        exact hf q (.inr hq) [b] (by simp) e3
      refine ⟨x, b, e1, (put_St h hp x).2 (.inl e2), ?_, ?_⟩
      · rw [putP_old h hp (.inr hq), putP_old h hp e2]; exact e3
      · rw [put_B h.lb hsl, if_neg hne]; exact e4
  · intro q q' hq hq' e
    rcases (put_St h hp q).1 hq with hq | ⟨b, hb, rfl⟩ <;> rcases (put_St h hp q').1 hq' with hq' | ⟨b', hb', rfl⟩
    · rw [putP_old h hp hq, putP_old h hp hq'] at e
      exact h.inj _ _ hq hq' e
    · rw [putP_old h hp hq, putP_kid h hp hb'] at e
      exact absurd e (hf q hq [b'] (by simp))
    · rw [putP_old h hp hq', putP_kid h hp hb] at e
      exact absurd e.symm (hf q' hq' [b] (by simp))
    · rw [putP_kid h hp hb, putP_kid h hp hb'] at e
      have := List.append_cancel_left e
      obtain rfl : b = b' := by simpa using this
      rfl
end
end Go.Proofs.Ytndekogkfbhabaa
