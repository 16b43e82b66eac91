/- Plain laws: a node's kids get their places in a double array. No conditions; no program. -/
import Derived.Test.YtndekogkfbhabaaTriLaw
namespace Go.Proofs.Ytndekogkfbhabaa
theorem C_out {M : TM} {i : Nat} (h : M.c.length ≤ i) : M.C i = -1 := by
  unfold TM.C
  rw [List.getD_eq_getElem?_getD, List.getElem?_eq_none h]; rfl
theorem C_in {M : TM} {i : Nat} (h : 0 ≤ M.C i) : i < M.c.length := by
  by_cases q : i < M.c.length
  · exact q
  · rw [C_out (by omega)] at h; omega
section
variable {M : TM} {k : UInt8} {ks : List UInt8}
theorem base_at (hf : 1 ≤ M.free ∧ M.free ≤ M.c.length) (hk : ∀ b ∈ ks, k.toNat < b.toNat) :
    (∀ b ∈ k :: ks, 1 ≤ baseF M k ks + b.toNat + 1 ∧ M.C (baseF M k ks + b.toNat + 1).toNat < 0) ∧ -255 ≤ baseF M k ks ∧ baseF M k ks + k.toNat + 1 ≤ M.c.length := by
  obtain ⟨h1, h2, h3⟩ := freeF_at M.c (M.c.length + 1) M.free (by omega) hf.2
  have hkb := k.toNat_lt
  have hz : fitsF M.c (k :: ks) ((M.c.length : Int) - k.toNat - 1) = true := by
    rw [fits_iff]
    intro b hb
    have hkb : k.toNat ≤ b.toNat := by
      rcases List.mem_cons.1 hb with rfl | hb
      · exact Nat.le_refl _
      · exact Nat.le_of_lt (hk b hb)
    refine ⟨by omega, ?_⟩
    have := C_out (M := M) (i := ((M.c.length : Int) - k.toNat - 1 + b.toNat + 1).toNat) (by omega)
    unfold TM.C at this
    omega
  obtain ⟨e1, e2, e3⟩ := seekF_at M.c (k :: ks) _ hz (M.c.length + 300) (max ((freeF M.c (M.c.length + 1) M.free : Nat) - (k.toNat : Int) - 1) (-(k.toNat : Int))) (by omega) (by omega)
  unfold baseF
  refine ⟨fun b hb => (fits_iff _ _ _).1 e1 b hb, by omega, by omega⟩
theorem last_ge : ∀ {l : List UInt8} (_ : l.Pairwise fun a b => a.toNat < b.toNat) (hne : l ≠ []), ∀ b ∈ l, b.toNat ≤ (l.getLast hne).toNat
  | [], _, hne, _, _ => absurd rfl hne
  | [a], _, _, b, hb => by
    obtain rfl := List.mem_singleton.1 hb
    exact Nat.le_refl _
  | a :: c :: l, hp, hne, b, hb => by
    rw [List.getLast_cons (by simp)]
    have hp2 := List.pairwise_cons.1 hp
    have ih := last_ge hp2.2 (by simp)
    rcases List.mem_cons.1 hb with rfl | hb
    · have := ih c (by simp)
      have := hp2.1 c (by simp)
      omega
    · exact ih b hb
/-- a node's kid's place -/
def kS (M : TM) (k : UInt8) (ks : List UInt8) (b : UInt8) : Nat := (baseF M k ks + b.toNat + 1).toNat
variable {s : Nat}
theorem put_len (hl : M.b.length = M.c.length ∧ M.w.length = M.c.length) : (putF M s k ks).c.length = max M.c.length (baseF M k ks + lastF k ks + 2).toNat ∧ (putF M s k ks).b.length = (putF M s k ks).c.length ∧ (putF M s k ks).w.length = (putF M s k ks).c.length := by
  unfold putF
  refine ⟨by rw [len_setAll, len_grow], ?_, ?_⟩
  · rw [List.length_set, len_grow, len_setAll, len_grow, hl.1]
  · rw [len_grow, len_setAll, len_grow, hl.2]
theorem put_B (hl : M.b.length = M.c.length) (hs : s < M.c.length) (q : Nat) : (putF M s k ks).B q = if s = q then baseF M k ks else M.B q := by
  unfold putF TM.B
  dsimp only
  rw [getD_setI, getD_grow, len_grow]
  by_cases h : s = q
  · rw [if_pos ⟨h, by omega⟩, if_pos h]
  · rw [if_neg (fun p => h p.1), if_neg h]
theorem put_W (q : Nat) : (putF M s k ks).W q = M.W q := by
  unfold putF TM.W
  exact getD_grow _ _ _ _
theorem put_C (hp : (k :: ks).Pairwise fun a b => a.toNat < b.toNat) (hf : 1 ≤ M.free ∧ M.free ≤ M.c.length) (q : Nat) : (putF M s k ks).C q = if ∃ b ∈ k :: ks, kS M k ks b = q then (s : Int) else M.C q := by
  obtain ⟨h1, h2, h3⟩ := base_at (M := M) (k := k) (ks := ks) hf (List.pairwise_cons.1 hp).1
  unfold putF TM.C
  dsimp only
  rw [getD_setAll, getD_grow]
  · rfl
  · intro b hb
    have := last_ge hp (by simp) b hb
    have := (h1 b hb).1
    rw [len_grow]
    unfold lastF
    omega
end
end Go.Proofs.Ytndekogkfbhabaa
