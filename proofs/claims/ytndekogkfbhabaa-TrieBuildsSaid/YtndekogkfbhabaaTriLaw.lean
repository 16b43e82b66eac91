/- Plain laws: free places, rows that grow, rows that are set, bytes that go on. No conditions; no program. -/
import Derived.Test.YtndekogkfbhabaaTriSpec
namespace Go.Proofs.Ytndekogkfbhabaa
theorem getD_grow (l : List Int) (n : Nat) (v : Int) (i : Nat) : (growF l n v).getD i v = l.getD i v := by
  unfold growF
  rw [List.getD_eq_getElem?_getD, List.getD_eq_getElem?_getD]
  by_cases h : i < l.length
  · rw [List.getElem?_append_left h]
  · rw [List.getElem?_append_right (by omega), List.getElem?_replicate, List.getElem?_eq_none (l := l) (by omega)]
    split <;> rfl
theorem len_grow (l : List Int) (n : Nat) (v : Int) : (growF l n v).length = max l.length n := by
  unfold growF; rw [List.length_append, List.length_replicate]; omega
theorem getD_setI (l : List Int) (i j : Nat) (v d : Int) : (l.set i v).getD j d = if i = j ∧ i < l.length then v else l.getD j d := by
  rw [List.getD_eq_getElem?_getD, List.getD_eq_getElem?_getD, List.getElem?_set]
  by_cases h : i = j
  · subst h
    by_cases h2 : i < l.length
    · rw [if_pos rfl, if_pos h2, if_pos ⟨rfl, h2⟩]; rfl
    · rw [if_pos rfl, if_neg h2, if_neg (fun q => h2 q.2), List.getElem?_eq_none (by omega)]
  · rw [if_neg h, if_neg (fun q => h q.1)]
theorem len_setAll (s : Nat) (a : Int) : ∀ (l : List UInt8) (c : List Int), (setAll c a s l).length = c.length
  | [], _ => rfl
  | b :: l, c => by
    show (setAll (c.set _ _) a s l).length = _
    rw [len_setAll s a l, List.length_set]
theorem getD_setAll (s : Nat) (a : Int) : ∀ (l : List UInt8) (c : List Int) (q : Nat), (∀ b ∈ l, (a + b.toNat + 1).toNat < c.length) → (setAll c a s l).getD q (-1) = if ∃ b ∈ l, (a + b.toNat + 1).toNat = q then (s : Int) else c.getD q (-1)
  | [], c, q, _ => by rw [if_neg (by simp)]; rfl
  | b :: l, c, q, h => by
    show (setAll (c.set _ _) a s l).getD q (-1) = _
    rw [getD_setAll s a l _ q (fun x hx => by rw [List.length_set]; exact h x (by simp [hx])), getD_setI]
    by_cases h1 : ∃ x ∈ l, (a + x.toNat + 1).toNat = q
    · obtain ⟨x, hx, he⟩ := h1
      rw [if_pos ⟨x, hx, he⟩, if_pos ⟨x, by simp [hx], he⟩]
    · rw [if_neg h1]
      by_cases h2 : (a + b.toNat + 1).toNat = q
      · rw [if_pos ⟨h2, h b (by simp)⟩, if_pos ⟨b, by simp, h2⟩]
      · rw [if_neg (fun p => h2 p.1), if_neg]
        rintro ⟨x, hx, he⟩
        rcases List.mem_cons.1 hx with rfl | hx
        · exact h2 he
        · exact h1 ⟨x, hx, he⟩
/-- the free place is one, and none is ahead of it -/
theorem freeF_at (c : List Int) : ∀ (f i : Nat), c.length < f + i → i ≤ c.length → c.getD (freeF c f i) (-1) < 0 ∧ i ≤ freeF c f i ∧ freeF c f i ≤ c.length
  | 0, i, h, hi => by omega
  | f + 1, i, h, hi => by
    unfold freeF
    by_cases h0 : 0 ≤ c.getD i (-1)
    · rw [if_pos h0]
      have hlt : i < c.length := by
        by_cases q : i < c.length
        · exact q
        · rw [List.getD_eq_getElem?_getD, List.getElem?_eq_none (by omega)] at h0; simp at h0
      obtain ⟨h1, h2, h3⟩ := freeF_at c f (i + 1) (by omega) (by omega)
      exact ⟨h1, by omega, h3⟩
    · rw [if_neg h0]
      exact ⟨by omega, Nat.le_refl _, hi⟩
theorem fits_iff (c : List Int) (l : List UInt8) (a : Int) : fitsF c l a = true ↔ ∀ b ∈ l, 1 ≤ a + b.toNat + 1 ∧ c.getD (a + b.toNat + 1).toNat (-1) < 0 := by
  unfold fitsF
  rw [List.all_eq_true]
  constructor
  · intro h b hb
    have := h b hb
    simpa using this
  · intro h b hb
    have := h b hb
    simpa using this
/-- what is sought is found, no later than where it is known to be -/
theorem seekF_at (c : List Int) (l : List UInt8) (z : Int) (hz : fitsF c l z = true) : ∀ (f : Nat) (a : Int), a ≤ z → z < a + f → fitsF c l (seekF c l f a) = true ∧ a ≤ seekF c l f a ∧ seekF c l f a ≤ z
  | 0, a, h1, h2 => by omega
  | f + 1, a, h1, h2 => by
    unfold seekF
    by_cases h : fitsF c l a = true
    · rw [if_pos h]; exact ⟨h, Int.le_refl _, h1⟩
    · rw [if_neg h]
      have hne : a ≠ z := fun e => h (e ▸ hz)
      obtain ⟨e1, e2, e3⟩ := seekF_at c l z hz f (a + 1) (by omega) (by omega)
      exact ⟨e1, by omega, e3⟩
theorem mem_bytesU (c : UInt8) : c ∈ bytesU := by
  unfold bytesU
  refine List.mem_map.2 ⟨c.toNat, List.mem_range.2 c.toNat_lt, by simp⟩
theorem mem_kids {ws : List Wd} {c : UInt8} : c ∈ kids ws ↔ sub ws c ≠ [] := by
  unfold kids
  rw [List.mem_filter]
  constructor
  · rintro ⟨_, h⟩ e
    rw [e] at h; simp at h
  · intro h
    refine ⟨mem_bytesU c, ?_⟩
    cases e : sub ws c with
    | nil => exact absurd e h
    | cons x l => rfl
/-- bytes rising -/
theorem bytesU_lt : bytesU.Pairwise fun a b => a.toNat < b.toNat := by
  unfold bytesU
  rw [List.pairwise_map]
  have : (List.range 256).Pairwise (· < ·) := List.pairwise_lt_range
  refine (List.Pairwise.and_mem.1 this).imp ?_
  rintro a b ⟨ha, hb, hab⟩
  rw [List.mem_range] at ha hb
  show (UInt8.ofNat a).toNat < (UInt8.ofNat b).toNat
  rw [UInt8.toNat_ofNat_of_lt' ha, UInt8.toNat_ofNat_of_lt' hb]
  exact hab
theorem kids_lt (ws : List Wd) : (kids ws).Pairwise fun a b => a.toNat < b.toNat := bytesU_lt.filter _
end Go.Proofs.Ytndekogkfbhabaa
