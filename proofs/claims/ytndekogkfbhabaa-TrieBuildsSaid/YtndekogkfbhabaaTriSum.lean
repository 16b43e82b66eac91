/- Plain laws: how many places a node's words take. No conditions; no program. -/
import Derived.Test.YtndekogkfbhabaaTriInv
namespace Go.Proofs.Ytndekogkfbhabaa
/-- letters left -/
def lets (ws : List Wd) : Nat := (ws.map fun x => x.1.length).sum
/-- places that a node's words take, at most -/
def costW (ws : List Wd) : Nat := lets ws + 256 * (ws.length - 1)
theorem sub_nilW (n : Nat) (ws : List Wd) (c : UInt8) : sub (([], n) :: ws) c = sub ws c := rfl
theorem sub_consW (d : UInt8) (l : List UInt8) (n : Nat) (ws : List Wd) (c : UInt8) : sub ((d :: l, n) :: ws) c = if d = c then (l, n) :: sub ws c else sub ws c := by
  unfold sub
  rw [List.filterMap_cons]
  by_cases h : d = c
  · have e : tlW c (d :: l, n) = some (l, n) := by show (if d = c then some (l, n) else none) = _; rw [if_pos h]
    simp only [e, if_pos h]
  · have e : tlW c (d :: l, n) = none := by show (if d = c then some (l, n) else none) = _; rw [if_neg h]
    simp only [e, if_neg h]
theorem sum_ind (g : UInt8 → Nat) (d : UInt8) (v : Nat) : ∀ cs : List UInt8, (cs.map fun c => g c + if d = c then v else 0).sum = (cs.map g).sum + v * cs.count d
  | [] => by simp
  | c :: cs => by
    rw [List.map_cons, List.sum_cons, sum_ind g d v cs, List.map_cons, List.sum_cons, List.count_cons]
    by_cases h : d = c
    · subst h; simp; rw [Nat.mul_add]; omega
    · rw [if_neg h, if_neg (by simpa using fun q => h q.symm), Nat.add_zero, Nat.add_zero]; omega
theorem sum_sub {cs : List UInt8} (hn : cs.Nodup) : ∀ ws : List Wd, (cs.map fun c => (sub ws c).length).sum ≤ ws.length ∧ (cs.map fun c => lets (sub ws c) + (sub ws c).length).sum ≤ lets ws
  | [] => by
    have h1 : ∀ cs : List UInt8, (cs.map fun c => (sub [] c).length).sum = 0 := fun cs => by
      induction cs with
      | nil => rfl
      | cons c cs ih => rw [List.map_cons, List.sum_cons, ih]; rfl
    have h2 : ∀ cs : List UInt8, (cs.map fun c => lets (sub [] c) + (sub [] c).length).sum = 0 := fun cs => by
      induction cs with
      | nil => rfl
      | cons c cs ih => rw [List.map_cons, List.sum_cons, ih]; rfl
    rw [h1, h2]
    exact ⟨Nat.zero_le _, Nat.zero_le _⟩
  | ([], n) :: ws => by
    obtain ⟨h1, h2⟩ := sum_sub hn ws
    refine ⟨by rw [List.length_cons]; exact Nat.le_succ_of_le h1, ?_⟩
    have : lets (([], n) :: ws) = lets ws := by unfold lets; simp
    rw [this]
    exact h2
  | (d :: l, n) :: ws => by
    obtain ⟨h1, h2⟩ := sum_sub hn ws
    have hc := List.nodup_iff_count.1 hn d
    have e1 : (cs.map fun c => (sub ((d :: l, n) :: ws) c).length) = cs.map fun c => (sub ws c).length + if d = c then 1 else 0 := by
      refine List.map_congr_left fun c _ => ?_
      rw [sub_consW]
      split <;> simp
    have e2 : (cs.map fun c => lets (sub ((d :: l, n) :: ws) c) + (sub ((d :: l, n) :: ws) c).length) = cs.map fun c => (lets (sub ws c) + (sub ws c).length) + if d = c then l.length + 1 else 0 := by
      refine List.map_congr_left fun c _ => ?_
      rw [sub_consW]
      split
      · unfold lets; simp; omega
      · simp
    have e3 : lets ((d :: l, n) :: ws) = l.length + 1 + lets ws := by unfold lets; simp
    rw [e1, e2, sum_ind, sum_ind, e3, List.length_cons]
    have h3 : (l.length + 1) * cs.count d ≤ l.length + 1 := by
      have := Nat.mul_le_mul_left (l.length + 1) hc
      omega
    exact ⟨by omega, by omega⟩
/-- the kids' costs -/
theorem sum_cost (ws : List Wd) : ∀ (cs : List UInt8), (∀ c ∈ cs, sub ws c ≠ []) → (cs.map fun c => costW (sub ws c)).sum + 256 * cs.length ≤ (cs.map fun c => lets (sub ws c)).sum + 256 * (cs.map fun c => (sub ws c).length).sum
  | [], _ => by simp
  | c :: cs, h => by
    have ih := sum_cost ws cs fun x hx => h x (by simp [hx])
    have h1 : 0 < (sub ws c).length := List.length_pos_iff.2 (h c (by simp))
    simp only [List.map_cons, List.sum_cons, List.length_cons]
    unfold costW at ih ⊢
    omega
theorem sum_two (f g : UInt8 → Nat) : ∀ cs : List UInt8, (cs.map fun c => f c + g c).sum = (cs.map f).sum + (cs.map g).sum
  | [] => rfl
  | c :: cs => by simp only [List.map_cons, List.sum_cons]; rw [sum_two f g cs]; omega
/-- a node with kids -/
theorem kids_cost {ws : List Wd} {k : UInt8} {ks : List UInt8} (e : kids ws = k :: ks) {len n : Nat} (h1 : ks = [] → n ≤ len + 1) (h2 : n ≤ len + 256) : n + ((k :: ks).map fun c => costW (sub ws c)).sum ≤ len + costW ws := by
  have hp := kids_lt ws
  rw [e] at hp
  have hnd : (k :: ks).Nodup := hp.imp fun h q => by subst q; omega
  have hne : ∀ c ∈ k :: ks, sub ws c ≠ [] := fun c hc => mem_kids.1 (e ▸ hc)
  obtain ⟨s1, s2⟩ := sum_sub hnd ws
  have s3 := sum_cost ws (k :: ks) hne
  rw [sum_two] at s2
  have hk : 0 < (sub ws k).length := List.length_pos_iff.2 (hne k (by simp))
  have s4 : (sub ws k).length ≤ ((k :: ks).map fun c => (sub ws c).length).sum := by rw [List.map_cons, List.sum_cons]; omega
  unfold costW
  cases ks with
  | nil =>
    have := h1 rfl
    simp only [List.length_cons, List.length_nil] at s3
    unfold costW at s3
    omega
  | cons k2 ks =>
    simp only [List.length_cons] at s3
    unfold costW at s3
    omega
end Go.Proofs.Ytndekogkfbhabaa
