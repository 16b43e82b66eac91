/- What follows of any instruction, by the reference: one contract. Conditions: program and ranges lie in memory, the program is whole. -/
import Derived.Test.YtkhggnlanopgkaaRefGoes1
import Derived.Test.YtkhggnlanopgkaaRefGoes3
import Derived.Test.YtkhggnlanopgkaaRefGoes8
namespace Go.Proofs.Ytkhggnlanopgkaa
open Go.RowKit
theorem sA_self {x : Nat → Int} {r : Rg} (hr : r.length = 8) (hx : 0 ≤ x 1 ∧ x 1 ≤ 7) : sA x r (rget r (x 1).toNat) = r := by
  have hk : (x 1).toNat < r.length := by omega
  have e : rget r (x 1).toNat = r[(x 1).toNat] := by unfold rget; rw [List.getD_eq_getElem?_getD, List.getElem?_eq_getElem hk]; rfl
  unfold sA
  rw [e]
  exact List.set_getElem_self hk
/-- what the reference tells of flow: behind, and at C -/
def GoR (of : List (Int × Int)) (x : Nat → Int) (r : Rg) (n : Bool) (N : Int × Int) (f : Bool) (F : Int × Int) : Prop :=
  goN of x r = (if n then some (sA x r N) else none) ∧ goF x r = (if f then some (sA x r F) else none)
theorem gor_1 {of : List (Int × Int)} {x : Nat → Int} {r : Rg} {N F : Int × Int} (h : x 0 = 1) : GoR of x r false N false F := by
  unfold GoR goN goF; simp [h]
theorem gor_2 {of : List (Int × Int)} {x : Nat → Int} {r : Rg} {F : Int × Int} (h : x 0 = 2) : GoR of x r true (x 2, x 2) false F := by
  unfold GoR goN goF; simp [h]
theorem gor_3 {of : List (Int × Int)} {x : Nat → Int} {r : Rg} {F : Int × Int} (h : x 0 = 3) : GoR of x r true (rget r (x 2).toNat) false F := by
  unfold GoR goN goF; simp [h]
theorem gor_4 {of : List (Int × Int)} {x : Nat → Int} {r : Rg} {N : Int × Int} (h : x 0 = 4) (hr : r.length = 8) (hx : 0 ≤ x 1 ∧ x 1 ≤ 7) : GoR of x r false N true (rget r (x 1).toNat) := by
  unfold GoR goN goF; simp [h, sA_self hr hx]
theorem gor_7 {of : List (Int × Int)} {x : Nat → Int} {r : Rg} (h : x 0 = 7) (hr : r.length = 8) (hx : 0 ≤ x 1 ∧ x 1 ≤ 7) : GoR of x r true (0, 255) true (rget r (x 1).toNat) := by
  unfold GoR goN goF; simp [h, sA_self hr hx]
theorem gor_8 {of : List (Int × Int)} {x : Nat → Int} {r : Rg} {F : Int × Int} (h : x 0 = 8) : GoR of x r true (of.getD (x 4).toNat (0, 0)) false F := by
  unfold GoR goN goF; simp [h]
theorem gor_11 {of : List (Int × Int)} {x : Nat → Int} {r : Rg} (h : x 0 = 11) (hr : r.length = 8) (hx : 0 ≤ x 1 ∧ x 1 ≤ 7) : GoR of x r true (rget r (x 1).toNat) true (rget r (x 1).toNat) := by
  unfold GoR goN goF; simp [h, sA_self hr hx]
theorem gor_5 {of : List (Int × Int)} {x : Nat → Int} {r : Rg} (h : x 0 = 5) : GoR of x r (decide ((sameB (rget r (x 1).toNat) (x 2)).1 ≤ (sameB (rget r (x 1).toNat) (x 2)).2)) (sameB (rget r (x 1).toNat) (x 2)) (decide ((rget r (x 1).toNat).1 ≤ x 2) && decide (x 2 ≤ (rget r (x 1).toNat).2)) (x 2, x 2) := by
  unfold GoR goN goF
  simp [h, ifIn, rA]
  exact ⟨by congr, by congr⟩
theorem gor_6 {of : List (Int × Int)} {x : Nat → Int} {r : Rg} (h : x 0 = 6) : GoR of x r (decide (max (rget r (x 1).toNat).1 (x 2) ≤ (rget r (x 1).toNat).2)) (max (rget r (x 1).toNat).1 (x 2), (rget r (x 1).toNat).2) (decide ((rget r (x 1).toNat).1 ≤ min (rget r (x 1).toNat).2 (x 2 - 1))) ((rget r (x 1).toNat).1, min (rget r (x 1).toNat).2 (x 2 - 1)) := by
  unfold GoR goN goF
  constructor
  · simp only [h, ifIn, rA, decide_eq_true_eq]; rfl
  · simp only [h, ifIn, rA, decide_eq_true_eq]; rfl
theorem gor_else {of : List (Int × Int)} {x : Nat → Int} {r : Rg} {F : Int × Int} (h : x 0 ≠ 1 ∧ x 0 ≠ 2 ∧ x 0 ≠ 3 ∧ x 0 ≠ 4 ∧ x 0 ≠ 5 ∧ x 0 ≠ 6 ∧ x 0 ≠ 7 ∧ x 0 ≠ 8 ∧ x 0 ≠ 11) (hr : r.length = 8) (hx : 0 ≤ x 1 ∧ x 1 ≤ 7) : GoR of x r true (rget r (x 1).toNat) false F := by
  obtain ⟨h1, h2, h3, h4, h5, h6, h7, h8, h9⟩ := h
  unfold GoR goN goF; simp [h1, h2, h3, h4, h5, h6, h7, h8, h9, sA_self hr hx]
theorem ref_goes (p : Prg) (v : PV) (x : Nat → Int) (vr : Value) (r : Rg) (w : World) (H : PrgAt w v p) (hr : RowOf spC 2 w vr r) (hr8 : r.length = 8) (hx1 : 0 ≤ x 1 ∧ x 1 ≤ 7) (hx3 : x 0 = 3 → 0 ≤ x 2 ∧ x 2 ≤ 7) (hx5 : x 0 = 5 ∨ x 0 = 6 → 0 ≤ x 2 ∧ x 2 ≤ 1073741824)
    (hx8 : x 0 = 8 → (0 ≤ x 4 ∧ x 4 < (p.tabs.length : Int)) ∧ (1 ≤ (tabD p x).2.length ∧ (tabD p x).2.length ≤ 400000)) :
    Calls Try.prog 40 #[pgV p v, vI x, vr] w fun e w' => ∃ n N f F, e = .returned (.tuple #[.bool n, spV N, .bool f, spV F]) ∧ GoR (p.tabs.map fun t => spanD t.2) x r n N f F ∧ Below w.heap.size w w' := by
  have hv : ∀ o, x 0 = o → vI x = .agg #[.int .i64 o, .int .i64 (x 1), .int .i64 (x 2), .int .i64 (x 3), .int .i64 (x 4)] := fun o h => by rw [← h]
  by_cases h1 : x 0 = 1
  · have h := h1
    rw [hv _ h]
    exact (ref_goes1 p v (x 1) (x 2) (x 3) (x 4) vr r w hr hr8 hx1).mono fun e w' ⟨he, hb⟩ => ⟨_, _, _, _, he, gor_1 h, hb⟩
  by_cases h2 : x 0 = 2
  · have h := h2
    rw [hv _ h]
    exact (ref_goes2 p v (x 1) (x 2) (x 3) (x 4) vr r w hr hr8 hx1).mono fun e w' ⟨he, hb⟩ => ⟨_, _, _, _, he, gor_2 h, hb⟩
  by_cases h3 : x 0 = 3
  · have h := h3
    rw [hv _ h]
    exact (ref_goes3 p v (x 1) (x 2) (x 3) (x 4) vr r w hr hr8 hx1 (hx3 h)).mono fun e w' ⟨he, hb⟩ => ⟨_, _, _, _, he, gor_3 h, hb⟩
  by_cases h4 : x 0 = 4
  · have h := h4
    rw [hv _ h]
    exact (ref_goes4 p v (x 1) (x 2) (x 3) (x 4) vr r w hr hr8 hx1).mono fun e w' ⟨he, hb⟩ => ⟨_, _, _, _, he, gor_4 h hr8 hx1, hb⟩
  by_cases h5 : x 0 = 5
  · have h := h5
    rw [hv _ h]
    exact (ref_goes5 p v (x 1) (x 2) (x 3) (x 4) vr r w hr hr8 hx1 (hx5 (.inl h)).1 (hx5 (.inl h)).2 _ rfl).mono fun e w' ⟨he, hb⟩ => ⟨_, _, _, _, he, gor_5 h, hb⟩
  by_cases h6 : x 0 = 6
  · have h := h6
    rw [hv _ h]
    exact (ref_goes6 p v (x 1) (x 2) (x 3) (x 4) vr r w hr hr8 hx1 (hx5 (.inr h)).1 (hx5 (.inr h)).2 _ rfl).mono fun e w' ⟨he, hb⟩ => ⟨_, _, _, _, he, gor_6 h, hb⟩
  by_cases h7 : x 0 = 7
  · have h := h7
    rw [hv _ h]
    exact (ref_goes7 p v (x 1) (x 2) (x 3) (x 4) vr r w hr hr8 hx1).mono fun e w' ⟨he, hb⟩ => ⟨_, _, _, _, he, gor_7 h hr8 hx1, hb⟩
  by_cases h11 : x 0 = 11
  · have h := h11
    rw [hv _ h]
    exact (ref_goes11 p v (x 1) (x 2) (x 3) (x 4) vr r w hr hr8 hx1).mono fun e w' ⟨he, hb⟩ => ⟨_, _, _, _, he, gor_11 h hr8 hx1, hb⟩
  by_cases h8 : x 0 = 8
  · have h := h8
    rw [hv _ h]
    obtain ⟨g1, g2⟩ := hx8 h
    have ht : (x 4).toNat < p.tabs.length := by omega
    have e : (p.tabs.map fun t => spanD t.2).getD (x 4).toNat (0, 0) = spanD (tabD p x).2 := by
      unfold tabD
      rw [List.getD_eq_getElem?_getD, List.getElem?_map, List.getD_eq_getElem?_getD, List.getElem?_eq_getElem ht]; rfl
    refine (ref_goes8 p v (x 1) (x 2) (x 3) (x 4) vr r w H hr hr8 hx1 g1 (tabD p x).2 rfl g2 _ rfl).mono fun e' w' ⟨he, hb⟩ => ⟨_, _, _, _, he, ?_, hb⟩
    rw [← e]
    exact gor_8 h
  · rw [hv _ rfl]
    exact (ref_goesElse p v (x 0) ⟨h1, h2, h3, h4, h5, h6, h7, h8, h11⟩ (x 1) (x 2) (x 3) (x 4) vr r w hr hr8 hx1).mono fun e w' ⟨he, hb⟩ => ⟨_, _, _, _, he, gor_else ⟨h1, h2, h3, h4, h5, h6, h7, h8, h11⟩ hr8 hx1, hb⟩
end Go.Proofs.Ytkhggnlanopgkaa
