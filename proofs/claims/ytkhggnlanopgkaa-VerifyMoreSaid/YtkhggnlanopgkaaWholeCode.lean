/- Plain laws: a whole program's code is fit for the flow (P23.1, P23.2). No conditions; no program. -/
import Derived.Test.YtkhggnlanopgkaaShapeSpec
import Derived.Test.YtkhggnlanopgkaaVerSafeSpec
import Derived.Test.YtkhggnlanopgkaaIsaPutSpec
namespace Go.Proofs.Ytkhggnlanopgkaa
open Go.RowKit
theorem bar_eq' {v : Nat → Int} {l : List Nat} {j : Nat} (hj : j ≠ 0) (h : (bar v l j == v j) = true) (hn : j ∉ l.map pos) : v j = 0 := by
  unfold bar at h
  rw [if_neg (by rintro (e | e); exact hj e; exact hn e), beq_iff_eq] at h
  exact h.symm
/-- a field is in its bounds, or 0 -/
theorem okI_fld {v : Nat → Int} (h : okI v = true) (j : Nat) (hj : 1 ≤ j ∧ j ≤ 4) : (∃ x ∈ letr (v 0).toNat, pos x = j ∧ 0 ≤ v j ∧ v j ≤ (mst x : Int)) ∨ v j = 0 := by
  by_cases hm : j ∈ (letr (v 0).toNat).map pos
  · obtain ⟨x, hx, rfl⟩ := List.mem_map.1 hm
    exact .inl ⟨x, hx, rfl, okI_in h hx⟩
  · right
    unfold okI at h
    simp only [Bool.and_eq_true] at h
    obtain ⟨_, _, h3, h4, h5, h6⟩ := h
    rcases (by omega : j = 1 ∨ j = 2 ∨ j = 3 ∨ j = 4) with rfl | rfl | rfl | rfl
    · exact bar_eq' (by decide) h3 hm
    · exact bar_eq' (by decide) h4 hm
    · exact bar_eq' (by decide) h5 hm
    · exact bar_eq' (by decide) h6 hm
theorem pos_mst {x : Nat} (h : IsL x) : (pos x = 1 → mst x ≤ 7) ∧ (pos x = 3 → mst x = 4095) ∧ (pos x = 4 → mst x = 15) := by
  rcases h with rfl | rfl | rfl | rfl | rfl | rfl <;> decide
theorem okI_1 {v : Nat → Int} (h : okI v = true) : 0 ≤ v 1 ∧ v 1 ≤ 7 := by
  rcases okI_fld h 1 (by decide) with ⟨x, hx, hp, h1, h2⟩ | h0
  · have := (pos_mst (letr_is _ x hx)).1 hp; omega
  · omega
theorem okI_2 {v : Nat → Int} (h : okI v = true) : 0 ≤ v 2 ∧ v 2 ≤ 1073741824 := by
  rcases okI_fld h 2 (by decide) with ⟨x, hx, hp, h1, h2⟩ | h0
  · have := mst_le x; omega
  · omega
theorem okI_3 {v : Nat → Int} (h : okI v = true) : 0 ≤ v 3 ∧ v 3 ≤ 4095 := by
  rcases okI_fld h 3 (by decide) with ⟨x, hx, hp, h1, h2⟩ | h0
  · have := (pos_mst (letr_is _ x hx)).2.1 hp; omega
  · omega
theorem okI_4 {v : Nat → Int} (h : okI v = true) : 0 ≤ v 4 ∧ v 4 ≤ 15 := by
  rcases okI_fld h 4 (by decide) with ⟨x, hx, hp, h1, h2⟩ | h0
  · have := (pos_mst (letr_is _ x hx)).2.2 hp; omega
  · omega
/-- the second register -/
theorem okI_B {v : Nat → Int} (h : okI v = true) (ho : v 0 = 3 ∨ v 0 = 8 ∨ v 0 = 13) : 0 ≤ v 2 ∧ v 2 ≤ 7 := by
  have hm : 82 ∈ letr (v 0).toNat := by rcases ho with e | e | e <;> (rw [e]; decide)
  have := okI_in h hm
  simpa [pos, mst] using this
theorem mn_ok {l : List Int} (h : l.all numOk = true) (h1 : 1 ≤ l.length) : ∀ k, k ≤ l.length → 0 ≤ mnTo l k ∧ mnTo l k ≤ 1073741824
  | 0, _ => by
    have e : mnTo l 0 = l.getD 0 0 := rfl
    have := List.all_eq_true.1 h (l.getD 0 0) (by rw [List.getD_eq_getElem?_getD, List.getElem?_eq_getElem (by omega)]; exact List.getElem_mem _)
    rw [e]; unfold numOk at this; simpa using this
  | k + 1, hk => by
    have ih := mn_ok h h1 k (by omega)
    have := List.all_eq_true.1 h (l.getD k 0) (by rw [List.getD_eq_getElem?_getD, List.getElem?_eq_getElem (by omega)]; exact List.getElem_mem _)
    unfold numOk at this
    simp only [Bool.and_eq_true, decide_eq_true_eq] at this
    rw [mnTo_succ]; omega
theorem mx_ok {l : List Int} (h : l.all numOk = true) (h1 : 1 ≤ l.length) : ∀ k, k ≤ l.length → 0 ≤ mxTo l k ∧ mxTo l k ≤ 1073741824
  | 0, _ => by
    have e : mxTo l 0 = l.getD 0 0 := rfl
    have := List.all_eq_true.1 h (l.getD 0 0) (by rw [List.getD_eq_getElem?_getD, List.getElem?_eq_getElem (by omega)]; exact List.getElem_mem _)
    rw [e]; unfold numOk at this; simpa using this
  | k + 1, hk => by
    have ih := mx_ok h h1 k (by omega)
    have := List.all_eq_true.1 h (l.getD k 0) (by rw [List.getD_eq_getElem?_getD, List.getElem?_eq_getElem (by omega)]; exact List.getElem_mem _)
    unfold numOk at this
    simp only [Bool.and_eq_true, decide_eq_true_eq] at this
    rw [mxTo_succ]; omega
theorem mn_mx (l : List Int) : ∀ k, mnTo l k ≤ mxTo l k
  | 0 => Int.le_refl _
  | k + 1 => by rw [mnTo_succ, mxTo_succ]; have := mn_mx l k; omega
theorem span_ok {l : List Int} (h : l.all numOk = true) (h1 : 1 ≤ l.length) : okS (spanD l) :=
  ⟨(mn_ok h h1 _ (Nat.le_refl _)).1, mn_mx l _, (mx_ok h h1 _ (Nat.le_refl _)).2⟩
/-- what is in each table -/
def ofP (p : Prg) : List (Int × Int) := p.tabs.map fun t => spanD t.2
theorem Whole.tab {p : Prg} (h : Whole p) {k : Nat} (hk : k < p.tabs.length) : tabOk (p.tabs.getD k (0, [])) = true := by
  have := ((data_iff p).1 h.data).2.2.2.2.2.1
  refine List.all_eq_true.1 this _ ?_
  rw [List.getD_eq_getElem?_getD, List.getElem?_eq_getElem hk]; exact List.getElem_mem _
theorem tab_open {t : Int × List Int} (h : tabOk t = true) : (1 ≤ t.1 ∧ t.1 ≤ 256 ∧ t.1 ≤ t.2.length ∧ t.2.length ≤ 400000 ∧ (t.2.length : Int) % t.1 = 0) ∧ t.2.all numOk = true := by
  unfold tabOk at h
  rw [Bool.and_eq_true, decide_eq_true_eq] at h
  exact h
theorem Whole.at' {p : Prg} (h : Whole p) {i : Nat} {x : Nat → Int} (hx : p.code[i]? = some x) : okI x = true ∧ (0 ≤ x 3 ∧ x 3 < p.code.length) ∧ (x 0 = 8 → 0 ≤ x 4 ∧ x 4 < p.tabs.length) := by
  have hi := (List.getElem?_eq_some_iff.1 hx).1
  have e : codeAt p i = x := by unfold codeAt; rw [List.getD_eq_getElem?_getD, hx]; rfl
  have h1 := h.op i hi
  have h2 := h.jump i hi
  rw [e] at h1
  unfold badJump at h2
  rw [e] at h2
  simp only [Bool.or_eq_false_iff, decide_eq_false_iff_not, Bool.and_eq_false_iff] at h2
  refine ⟨h1, ⟨(okI_3 h1).1, by omega⟩, fun h8 => ⟨(okI_4 h1).1, ?_⟩⟩
  rcases h2.2 with h3 | h3
  · exact absurd h8 h3
  · omega
theorem Whole.codeOk {p : Prg} (h : Whole p) : CodeOk (ofP p) p.code := by
  refine ⟨h.len.1, fun i x hx => ?_, fun i x hx => (h.at' hx).2.1, fun i x r hx hg => ?_⟩
  · obtain ⟨hok, _, ht⟩ := h.at' hx
    refine ⟨okI_1 hok, fun h3 => okI_B hok (.inl h3), fun _ => okI_2 hok, fun h8 => ?_⟩
    obtain ⟨h0, h1⟩ := ht h8
    have hk : (x 4).toNat < p.tabs.length := by omega
    have := tab_open (h.tab hk)
    have e : (ofP p).getD (x 4).toNat (0, 0) = spanD (p.tabs.getD (x 4).toNat (0, [])).2 := by
      unfold ofP
      rw [List.getD_eq_getElem?_getD, List.getElem?_map, List.getD_eq_getElem?_getD, List.getElem?_eq_getElem hk]; rfl
    rw [e]
    exact span_ok this.2 (by have := this.1; omega)
  · have hi := (List.getElem?_eq_some_iff.1 hx).1
    rcases Nat.lt_or_ge (i + 1) p.code.length with h1 | h1
    · exact h1
    · exfalso
      have hl : i = p.code.length - 1 := by omega
      have he := h.last
      unfold endOk codeAt at he
      rw [← hl, List.getD_eq_getElem?_getD, hx] at he
      simp only [Bool.or_eq_true, decide_eq_true_eq, Option.getD_some] at he
      apply hg
      unfold goN
      rcases he with e | e <;> simp [e]
theorem Whole.sok {p : Prg} (h : Whole p) {i : Nat} {x : Nat → Int} (hx : p.code[i]? = some x) : SOk p x := by
  obtain ⟨hok, _, ht⟩ := h.at' hx
  have hl := ((data_iff p).1 h.data).2.2.2.1
  refine ⟨okI_1 hok, fun ho => okI_B hok (by omega), fun h8 => ?_, hl.2.2.2, ⟨hl.1, hl.2.1⟩⟩
  obtain ⟨h0, h1⟩ := ht h8
  have := (tab_open (h.tab (show (x 4).toNat < p.tabs.length by omega))).1
  exact ⟨h0, h1, this.1, this.2.1, this.2.2.2.1⟩
end Go.Proofs.Ytkhggnlanopgkaa
