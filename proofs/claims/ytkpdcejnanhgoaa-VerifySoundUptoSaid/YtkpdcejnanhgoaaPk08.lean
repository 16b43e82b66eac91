/- Plain laws: a whole program's code is fit for the flow (P23.1, P23.2). No conditions; no program. -/
import Derived.Test.YtkpdcejnanhgoaaPk07
import Derived.Test.YtkpdcejnanhgoaaPk06
namespace Go.Proofs.Ytkpdcejnanhgoaa
open Go.RowKit
theorem bar_eq' {v : Nat → Int} {l : List Nat} {j : Nat} (hj : j ≠ 0) (h : (bar v l j == v j) = true) (hn : j ∉ l.map pos) : v j = 0 := by
  unfold bar at h
  rw [if_neg (by rintro (e | e); exact hj e; exact hn e), beq_iff_eq] at h
  exact h.symm
/-- a field is in its bounds, or 0 -/
theorem okI_fld {v : Nat → Int} (h : okI v = true) (j : Nat) (hj : 1 ≤ j ∧ j ≤ 4) : (∃ x ∈ letr (v 0).toNat, pos x = j ∧ 0 ≤ v j ∧ v j ≤ (mst x : Int)) ∨ v j = 0 := by
  by_cases hm : j ∈ (letr (v 0).toNat).map pos
  · obtain ⟨x, hx, rfl⟩ := List.mem_map.1 hm
    exact .inl ⟨x, hx, rfl, okI_in h hx⟩
  · right
    unfold okI at h
    simp only [Bool.and_eq_true] at h
    obtain ⟨_, _, h3, h4, h5, h6⟩ := h
    rcases (by omega : j = 1 ∨ j = 2 ∨ j = 3 ∨ j = 4) with rfl | rfl | rfl | rfl
    · exact bar_eq' (by decide) h3 hm
    · exact bar_eq' (by decide) h4 hm
    · exact bar_eq' (by decide) h5 hm
    · exact bar_eq' (by decide) h6 hm
theorem pos_mst {x : Nat} (h : IsL x) : (pos x = 1 → mst x ≤ 7) ∧ (pos x = 3 → mst x = 4095) ∧ (pos x = 4 → mst x = 15) := by
  rcases h with rfl | rfl | rfl | rfl | rfl | rfl <;> decide
theorem okI_1 {v : Nat → Int} (h : okI v = true) : 0 ≤ v 1 ∧ v 1 ≤ 7 := by
  rcases okI_fld h 1 (by decide) with ⟨x, hx, hp, h1, h2⟩ | h0
  · have := (pos_mst (letr_is _ x hx)).1 hp; omega
  · omega
theorem okI_2 {v : Nat → Int} (h : okI v = true) : 0 ≤ v 2 ∧ v 2 ≤ 1073741824 := by
  rcases okI_fld h 2 (by decide) with ⟨x, hx, hp, h1, h2⟩ | h0
  · have := mst_le x; omega
  · omega
theorem okI_3 {v : Nat → Int} (h : okI v = true) : 0 ≤ v 3 ∧ v 3 ≤ 4095 := by
  rcases okI_fld h 3 (by decide) with ⟨x, hx, hp, h1, h2⟩ | h0
  · have := (pos_mst (letr_is _ x hx)).2.1 hp; omega
  · omega
theorem okI_4 {v : Nat → Int} (h : okI v = true) : 0 ≤ v 4 ∧ v 4 ≤ 15 := by
  rcases okI_fld h 4 (by decide) with ⟨x, hx, hp, h1, h2⟩ | h0
  · have := (pos_mst (letr_is _ x hx)).2.2 hp; omega
  · omega
/-- the second register -/
theorem okI_B {v : Nat → Int} (h : okI v = true) (ho : v 0 = 3 ∨ v 0 = 8 ∨ v 0 = 13) : 0 ≤ v 2 ∧ v 2 ≤ 7 := by
  have hm : 82 ∈ letr (v 0).toNat := by rcases ho with e | e | e <;> (rw [e]; decide)
  have := okI_in h hm
  simpa [pos, mst] using this
theorem mn_ok {l : List Int} (h : l.all numOk = true) (h1 : 1 ≤ l.length) : ∀ k, k ≤ l.length → 0 ≤ mnTo l k ∧ mnTo l k ≤ 1073741824
  | 0, _ => by
    have e : mnTo l 0 = l.getD 0 0 := rfl
    have := List.all_eq_true.1 h (l.getD 0 0) (by rw [List.getD_eq_getElem?_getD, List.getElem?_eq_getElem (by omega)]; exact List.getElem_mem _)
    rw [e]; unfold numOk at this; simpa using this
  | k + 1, hk => by
    have ih := mn_ok h h1 k (by omega)
    have := List.all_eq_true.1 h (l.getD k 0) (by rw [List.getD_eq_getElem?_getD, List.getElem?_eq_getElem (by omega)]; exact List.getElem_mem _)
    unfold numOk at this
    simp only [Bool.and_eq_true, decide_eq_true_eq] at this
    rw [mnTo_succ]; omega
theorem mx_ok {l : List Int} (h : l.all numOk = true) (h1 : 1 ≤ l.length) : ∀ k, k ≤ l.length → 0 ≤ mxTo l k ∧ mxTo l k ≤ 1073741824
  | 0, _ => by
    have e : mxTo l 0 = l.getD 0 0 := rfl
    have := List.all_eq_true.1 h (l.getD 0 0) (by rw [List.getD_eq_getElem?_getD, List.getElem?_eq_getElem (by omega)]; exact List.getElem_mem _)
    rw [e]; unfold numOk at this; simpa using this
  | k + 1, hk => by
    have ih := mx_ok h h1 k (by omega)
    have := List.all_eq_true.1 h (l.getD k 0) (by rw [List.getD_eq_getElem?_getD, List.getElem?_eq_getElem (by omega)]; exact List.getElem_mem _)
    unfold numOk at this
    simp only [Bool.and_eq_true, decide_eq_true_eq] at this
    rw [mxTo_succ]; omega
theorem mn_mx (l : List Int) : ∀ k, mnTo l k ≤ mxTo l k
  | 0 => Int.le_refl _
  | k + 1 => by rw [mnTo_succ, mxTo_succ]; have := mn_mx l k; omega
theorem span_ok {l : List Int} (h : l.all numOk = true) (h1 : 1 ≤ l.length) : okS (spanD l) :=
  ⟨(mn_ok h h1 _ (Nat.le_refl _)).1, mn_mx l _, (mx_ok h h1 _ (Nat.le_refl _)).2⟩
/-- what is in each table -/
def ofP (p : Prg) : List (Int × Int) := p.tabs.map fun t => spanD t.2
theorem Whole.tab {p : Prg} (h : Whole p) {k : Nat} (hk : k < p.tabs.length) : tabOk (p.tabs.getD k (0, [])) = true := by
  have := ((data_iff p).1 h.data).2.2.2.2.2.1
  refine List.all_eq_true.1 this _ ?_
  rw [List.getD_eq_getElem?_getD, List.getElem?_eq_getElem hk]; exact List.getElem_mem _
theorem tab_open {t : Int × List Int} (h : tabOk t = true) : (1 ≤ t.1 ∧ t.1 ≤ 256 ∧ t.1 ≤ t.2.length ∧ t.2.length ≤ 400000 ∧ (t.2.length : Int) % t.1 = 0) ∧ t.2.all numOk = true := by
  unfold tabOk at h
  rw [Bool.and_eq_true, decide_eq_true_eq] at h
  exact h
theorem Whole.at' {p : Prg} (h : Whole p) {i : Nat} {x : Nat → Int} (hx : p.code[i]? = some x) : okI x = true ∧ (0 ≤ x 3 ∧ x 3 < p.code.length) ∧ (x 0 = 8 → 0 ≤ x 4 ∧ x 4 < p.tabs.length) := by
  have hi := (List.getElem?_eq_some_iff.1 hx).1
  have e : codeAt p i = x := by unfold codeAt; rw [List.getD_eq_getElem?_getD, hx]; rfl
  have h1 := h.op i hi
  have h2 := h.jump i hi
  rw [e] at h1
  unfold badJump at h2
  rw [e] at h2
  simp only [Bool.or_eq_false_iff, decide_eq_false_iff_not, Bool.and_eq_false_iff] at h2
  refine ⟨h1, ⟨(okI_3 h1).1, by omega⟩, fun h8 => ⟨(okI_4 h1).1, ?_⟩⟩
  rcases h2.2 with h3 | h3
  · exact absurd h8 h3
  · omega
theorem Whole.codeOk {p : Prg} (h : Whole p) : CodeOk (ofP p) p.code := by
  refine ⟨h.len.1, fun i x hx => ?_, fun i x hx => (h.at' hx).2.1, fun i x r hx hg => ?_⟩
  · obtain ⟨hok, _, ht⟩ := h.at' hx
    refine ⟨okI_1 hok, fun h3 => okI_B hok (.inl h3), fun _ => okI_2 hok, fun h8 => ?_⟩
    obtain ⟨h0, h1⟩ := ht h8
    have hk : (x 4).toNat < p.tabs.length := by omega
    have := tab_open (h.tab hk)
    have e : (ofP p).getD (x 4).toNat (0, 0) = spanD (p.tabs.getD (x 4).toNat (0, [])).2 := by
      unfold ofP
      rw [List.getD_eq_getElem?_getD, List.getElem?_map, List.getD_eq_getElem?_getD, List.getElem?_eq_getElem hk]; rfl
    rw [e]
    exact span_ok this.2 (by have := this.1; omega)
  · have hi := (List.getElem?_eq_some_iff.1 hx).1
    rcases Nat.lt_or_ge (i + 1) p.code.length with h1 | h1
    · exact h1
    · exfalso
      have hl : i = p.code.length - 1 := by omega
      have he := h.last
      unfold endOk codeAt at he
      rw [← hl, List.getD_eq_getElem?_getD, hx] at he
      simp only [Bool.or_eq_true, decide_eq_true_eq, Option.getD_some] at he
      apply hg
      unfold goN
      rcases he with e | e <;> simp [e]
theorem Whole.sok {p : Prg} (h : Whole p) {i : Nat} {x : Nat → Int} (hx : p.code[i]? = some x) : SOk p x := by
  obtain ⟨hok, _, ht⟩ := h.at' hx
  have hl := ((data_iff p).1 h.data).2.2.2.1
  refine ⟨okI_1 hok, fun ho => okI_B hok (by omega), fun h8 => ?_, hl.2.2.2, ⟨hl.1, hl.2.1⟩⟩
  obtain ⟨h0, h1⟩ := ht h8
  have := (tab_open (h.tab (show (x 4).toNat < p.tabs.length by omega))).1
  exact ⟨h0, h1, this.1, this.2.1, this.2.2.2.1⟩
end Go.Proofs.Ytkpdcejnanhgoaa
/- Plain: what a program's check tells (P23.1, P23.2). No conditions; no program. -/
namespace Go.Proofs.Ytkpdcejnanhgoaa
open Go.RowKit
open Classical in
/-- the ranges at all places -/
noncomputable def solP (p : Prg) : Sts := if h : ∃ S, Least (ofP p) p.code S then Classical.choose h else []
theorem solP_eq {p : Prg} {S : Sts} (h : Least (ofP p) p.code S) : solP p = S := by
  unfold solP
  rw [dif_pos ⟨S, h⟩]
  exact least_eq (Classical.choose_spec (⟨S, h⟩ : ∃ S, Least (ofP p) p.code S)) h
def badAt (p : Prg) (S : Sts) (i : Nat) : Bool := match S.getD i none with
  | none => false
  | some r => !safeI p (codeAt p i) r
/-- the first place that is not safe -/
def wrongI (p : Prg) (S : Sts) : Int × Int := match (List.range p.code.length).find? (badAt p S) with
  | some i => (231, (i : Int))
  | none => (0, 0)
noncomputable def checkI (p : Prg) : Int × Int := if (shapeI p).1 = 0 then wrongI p (solP p) else shapeI p
theorem check_shape {p : Prg} (h : (shapeI p).1 ≠ 0) : checkI p = shapeI p := by unfold checkI; rw [if_neg h]
theorem check_whole {p : Prg} (h : (shapeI p).1 = 0) {S : Sts} (hS : Least (ofP p) p.code S) : checkI p = wrongI p S := by
  unfold checkI; rw [if_pos h, solP_eq hS]
theorem wrong_some {p : Prg} {S : Sts} {k : Nat} (hk : k < p.code.length) (h : badAt p S k = true) (hl : ∀ i, i < k → badAt p S i = false) : wrongI p S = (231, (k : Int)) := by
  unfold wrongI; rw [fst_some hk h hl]
theorem wrong_none {p : Prg} {S : Sts} (hl : ∀ i, i < p.code.length → badAt p S i = false) : wrongI p S = (0, 0) := by
  unfold wrongI; rw [fst_none hl]
theorem wrong_cases (p : Prg) (S : Sts) : wrongI p S = (0, 0) ∨ ∃ k, k < p.code.length ∧ wrongI p S = (231, (k : Int)) := by
  unfold wrongI
  cases h : (List.range p.code.length).find? (badAt p S) with
  | none => exact .inl rfl
  | some i => exact .inr ⟨i, List.mem_range.1 (List.mem_of_find?_eq_some h), rfl⟩
end Go.Proofs.Ytkpdcejnanhgoaa
/- Plain laws: the list of places to look at stays short, for ranges' ends come from a short list (P23.2). No conditions; no program. -/
namespace Go.Proofs.Ytkpdcejnanhgoaa
open Go.RowKit
def inE (E : List Int) (p : Int × Int) : Prop := p.1 ∈ E ∧ p.2 ∈ E
def pE (E : List Int) (p : Int × Int) : Nat := E.countP (fun e => decide (e < p.1)) + E.countP (fun e => decide (p.2 < e))
theorem cnt_le : ∀ (E : List Int) (q r : Int → Bool), (∀ x, q x = true → r x = true) → E.countP q ≤ E.countP r
  | [], _, _, _ => by simp
  | a :: E, q, r, h => by
    have ih := cnt_le E q r h
    rw [List.countP_cons, List.countP_cons]
    by_cases hq : q a = true
    · rw [if_pos hq, if_pos (h a hq)]; omega
    · rw [if_neg hq]; split <;> omega
theorem cnt_lt : ∀ (E : List Int) (q r : Int → Bool), (∀ x, q x = true → r x = true) → ∀ y ∈ E, r y = true → q y = false → E.countP q < E.countP r
  | [], _, _, _, y, hy, _, _ => by cases hy
  | a :: E, q, r, h, y, hy, h1, h2 => by
    rw [List.countP_cons, List.countP_cons]
    rcases List.mem_cons.1 hy with rfl | hy
    · have ih := cnt_le E q r h
      rw [if_neg (by rw [h2]; decide), if_pos h1]; omega
    · have ih := cnt_lt E q r h y hy h1 h2
      by_cases hq : q a = true
      · rw [if_pos hq, if_pos (h a hq)]; omega
      · rw [if_neg hq]; split <;> omega
theorem jn_inE {E : List Int} {a b : Int × Int} (ha : inE E a) (hb : inE E b) : inE E (jn a b) := by
  unfold jn inE
  dsimp only
  constructor
  · rcases (by omega : min a.1 b.1 = a.1 ∨ min a.1 b.1 = b.1) with e | e <;> rw [e]
    · exact ha.1
    · exact hb.1
  · rcases (by omega : max a.2 b.2 = a.2 ∨ max a.2 b.2 = b.2) with e | e <;> rw [e]
    · exact ha.2
    · exact hb.2
theorem pE_jn {E : List Int} {a b : Int × Int} (hb : inE E b) : pE E (jn a b) ≤ pE E a ∧ (jn a b ≠ a → pE E (jn a b) < pE E a) := by
  have m1 : E.countP (fun e => decide (e < min a.1 b.1)) ≤ E.countP (fun e => decide (e < a.1)) := cnt_le _ _ _ fun x h => by simp only [decide_eq_true_eq] at h ⊢; omega
  have m2 : E.countP (fun e => decide (max a.2 b.2 < e)) ≤ E.countP (fun e => decide (a.2 < e)) := cnt_le _ _ _ fun x h => by simp only [decide_eq_true_eq] at h ⊢; omega
  refine ⟨by unfold pE jn; dsimp only; omega, fun hne => ?_⟩
  have hc : b.1 < a.1 ∨ a.2 < b.2 := by
    refine Classical.byContradiction fun h => hne ?_
    unfold jn
    exact Prod.ext (by dsimp only; omega) (by dsimp only; omega)
  rcases hc with h | h
  · have := cnt_lt E (fun e => decide (e < min a.1 b.1)) (fun e => decide (e < a.1)) (fun x h => by simp only [decide_eq_true_eq] at h ⊢; omega) b.1 hb.1 (by simpa using h) (by simp; omega)
    unfold pE jn; dsimp only; omega
  · have := cnt_lt E (fun e => decide (max a.2 b.2 < e)) (fun e => decide (a.2 < e)) (fun x h => by simp only [decide_eq_true_eq] at h ⊢; omega) b.2 hb.2 (by simpa using h) (by simp; omega)
    unfold pE jn; dsimp only; omega
def rE (E : List Int) (r : Rg) : Prop := ∀ p ∈ r, inE E p
def pER (E : List Int) (r : Rg) : Nat := (r.map (pE E)).sum
theorem pER_join {E : List Int} : ∀ q r : Rg, rE E r → pER E (q.zipWith jn r) + (if q.length = r.length then 0 else 0) ≤ pER E q ∨ q.length ≠ r.length
  | [], _, _ => .inl (by simp [pER])
  | _ :: _, [], _ => .inr (by simp)
  | a :: q, b :: r, h => by
    rcases pER_join q r (fun p hp => h p (by simp [hp])) with ih | ih
    · left
      have := (pE_jn (a := a) (h b (by simp))).1
      simp only [List.zipWith_cons_cons, pER, List.map_cons, List.sum_cons] at ih ⊢
      simp at ih ⊢; omega
    · right; simpa using ih
theorem pER_lt {E : List Int} : ∀ q r : Rg, rE E r → q.length = r.length → q.zipWith jn r ≠ q → pER E (q.zipWith jn r) < pER E q
  | [], r, _, _, hne => absurd (by simp) hne
  | a :: q, [], _, hl, _ => by simp at hl
  | a :: q, b :: r, h, hl, hne => by
    have h1 := pE_jn (a := a) (h b (by simp))
    have hl' : q.length = r.length := by simpa using hl
    have hr : rE E r := fun p hp => h p (by simp [hp])
    have hle : pER E (q.zipWith jn r) ≤ pER E q := by
      rcases pER_join q r hr with ih | ih
      · simpa using ih
      · exact absurd hl' ih
    simp only [List.zipWith_cons_cons, pER, List.map_cons, List.sum_cons] at hle ⊢
    by_cases h3 : jn a b = a
    · have h4 : q.zipWith jn r ≠ q := fun e => hne (by rw [List.zipWith_cons_cons, h3, e])
      have := pER_lt q r hr hl' h4
      unfold pER at this
      rw [h3]; omega
    · have := h1.2 h3; omega
theorem pE_le (E : List Int) (p : Int × Int) : pE E p ≤ 2 * E.length := by
  have h1 := List.countP_le_length (p := fun e => decide (e < p.1)) (l := E)
  have h2 := List.countP_le_length (p := fun e => decide (p.2 < e)) (l := E)
  unfold pE; omega
theorem pER_le (E : List Int) : ∀ r : Rg, pER E r ≤ r.length * (2 * E.length)
  | [] => by simp [pER]
  | a :: r => by
    have ih := pER_le E r
    have h := pE_le E a
    simp only [pER, List.map_cons, List.sum_cons, List.length_cons, Nat.succ_mul] at ih ⊢
    omega
def pEO (E : List Int) : Option Rg → Nat
  | none => 8 * (2 * E.length) + 1
  | some r => pER E r
def pES (E : List Int) (S : Sts) : Nat := (S.map (pEO E)).sum
theorem pES_set (E : List Int) : ∀ (S : Sts) (i : Nat) (o : Option Rg), i < S.length → pES E (S.set i o) + pEO E (S.getD i none) = pES E S + pEO E o
  | [], i, o, h => by simp at h
  | a :: S, 0, o, _ => by simp [pES]; omega
  | a :: S, i + 1, o, h => by
    have := pES_set E S i o (by simpa using h)
    simp only [pES, List.set_cons_succ, List.map_cons, List.sum_cons, List.getD_cons_succ] at this ⊢
    omega
theorem pES_none (E : List Int) : ∀ n, pES E (List.replicate n none) = n * (8 * (2 * E.length) + 1)
  | 0 => by simp [pES]
  | n + 1 => by
    have e : pES E (List.replicate (n + 1) none) = pEO E none + pES E (List.replicate n none) := by
      simp only [pES, List.replicate_succ, List.map_cons, List.sum_cons]
    have e2 : pEO E none = 8 * (2 * E.length) + 1 := rfl
    rw [e, pES_none E n, e2]
    generalize 8 * (2 * E.length) + 1 = m
    rw [Nat.succ_mul, Nat.add_comm]
/-- all ends are in the list -/
def EI (E : List Int) (S : Sts) : Prop := ∀ i r, S.getD i none = some r → rE E r
theorem flow_ends {E : List Int} {n : Nat} {S : Sts} {td : List Nat} {k : Nat} {r : Rg} (hS : okSts n S) (hE : EI E S) (hr : rE E r) (h8 : r.length = 8) (hk : k < n) :
    EI E (flow (S, td) k r).1 ∧ pES E (flow (S, td) k r).1 + (flow (S, td) k r).2.length ≤ pES E S + td.length := by
  have hl : k < S.length := by rw [hS.1]; exact hk
  unfold flow
  cases h : S.getD k none with
  | none =>
    have hp := pES_set E S k (some r) hl
    rw [h] at hp
    have := pER_le E r
    rw [h8] at this
    simp only [pEO] at hp
    dsimp only
    refine ⟨fun i q hi => ?_, by simp only [List.length_append, List.length_singleton]; omega⟩
    rw [getD_set S k i _ hl] at hi
    split at hi
    · cases hi; exact hr
    · exact hE i q hi
  | some s =>
    dsimp only
    by_cases hj : joinR s r = s
    · rw [if_pos hj]; exact ⟨hE, Nat.le_refl _⟩
    · rw [if_neg hj]
      have hs8 := (hS.2 k s h).1
      have hp := pES_set E S k (some (joinR s r)) hl
      rw [h] at hp
      have := pER_lt (E := E) s r hr (by rw [hs8, h8]) hj
      simp only [pEO] at hp
      refine ⟨fun i q hi => ?_, by simp only [List.length_append, List.length_singleton]; unfold joinR at hp; unfold joinR; omega⟩
      rw [getD_set S k i _ hl] at hi
      split at hi
      · cases hi
        intro x hx
        unfold joinR at hx
        obtain ⟨j, hj', rfl⟩ := List.getElem_of_mem hx
        rw [List.getElem_zipWith]
        exact jn_inE (hE k s h _ (List.getElem_mem _)) (hr _ (List.getElem_mem _))
      · exact hE i q hi
theorem flowO_ends {E : List Int} {n : Nat} {S : Sts} {td : List Nat} {k : Nat} {o : Option Rg} (hS : okSts n S) (hE : EI E S) (ho : ∀ r, o = some r → rE E r ∧ r.length = 8 ∧ k < n) :
    EI E (flowO (S, td) k o).1 ∧ pES E (flowO (S, td) k o).1 + (flowO (S, td) k o).2.length ≤ pES E S + td.length := by
  cases o with
  | none => exact ⟨hE, Nat.le_refl _⟩
  | some r => obtain ⟨a, b, c⟩ := ho r rfl; exact flow_ends hS hE a b c
theorem rE_set {E : List Int} {r : Rg} (h : rE E r) (a : Nat) {v : Int × Int} (hv : inE E v) : rE E (r.set a v) := fun p hp => by
  rcases List.mem_or_eq_of_mem_set hp with hp | rfl
  · exact h p hp
  · exact hv
theorem rE_get {E : List Int} {r : Rg} (h : rE E r) {k : Nat} (hk : k < r.length) : inE E (rget r k) := by
  have : rget r k = r[k] := by simp [rget, List.getD, List.getElem?_eq_getElem hk]
  rw [this]; exact h _ (List.getElem_mem _)
/-- what a program's ranges may end at -/
def endsL (of : List (Int × Int)) (code : List (Nat → Int)) : List Int := [0, 255] ++ (code.flatMap fun x => [x 2, x 2 + 1, x 2 - 1]) ++ of.flatMap fun s => [s.1, s.2]
theorem flat_len {α : Type} (f : α → List Int) (k : Nat) (hf : ∀ x, (f x).length = k) : ∀ l : List α, (l.flatMap f).length = l.length * k
  | [] => by simp
  | a :: l => by rw [List.flatMap_cons, List.length_append, hf, flat_len f k hf l, List.length_cons, Nat.succ_mul]; omega
theorem endsL_len (of : List (Int × Int)) (code : List (Nat → Int)) : (endsL of code).length = 2 + code.length * 3 + of.length * 2 := by
  unfold endsL
  rw [List.length_append, List.length_append, flat_len _ 3 (fun _ => rfl), flat_len _ 2 (fun _ => rfl)]
  rfl
theorem ends_x {of : List (Int × Int)} {code : List (Nat → Int)} {i : Nat} {x : Nat → Int} (hx : code[i]? = some x) : x 2 ∈ endsL of code ∧ x 2 + 1 ∈ endsL of code ∧ x 2 - 1 ∈ endsL of code := by
  have hm := List.mem_of_getElem? hx
  unfold endsL
  refine ⟨?_, ?_, ?_⟩
  all_goals
    refine List.mem_append_left _ (List.mem_append_right _ (List.mem_flatMap.2 ⟨x, hm, ?_⟩))
    simp
theorem ends_of {of : List (Int × Int)} {code : List (Nat → Int)} {k : Nat} (hk : k < of.length) : inE (endsL of code) (of.getD k (0, 0)) := by
  have hm : of.getD k (0, 0) ∈ of := by rw [List.getD_eq_getElem?_getD, List.getElem?_eq_getElem hk]; exact List.getElem_mem hk
  unfold endsL inE
  exact ⟨List.mem_append_right _ (List.mem_flatMap.2 ⟨_, hm, by simp⟩), List.mem_append_right _ (List.mem_flatMap.2 ⟨_, hm, by simp⟩)⟩
theorem ends_0 (of : List (Int × Int)) (code : List (Nat → Int)) : inE (endsL of code) (0, 0) ∧ inE (endsL of code) (0, 255) := by
  unfold endsL inE; simp
section
variable {of : List (Int × Int)} {code : List (Nat → Int)} {i : Nat} {x : Nat → Int} {r q : Rg}
theorem goN_ends (hx : code[i]? = some x) (hk : XOk of x) (ht : x 0 = 8 → (x 4).toNat < of.length) (h8 : r.length = 8) (hr : rE (endsL of code) r) (h : goN of x r = some q) : rE (endsL of code) q ∧ q.length = 8 := by
  obtain ⟨e1, e2, e3⟩ := ends_x (of := of) hx
  have ha : inE (endsL of code) (rA x r) := rE_get hr (by have := hk.a; omega)
  have hs : ∀ {v : Int × Int}, inE (endsL of code) v → rE (endsL of code) (sA x r v) ∧ (sA x r v).length = 8 := fun hv => ⟨rE_set hr _ hv, by simp [sA, h8]⟩
  unfold goN at h
  by_cases h1 : x 0 = 1
  · rw [if_pos h1] at h; cases h
  rw [if_neg h1] at h
  by_cases h2 : x 0 = 2
  · rw [if_pos h2] at h; cases h; exact hs ⟨e1, e1⟩
  rw [if_neg h2] at h
  by_cases h3 : x 0 = 3
  · rw [if_pos h3] at h; cases h; exact hs (rE_get hr (by have := hk.m h3; omega))
  rw [if_neg h3] at h
  by_cases h4 : x 0 = 4
  · rw [if_pos h4] at h; cases h
  rw [if_neg h4] at h
  by_cases h5 : x 0 = 5
  · rw [if_pos h5, ifIn] at h
    split at h
    · cases h
      refine hs ⟨?_, ?_⟩
      · unfold sameB; dsimp only
        split
        · rename_i e; rw [e]; exact e2
        · exact ha.1
      · unfold sameB; dsimp only
        split
        · rename_i e; rw [e]; exact e3
        · exact ha.2
    · cases h
  rw [if_neg h5] at h
  by_cases h6 : x 0 = 6
  · rw [if_pos h6, ifIn] at h
    split at h
    · cases h
      refine hs ⟨?_, ha.2⟩
      dsimp only
      rcases (by omega : max (rA x r).1 (x 2) = (rA x r).1 ∨ max (rA x r).1 (x 2) = x 2) with e | e <;> rw [e]
      · exact ha.1
      · exact e1
    · cases h
  rw [if_neg h6] at h
  by_cases h7 : x 0 = 7
  · rw [if_pos h7] at h; cases h; exact hs (ends_0 of code).2
  rw [if_neg h7] at h
  by_cases h8' : x 0 = 8
  · rw [if_pos h8'] at h; cases h; exact hs (ends_of (ht h8'))
  rw [if_neg h8'] at h
  cases h; exact ⟨hr, h8⟩
theorem goF_ends (hx : code[i]? = some x) (hk : XOk of x) (h8 : r.length = 8) (hr : rE (endsL of code) r) (h : goF x r = some q) : rE (endsL of code) q ∧ q.length = 8 := by
  obtain ⟨e1, e2, e3⟩ := ends_x (of := of) hx
  have ha : inE (endsL of code) (rA x r) := rE_get hr (by have := hk.a; omega)
  have hs : ∀ {v : Int × Int}, inE (endsL of code) v → rE (endsL of code) (sA x r v) ∧ (sA x r v).length = 8 := fun hv => ⟨rE_set hr _ hv, by simp [sA, h8]⟩
  unfold goF at h
  by_cases h4 : x 0 = 4
  · rw [if_pos h4] at h; cases h; exact ⟨hr, h8⟩
  rw [if_neg h4] at h
  by_cases h5 : x 0 = 5
  · rw [if_pos h5, ifIn] at h
    split at h
    · cases h; exact hs ⟨e1, e1⟩
    · cases h
  rw [if_neg h5] at h
  by_cases h6 : x 0 = 6
  · rw [if_pos h6, ifIn] at h
    split at h
    · cases h
      refine hs ⟨ha.1, ?_⟩
      dsimp only
      rcases (by omega : min (rA x r).2 (x 2 - 1) = (rA x r).2 ∨ min (rA x r).2 (x 2 - 1) = x 2 - 1) with e | e <;> rw [e]
      · exact ha.2
      · exact e3
    · cases h
  rw [if_neg h6] at h
  by_cases h7 : x 0 = 7
  · rw [if_pos h7] at h; cases h; exact ⟨hr, h8⟩
  rw [if_neg h7] at h
  by_cases h11 : x 0 = 11
  · rw [if_pos h11] at h; cases h; exact ⟨hr, h8⟩
  rw [if_neg h11] at h; cases h
end
theorem iniR_E (of : List (Int × Int)) (code : List (Nat → Int)) : rE (endsL of code) iniR := fun p hp => by
  rw [List.eq_of_mem_replicate hp]; exact (ends_0 of code).1
theorem none_E (E : List Int) (n : Nat) : EI E (List.replicate n none) := fun i r h => by rw [none_at] at h; cases h
end Go.Proofs.Ytkpdcejnanhgoaa
/- Plain: the check of a look behind a test (P23.2). No conditions; no program. -/
namespace Go.Proofs.Ytkpdcejnanhgoaa
open Go.RowKit
def k0 : Nat → Int := fun j => [7, 0, 0, 4, 0].getD j 0
def k1 (t : Int) : Nat → Int := fun j => [6, 0, t, 3, 0].getD j 0
def k2 : Nat → Int := fun j => [1, 0, 0, 0, 0].getD j 0
def k3 : Nat → Int := fun j => [8, 0, 1, 0, 0].getD j 0
section
variable {of : List (Int × Int)} {r : Rg} {t : Int}
theorem gn1 : goN of (k1 t) r = ifIn (max (rget r 0).1 t ≤ (rget r 0).2) (r.set 0 (max (rget r 0).1 t, (rget r 0).2)) := by simp [goN, k1, sA, rA]
theorem gf1 : goF (k1 t) r = ifIn ((rget r 0).1 ≤ min (rget r 0).2 (t - 1)) (r.set 0 ((rget r 0).1, min (rget r 0).2 (t - 1))) := by simp [goF, k1, sA, rA]
end
def tR1 : Rg := iniR.set 0 (0, 255)
def tR2 (t : Int) : Rg := iniR.set 0 (t, 255)
def tR3 (t : Int) : Rg := iniR.set 0 (0, min 255 (t - 1))
theorem tR1_0 : rget tR1 0 = (0, 255) := rfl
theorem e12 {of : List (Int × Int)} {t : Int} (h0 : 0 ≤ t) : goN of (k1 t) tR1 = ifIn (t ≤ 255) (tR2 t) := by
  rw [gn1, tR1_0]
  dsimp only
  rw [show max 0 t = t from by omega]
  rfl
theorem e13 {t : Int} : goF (k1 t) tR1 = ifIn (1 ≤ t) (tR3 t) := by
  rw [gf1, tR1_0]
  dsimp only
  unfold ifIn
  by_cases h : 1 ≤ t
  · rw [if_pos h, if_pos (by omega)]; rfl
  · rw [if_neg h, if_neg (by omega)]
end Go.Proofs.Ytkpdcejnanhgoaa
/- Plain law: signs in a list, merged two by two (vm.Merge): what of the list holds, and that fewer live signs are left. No conditions; no program. -/
namespace Go.Proofs.Ytkpdcejnanhgoaa
/-- a function set at one place -/
def updN (f : Nat → Int) (k : Nat) (v : Int) : Nat → Int := fun i => if i = k then v else f i
theorem updN_same (f : Nat → Int) (k : Nat) (v : Int) : updN f k v k = v := by simp [updN]
theorem updN_ne (f : Nat → Int) {k i : Nat} (v : Int) (h : i ≠ k) : updN f k v i = f i := by simp [updN, h]
/-- the list of signs: numbers, next ones, last ones; a number below 0: the place is gone -/
structure NI (n : Nat) (sg : Int) (id nx ls : Nat → Int) : Prop where
  ids : ∀ i, i < n → id i = -1 ∨ (0 ≤ id i ∧ id i < sg)
  nxt : ∀ i, i < n → 0 ≤ id i → nx i = -1 ∨ ∃ j : Nat, nx i = j ∧ i < j ∧ j < n ∧ 0 ≤ id j ∧ ls j = i
  lst : ∀ i, i < n → 0 ≤ id i → ls i = -1 ∨ ∃ j : Nat, ls i = j ∧ j < i ∧ 0 ≤ id j ∧ nx j = i
  zero : 0 < n → 0 ≤ id 0
/-- how many places are live -/
def liveN (id : Nat → Int) : Nat → Nat
  | 0 => 0
  | n + 1 => liveN id n + if 0 ≤ id n then 1 else 0
theorem liveN_le (id : Nat → Int) : ∀ n, liveN id n ≤ n
  | 0 => Nat.le_refl _
  | n + 1 => by have := liveN_le id n; unfold liveN; split <;> omega
theorem liveN_congr {id id' : Nat → Int} : ∀ n, (∀ i, i < n → (0 ≤ id i ↔ 0 ≤ id' i)) → liveN id n = liveN id' n
  | 0, _ => rfl
  | n + 1, h => by
    have h1 := liveN_congr n fun i hi => h i (by omega)
    have h2 := h n (by omega)
    unfold liveN
    rw [h1]
    by_cases hc : 0 ≤ id n
    · rw [if_pos hc, if_pos (h2.1 hc)]
    · rw [if_neg hc, if_neg fun h' => hc (h2.2 h')]
theorem liveN_less {id id' : Nat → Int} {k : Nat} : ∀ n, k < n → 0 ≤ id k → id' k < 0 → (∀ i, i < n → i ≠ k → (0 ≤ id i ↔ 0 ≤ id' i)) → liveN id' n + 1 = liveN id n
  | 0, h, _, _, _ => absurd h (Nat.not_lt_zero _)
  | n + 1, hk, h1, h2, h => by
    unfold liveN
    by_cases hkn : k = n
    · subst hkn
      rw [liveN_congr k fun i hi => h i (by omega) (by omega), if_pos h1, if_neg (by omega)]
    · have ih := liveN_less n (by omega) h1 h2 fun i hi hne => h i (by omega) hne
      have hn := h n (by omega) (fun e => hkn e.symm)
      by_cases hc : 0 ≤ id n
      · rw [if_pos hc, if_pos (hn.1 hc)]; omega
      · rw [if_neg hc, if_neg fun h' => hc (hn.2 h')]; omega
section
variable {n : Nat} {sg : Int} {id nx ls : Nat → Int}
/-- the places as they begin -/
theorem NI.start {ids : Nat → Int} (h : ∀ i, i < n → 0 ≤ ids i ∧ ids i < sg) : NI n sg ids (fun i => if i + 1 < n then ((i + 1 : Nat) : Int) else -1) (fun i => (i : Int) - 1) := by
  refine ⟨fun i hi => .inr (h i hi), fun i hi _ => ?_, fun i hi _ => ?_, fun hn => (h 0 hn).1⟩
  · by_cases h1 : i + 1 < n
    · refine .inr ⟨i + 1, by simp [h1], by omega, h1, (h _ h1).1, by omega⟩
    · exact .inl (by simp [h1])
  · by_cases h1 : i = 0
    · exact .inl (by subst h1; rfl)
    · refine .inr ⟨i - 1, by omega, by omega, (h _ (by omega)).1, ?_⟩
      have : i - 1 + 1 < n := by omega
      simp only [this, if_true]
      omega
/-- one becomes two's -/
theorem NI.merge (h : NI n sg id nx ls) {l g : Nat} {v : Int} (hl : l < n) (hlv : 0 ≤ id l) (hg : nx l = g) (hv : 0 ≤ v ∧ v < sg) :
    NI n sg (updN (updN id l v) g (-1)) (updN nx l (nx g)) (if 0 ≤ nx g then updN ls (nx g).toNat l else ls) ∧ liveN (updN (updN id l v) g (-1)) n + 1 = liveN id n ∧ l < g ∧ g < n ∧ (nx g = -1 ∨ g < nx g ∧ nx g < n) := by
  obtain ⟨hlg, hgn, hgv, hgl⟩ : l < g ∧ g < n ∧ 0 ≤ id g ∧ ls g = l := by
    rcases h.nxt l hl hlv with h1 | ⟨j, h1, h2, h3, h4, h5⟩
    · rw [hg] at h1; omega
    · have : j = g := by rw [hg] at h1; omega
      subst this; exact ⟨h2, h3, h4, h5⟩
  have hng := h.nxt g hgn hgv
  have hid : ∀ i, i ≠ l → i ≠ g → updN (updN id l v) g (-1) i = id i := fun i h1 h2 => by rw [updN_ne _ _ h2, updN_ne _ _ h1]
  have hidg : updN (updN id l v) g (-1) g = -1 := updN_same _ _ _
  have hidl : updN (updN id l v) g (-1) l = v := by rw [updN_ne _ _ (by omega), updN_same]
  have hlive : ∀ i, 0 ≤ updN (updN id l v) g (-1) i → i ≠ g ∧ (i = l ∨ 0 ≤ id i) := fun i hi => by
    by_cases h1 : i = g
    · rw [h1, hidg] at hi; omega
    · by_cases h2 : i = l
      · exact ⟨h1, .inl h2⟩
      · rw [hid i h2 h1] at hi; exact ⟨h1, .inr hi⟩
  have hkeep : ∀ i, 0 ≤ id i → i ≠ g → 0 ≤ updN (updN id l v) g (-1) i := fun i hi h1 => by
    by_cases h2 : i = l
    · rw [h2, hidl]; exact hv.1
    · rw [hid i h2 h1]; exact hi
  have hls : ∀ i, (∀ j : Nat, nx g = j → i ≠ j) → (if 0 ≤ nx g then updN ls (nx g).toNat l else ls) i = ls i := fun i hi => by
    split
    · rename_i h1
      exact updN_ne _ _ (hi _ (by omega))
    · rfl
  refine ⟨⟨fun i hi => ?_, fun i hi hv' => ?_, fun i hi hv' => ?_, fun hn => ?_⟩, ?_, hlg, hgn, ?_⟩
  · by_cases h1 : i = g
    · exact .inl (by rw [h1, hidg])
    · by_cases h2 : i = l
      · exact .inr (by rw [h2, hidl]; exact hv)
      · rw [hid i h2 h1]; exact h.ids i hi
  · obtain ⟨h1, h2⟩ := hlive i hv'
    by_cases hil : i = l
    · subst hil
      rw [updN_same]
      rcases hng with h3 | ⟨j, h3, h4, h5, h6, h7⟩
      · exact .inl h3
      · refine .inr ⟨j, h3, by omega, h5, hkeep j h6 (by omega), ?_⟩
        rw [if_pos (by omega), show (nx g).toNat = j by omega, updN_same]
    · have hiv : 0 ≤ id i := by rcases h2 with h2 | h2; exact absurd h2 hil; exact h2
      rw [updN_ne _ _ hil]
      rcases h.nxt i hi hiv with h3 | ⟨j, h3, h4, h5, h6, h7⟩
      · exact .inl h3
      · have hjg : j ≠ g := fun e => by subst e; rw [hgl] at h7; omega
        refine .inr ⟨j, h3, h4, h5, hkeep j h6 hjg, ?_⟩
        rw [hls j fun j' h8 e => ?_]
        · exact h7
        · subst e
          rcases hng with h9 | ⟨j', h9, _, _, _, h10⟩
          · omega
          · have : j' = j := by omega
            subst this
            rw [h7] at h10; omega
  · obtain ⟨h1, h2⟩ := hlive i hv'
    by_cases hig : 0 ≤ nx g ∧ i = (nx g).toNat
    · rw [if_pos hig.1, hig.2, updN_same]
      rcases hng with h3 | ⟨j, h3, h4, h5, h6, h7⟩
      · omega
      · exact .inr ⟨l, rfl, by omega, by rw [hidl]; exact hv.1, by rw [updN_same]; omega⟩
    · rw [hls i fun j h3 e => hig ⟨by omega, by omega⟩]
      have hiv : 0 ≤ id i := by rcases h2 with h2 | h2; rw [h2]; exact hlv; exact h2
      rcases h.lst i hi hiv with h3 | ⟨j, h3, h4, h5, h6⟩
      · exact .inl h3
      · have hjg : j ≠ g := fun e => by subst e; exact hig ⟨by omega, by omega⟩
        have hjl : j ≠ l := fun e => by subst e; rw [hg] at h6; exact h1 (by omega)
        exact .inr ⟨j, h3, h4, hkeep j h5 hjg, by rw [updN_ne _ _ hjl]; exact h6⟩
  · exact hkeep 0 (h.zero hn) (by omega)
  · refine liveN_less n hgn hgv (by rw [hidg]; decide) fun i hi hne => ?_
    by_cases h2 : i = l
    · rw [h2, hidl]; exact ⟨fun _ => hv.1, fun _ => hlv⟩
    · rw [hid i h2 hne]
  · rcases hng with h3 | ⟨j, h3, h4, h5, _, _⟩
    · exact .inl h3
    · exact .inr ⟨by omega, by omega⟩
end
end Go.Proofs.Ytkpdcejnanhgoaa
/- Plain: a program that is OK stays so with a text, a table, a sign more and with instructions behind it (P23.2). No conditions; no program. -/
namespace Go.Proofs.Ytkpdcejnanhgoaa
open Go.RowKit
/-- there are least ranges -/
theorem pi_ends {of : List (Int × Int)} {code : List (Nat → Int)} (hc : CodeOk of code) : ∀ (m : Nat) (st : Sts × List Nat), potS st.1 * 2 + st.2.length ≤ m → PI of code st → ∃ S, Least of code S
  | m, (S, []), _, h => ⟨S, PI_end h⟩
  | 0, (S, a :: td), hm, _ => by simp at hm
  | m + 1, (S, a :: td), hm, h => by
    obtain ⟨td', i, e⟩ : ∃ td' i, a :: td = td' ++ [i] := ⟨(a :: td).dropLast, (a :: td).getLast (by simp), (List.dropLast_concat_getLast (by simp)).symm⟩
    rw [e] at h hm
    obtain ⟨h1, h2⟩ := PI_step hc h
    exact pi_ends hc m _ (by dsimp only at hm; omega) h1
theorem least_is {of : List (Int × Int)} {code : List (Nat → Int)} (hc : CodeOk of code) : ∃ S, Least of code S := pi_ends hc _ _ (Nat.le_refl _) (PI_start hc)
theorem wrong_at {p : Prg} {S : Sts} (h : wrongI p S = (0, 0)) : ∀ i, i < p.code.length → badAt p S i = false := fun i hi => by
  unfold wrongI at h
  cases hf : (List.range p.code.length).find? (badAt p S) with
  | some k => rw [hf] at h; simp at h
  | none =>
    have := List.find?_eq_none.1 hf i (List.mem_range.2 hi)
    simpa using this
/-- what OK says -/
theorem ok_open {p : Prg} (h : checkI p = (0, 0)) : Whole p ∧ ∃ S, Least (ofP p) p.code S ∧ ∀ i, i < p.code.length → badAt p S i = false := by
  have h1 : (shapeI p).1 = 0 := by
    rcases Classical.em ((shapeI p).1 = 0) with h' | h'
    · exact h'
    · rw [check_shape h'] at h; rw [h] at h'; exact absurd rfl h'
  have hw := (shape_whole h1).1
  obtain ⟨S, hS⟩ := least_is hw.codeOk
  rw [check_whole h1 hS] at h
  exact ⟨hw, S, hS, wrong_at h⟩
end Go.Proofs.Ytkpdcejnanhgoaa
/- Plain law: of a program that is OK what is in the registers lies within the least ranges of each place; so no instruction faults (P23.3). No conditions; no program. -/
namespace Go.Proofs.Ytkpdcejnanhgoaa
open Go.RowKit
theorem okI_M {v : Nat → Int} (h : okI v = true) (ho : v 0 = 9 ∨ v 0 = 10 ∨ v 0 = 11) : 0 ≤ v 1 ∧ v 1 < 2 := by
  have hm : 109 ∈ letr (v 0).toNat := by rcases ho with e | e | e <;> (rw [e]; decide)
  have := okI_in h hm
  simp only [pos, mst] at this
  simp at this
  omega
theorem mn_mem (l : List Int) : ∀ (k i : Nat), i < k → mnTo l k ≤ l.getD i 0 ∧ l.getD i 0 ≤ mxTo l k
  | 0, i, h => absurd h (Nat.not_lt_zero _)
  | k + 1, i, h => by
    rw [mnTo_succ, mxTo_succ]
    by_cases e : i = k
    · subst e; omega
    · have := mn_mem l k i (by omega); omega
theorem span_mem {l : List Int} {d : Int} (h : d ∈ l) : (spanD l).1 ≤ d ∧ d ≤ (spanD l).2 := by
  obtain ⟨i, hi, rfl⟩ := List.getElem_of_mem h
  have := mn_mem l l.length i hi
  rw [List.getD_eq_getElem?_getD, List.getElem?_eq_getElem hi] at this
  exact this
/-- registers within ranges -/
def rin (rg : Nat → Int) (r : Rg) : Prop := ∀ k, k < 8 → (rget r k).1 ≤ rg k ∧ rg k ≤ (rget r k).2
theorem rin.le {rg : Nat → Int} {r q : Rg} (h : rin rg r) (hl : rle r q) : rin rg q := fun k hk => ⟨Int.le_trans (hl k hk).1 (h k hk).1, Int.le_trans (h k hk).2 (hl k hk).2⟩
theorem rin.set {rg : Nat → Int} {r : Rg} (h : rin rg r) (h8 : r.length = 8) (a : Nat) {u : Int} {v : Int × Int} (hv : v.1 ≤ u ∧ u ≤ v.2) : rin (updN rg a u) (r.set a v) := fun k hk => by
  rw [rget_set r h8 a v k hk]
  by_cases e : a = k
  · subst e; rw [if_pos rfl, updN_same]; exact hv
  · rw [if_neg e, updN_ne _ _ (fun h => e h.symm)]; exact h k hk
theorem rin.same {rg : Nat → Int} {r : Rg} (h : rin rg r) (h8 : r.length = 8) (a : Nat) {v : Int × Int} (hv : v.1 ≤ rg a ∧ rg a ≤ v.2) : rin rg (r.set a v) := fun k hk => by
  rw [rget_set r h8 a v k hk]
  by_cases e : a = k
  · subst e; rw [if_pos rfl]; exact hv
  · rw [if_neg e]; exact h k hk
/-- what an instruction that does not fault makes of the registers and of the place -/
def nxtR (p : Prg) (x rg rg' : Nat → Int) (i i' : Int) : Prop :=
  if x 0 = 2 then rg' = updN rg (x 1).toNat (x 2) ∧ i' = i + 1
  else if x 0 = 3 then rg' = updN rg (x 1).toNat (rg (x 2).toNat) ∧ i' = i + 1
  else if x 0 = 4 then rg' = rg ∧ i' = x 3
  else if x 0 = 5 then rg' = rg ∧ (if rg (x 1).toNat = x 2 then i' = x 3 else i' = i + 1)
  else if x 0 = 6 then rg' = rg ∧ (if rg (x 1).toNat < x 2 then i' = x 3 else i' = i + 1)
  else if x 0 = 7 then (rg' = rg ∧ i' = x 3) ∨ (∃ b : Int, 0 ≤ b ∧ b ≤ 255 ∧ rg' = updN rg (x 1).toNat b ∧ i' = i + 1)
  else if x 0 = 8 then (∃ d ∈ (tabD p x).2, rg' = updN rg (x 1).toNat d) ∧ i' = i + 1
  else if x 0 = 11 then rg' = rg ∧ (i' = x 3 ∨ i' = i + 1)
  else rg' = rg ∧ i' = i + 1
/-- a program that is OK, its ranges -/
structure OkP (p : Prg) (S : Sts) : Prop where
  whole : Whole p
  least : Least (ofP p) p.code S
  safe : ∀ i, i < p.code.length → badAt p S i = false
theorem ok_is {p : Prg} (h : checkI p = (0, 0)) : ∃ S, OkP p S := by
  obtain ⟨hw, S, hS, hb⟩ := ok_open h
  exact ⟨S, hw, hS, hb⟩
/-- the run stands at a place, its registers within the ranges there -/
def runIn (p : Prg) (S : Sts) (i : Int) (rg : Nat → Int) : Prop := ∃ (k : Nat) (r : Rg), i = k ∧ k < p.code.length ∧ S.getD k none = some r ∧ rin rg r
section
variable {p : Prg} {S : Sts}
theorem some_lt (h : OkP p S) {k : Nat} {r : Rg} (hr : S.getD k none = some r) : k < p.code.length := by
  have hl := h.least.1.1
  rcases Nat.lt_or_ge k S.length with h1 | h1
  · omega
  · rw [List.getD_eq_getElem?_getD, List.getElem?_eq_none h1] at hr; cases hr
theorem run_start (h : OkP p S) : runIn p S 0 (fun _ => 0) := by
  obtain ⟨q, hq, hl⟩ := h.least.2.1.2.1 iniR rfl
  refine ⟨0, q, rfl, some_lt h hq, hq, rin.le (r := iniR) (fun k hk => ?_) hl⟩
  have e : rget iniR k = (0, 0) := by
    unfold rget iniR
    rw [List.getD_eq_getElem?_getD, List.getElem?_replicate, if_pos hk]; rfl
  rw [e]; exact ⟨Int.le_refl _, Int.le_refl _⟩
theorem code_at (_ : OkP p S) {k : Nat} (hk : k < p.code.length) : p.code[k]? = some (codeAt p k) := by
  unfold codeAt; rw [List.getD_eq_getElem?_getD, List.getElem?_eq_getElem hk]; rfl
theorem run_to (h : OkP p S) {o : Option Rg} {rg : Nat → Int} {r : Rg} {k : Nat} (ho : ole o (S.getD k none)) (he : o = some r) (hr : rin rg r) : runIn p S (k : Int) rg := by
  obtain ⟨q, hq, hl⟩ := ho r he
  exact ⟨k, q, rfl, some_lt h hq, hq, hr.le hl⟩
/-- an instruction that does not fault stays within the ranges -/
theorem run_next (h : OkP p S) {i i' : Int} {rg rg' : Nat → Int} (hi : runIn p S i rg) (hn : nxtR p (codeAt p i.toNat) rg rg' i i') (h1 : codeAt p i.toNat 0 ≠ 1) : runIn p S i' rg' := by
  obtain ⟨k, r, rfl, hk, hr, hin⟩ := hi
  rw [show ((k : Nat) : Int).toNat = k from rfl] at hn h1
  have hx := code_at h hk
  generalize codeAt p k = x at hn h1 hx
  obtain ⟨e1, e2⟩ := h.least.2.1.2.2 k x r hx hr
  have h8 := h.least.2.1.1 k r hr
  have hok := h.whole.sok hx
  obtain ⟨hoki, hc, ht⟩ := h.whole.at' hx
  have hc3 : ((x 3).toNat : Int) = x 3 := by omega
  have ha : (x 1).toNat < 8 := by have := hok.a; omega
  have hra := hin _ ha
  have E1 : ∀ {r' : Rg}, goN (ofP p) x r = some r' → rin rg' r' → runIn p S ((k : Int) + 1) rg' := fun he hr' => by
    have := run_to h e1 he hr'
    rwa [Int.natCast_add] at this
  have E2 : ∀ {r' : Rg}, goF x r = some r' → rin rg' r' → runIn p S (x 3) rg' := fun he hr' => by
    have := run_to h e2 he hr'
    rwa [hc3] at this
  unfold nxtR at hn
  by_cases h2 : x 0 = 2
  · rw [if_pos h2] at hn
    obtain ⟨rfl, rfl⟩ := hn
    refine E1 (r' := sA x r (x 2, x 2)) ?_ (hin.set h8 _ ⟨Int.le_refl _, Int.le_refl _⟩)
    unfold goN; rw [if_neg (by omega), if_pos h2]
  rw [if_neg h2] at hn
  by_cases h3 : x 0 = 3
  · rw [if_pos h3] at hn
    obtain ⟨rfl, rfl⟩ := hn
    have hb : (x 2).toNat < 8 := by have := okI_B hoki (.inl h3); omega
    refine E1 (r' := sA x r (rget r (x 2).toNat)) ?_ (hin.set h8 _ (hin _ hb))
    unfold goN; rw [if_neg (by omega), if_neg (by omega), if_pos h3]
  rw [if_neg h3] at hn
  by_cases h4 : x 0 = 4
  · rw [if_pos h4] at hn
    obtain ⟨rfl, rfl⟩ := hn
    refine E2 (r' := r) ?_ hin
    unfold goF; rw [if_pos h4]
  rw [if_neg h4] at hn
  by_cases h5 : x 0 = 5
  · rw [if_pos h5] at hn
    obtain ⟨rfl, hn⟩ := hn
    by_cases hs : rg' (x 1).toNat = x 2
    · rw [if_pos hs] at hn
      subst hn
      refine E2 (r' := sA x r (x 2, x 2)) ?_ (hin.same h8 _ (by dsimp only; omega))
      unfold goF ifIn rA; rw [if_neg (by omega), if_pos h5, if_pos (by omega)]
    · rw [if_neg hs] at hn
      subst hn
      have hB : (sameB (rA x r) (x 2)).1 ≤ rg' (x 1).toNat ∧ rg' (x 1).toNat ≤ (sameB (rA x r) (x 2)).2 := by
        unfold sameB rA
        dsimp only
        constructor <;> split <;> omega
      refine E1 (r' := sA x r (sameB (rA x r) (x 2))) ?_ (hin.same h8 _ hB)
      unfold goN ifIn; rw [if_neg (by omega), if_neg (by omega), if_neg (by omega), if_neg (by omega), if_pos h5, if_pos (by omega)]
  rw [if_neg h5] at hn
  by_cases h6 : x 0 = 6
  · rw [if_pos h6] at hn
    obtain ⟨rfl, hn⟩ := hn
    by_cases hs : rg' (x 1).toNat < x 2
    · rw [if_pos hs] at hn
      subst hn
      refine E2 (r' := sA x r ((rA x r).1, min (rA x r).2 (x 2 - 1))) ?_ (hin.same h8 _ (by unfold rA; dsimp only; omega))
      unfold goF ifIn rA; rw [if_neg (by omega), if_neg (by omega), if_pos h6, if_pos (by omega)]
    · rw [if_neg hs] at hn
      subst hn
      refine E1 (r' := sA x r (max (rA x r).1 (x 2), (rA x r).2)) ?_ (hin.same h8 _ (by unfold rA; dsimp only; omega))
      unfold goN ifIn rA; rw [if_neg (by omega), if_neg (by omega), if_neg (by omega), if_neg (by omega), if_neg (by omega), if_pos h6, if_pos (by omega)]
  rw [if_neg h6] at hn
  by_cases h7 : x 0 = 7
  · rw [if_pos h7] at hn
    rcases hn with ⟨rfl, rfl⟩ | ⟨b, hb1, hb2, rfl, rfl⟩
    · refine E2 (r' := r) ?_ hin
      unfold goF; rw [if_neg (by omega), if_neg (by omega), if_neg (by omega), if_pos h7]
    · refine E1 (r' := sA x r (0, 255)) ?_ (hin.set h8 _ ⟨hb1, hb2⟩)
      unfold goN; rw [if_neg (by omega), if_neg (by omega), if_neg (by omega), if_neg (by omega), if_neg (by omega), if_neg (by omega), if_pos h7]
  rw [if_neg h7] at hn
  by_cases h8' : x 0 = 8
  · rw [if_pos h8'] at hn
    obtain ⟨⟨d, hd, rfl⟩, rfl⟩ := hn
    obtain ⟨t0, t1⟩ := ht h8'
    have hk4 : (x 4).toNat < p.tabs.length := by omega
    have hto := tab_open (h.whole.tab hk4)
    have e : (ofP p).getD (x 4).toNat (0, 0) = spanD (tabD p x).2 := by
      unfold ofP tabD
      rw [List.getD_eq_getElem?_getD, List.getElem?_map, List.getD_eq_getElem?_getD, List.getElem?_eq_getElem hk4]; rfl
    refine E1 (r' := sA x r ((ofP p).getD (x 4).toNat (0, 0))) ?_ (hin.set h8 _ ?_)
    · unfold goN; rw [if_neg (by omega), if_neg (by omega), if_neg (by omega), if_neg (by omega), if_neg (by omega), if_neg (by omega), if_neg (by omega), if_pos h8']
    · rw [e]; exact span_mem hd
  rw [if_neg h8'] at hn
  have hN : goN (ofP p) x r = some r := by
    unfold goN; rw [if_neg (by omega), if_neg (by omega), if_neg (by omega), if_neg (by omega), if_neg (by omega), if_neg (by omega), if_neg (by omega), if_neg (by omega)]
  by_cases h11 : x 0 = 11
  · rw [if_pos h11] at hn
    obtain ⟨rfl, hn⟩ := hn
    rcases hn with rfl | rfl
    · refine E2 (r' := r) ?_ hin
      unfold goF; rw [if_neg (by omega), if_neg (by omega), if_neg (by omega), if_neg (by omega), if_pos h11]
    · exact E1 hN hin
  · rw [if_neg h11] at hn
    obtain ⟨rfl, rfl⟩ := hn
    exact E1 hN hin
/-- an instruction names what there is -/
def fitB (x : Nat → Int) : Bool :=
  if x 0 = 1 ∨ x 0 = 4 ∨ x 0 = 14 ∨ x 0 = 16 then true else if x 0 = 9 ∨ x 0 = 10 ∨ x 0 = 11 then decide (0 ≤ x 1 ∧ x 1 < 2)
  else if x 0 = 3 ∨ x 0 = 8 ∨ x 0 = 13 then decide (0 ≤ x 2 ∧ x 2 < 8) && decide (0 ≤ x 1 ∧ x 1 < 8)
  else if x 0 = 2 ∨ x 0 = 5 ∨ x 0 = 6 ∨ x 0 = 7 ∨ x 0 = 12 ∨ x 0 = 15 ∨ x 0 = 17 then decide (0 ≤ x 1 ∧ x 1 < 8) else false
/-- where a look finds its number; is it there? -/
def cellB (p : Prg) (x rg : Nat → Int) : Bool :=
  decide (0 ≤ x 4 ∧ x 4 < p.tabs.length) && (decide (1 ≤ (tabD p x).1) && (decide (0 ≤ rg (x 1).toNat ∧ rg (x 1).toNat < ((tabD p x).2.length : Int) / (tabD p x).1) && decide (0 ≤ rg (x 2).toNat ∧ rg (x 2).toNat < (tabD p x).1)))
/-- an instruction faults -/
def fltB (p : Prg) (x rg : Nat → Int) : Bool :=
  !fitB x || (if x 0 = 8 then !cellB p x rg else if x 0 = 12 then !decide (0 ≤ rg (x 1).toNat ∧ rg (x 1).toNat < 256)
    else if x 0 = 13 then !(decide (0 ≤ rg (x 1).toNat ∧ rg (x 1).toNat / 2 < p.texts.length) && (decide (rg (x 1).toNat % 2 = 0) || decide (0 ≤ rg (x 2).toNat ∧ rg (x 2).toNat < 256)))
    else if x 0 = 15 then !decide (0 ≤ rg (x 1).toNat ∧ rg (x 1).toNat < min p.signs 65536) else false)
theorem fit_ok {x : Nat → Int} (h : okI x = true) : fitB x = true := by
  obtain ⟨o1, o2⟩ := okI_op h
  have ha := okI_1 h
  unfold fitB
  by_cases h1 : x 0 = 1 ∨ x 0 = 4 ∨ x 0 = 14 ∨ x 0 = 16
  · rw [if_pos h1]
  rw [if_neg h1]
  by_cases h2 : x 0 = 9 ∨ x 0 = 10 ∨ x 0 = 11
  · rw [if_pos h2]; exact decide_eq_true (okI_M h h2)
  rw [if_neg h2]
  by_cases h3 : x 0 = 3 ∨ x 0 = 8 ∨ x 0 = 13
  · have hb := okI_B h h3
    rw [if_pos h3, decide_eq_true (by omega), decide_eq_true (by omega)]; rfl
  rw [if_neg h3, if_pos (by omega)]
  exact decide_eq_true (by omega)
theorem safe_at (h : OkP p S) {i : Int} {rg : Nat → Int} (hi : runIn p S i rg) : (0 ≤ i ∧ i < p.code.length) ∧ fltB p (codeAt p i.toNat) rg = false := by
  obtain ⟨k, r, rfl, hk, hr, hin⟩ := hi
  rw [show ((k : Nat) : Int).toNat = k from rfl]
  refine ⟨by omega, ?_⟩
  have hx := code_at h hk
  have hs := h.safe k hk
  unfold badAt at hs
  rw [hr] at hs
  dsimp only at hs
  generalize codeAt p k = x at hs hx
  have hok := h.whole.sok hx
  obtain ⟨hoki, hc, ht⟩ := h.whole.at' hx
  have hs : safeI p x r = true := by simpa using hs
  have ha : (x 1).toNat < 8 := by have := hok.a; omega
  have hra := hin _ ha
  unfold fltB
  rw [fit_ok hoki]
  unfold safeI inB at hs
  by_cases h8 : x 0 = 8
  · rw [if_pos h8] at hs ⊢
    have hb : (x 2).toNat < 8 := by have := hok.b (.inl h8); omega
    have hrb := hin _ hb
    have t := hok.t h8
    simp only [Bool.and_eq_true, decide_eq_true_eq] at hs
    unfold cellB
    rw [decide_eq_true (by omega), decide_eq_true (by omega), decide_eq_true (by omega), decide_eq_true (by omega)]; rfl
  rw [if_neg h8] at hs ⊢
  by_cases h12 : x 0 = 12
  · rw [if_pos h12] at hs ⊢
    simp only [Bool.and_eq_true, decide_eq_true_eq] at hs
    rw [decide_eq_true (by omega)]; rfl
  rw [if_neg h12] at hs ⊢
  by_cases h13 : x 0 = 13
  · rw [if_pos h13] at hs ⊢
    have hb : (x 2).toNat < 8 := by have := hok.b (.inr h13); omega
    have hrb := hin _ hb
    simp only [Bool.and_eq_true, decide_eq_true_eq] at hs
    rw [decide_eq_true (by omega), decide_eq_true (p := 0 ≤ rg (x 2).toNat ∧ rg (x 2).toNat < 256) (by omega)]
    simp
  rw [if_neg h13] at hs ⊢
  by_cases h15 : x 0 = 15
  · rw [if_pos h15] at hs ⊢
    simp only [Bool.and_eq_true, decide_eq_true_eq] at hs
    have := hok.s
    rw [decide_eq_true (by omega)]; rfl
  rw [if_neg h15]; rfl
end
end Go.Proofs.Ytkpdcejnanhgoaa
