/- Plain laws: a whole program's code is fit for the flow (P23.1, P23.2). No conditions; no program. -/
import Derived.Test.YtbomloodllddaaaPk13
import Derived.Test.YtbomloodllddaaaPk11
namespace Go.Proofs.Ytbomloodllddaaa
open Go.RowKit
theorem bar_eq' {v : Nat → Int} {l : List Nat} {j : Nat} (hj : j ≠ 0) (h : (bar v l j == v j) = true) (hn : j ∉ l.map pos) : v j = 0 := by
  unfold bar at h
  rw [if_neg (by rintro (e | e); exact hj e; exact hn e), beq_iff_eq] at h
  exact h.symm
/-- a field is in its bounds, or 0 -/
theorem okI_fld {v : Nat → Int} (h : okI v = true) (j : Nat) (hj : 1 ≤ j ∧ j ≤ 4) : (∃ x ∈ letr (v 0).toNat, pos x = j ∧ 0 ≤ v j ∧ v j ≤ (mst x : Int)) ∨ v j = 0 := by
  by_cases hm : j ∈ (letr (v 0).toNat).map pos
  · obtain ⟨x, hx, rfl⟩ := List.mem_map.1 hm
    exact .inl ⟨x, hx, rfl, okI_in h hx⟩
  · right
    unfold okI at h
    simp only [Bool.and_eq_true] at h
    obtain ⟨_, _, h3, h4, h5, h6⟩ := h
    rcases (by omega : j = 1 ∨ j = 2 ∨ j = 3 ∨ j = 4) with rfl | rfl | rfl | rfl
    · exact bar_eq' (by decide) h3 hm
    · exact bar_eq' (by decide) h4 hm
    · exact bar_eq' (by decide) h5 hm
    · exact bar_eq' (by decide) h6 hm
theorem pos_mst {x : Nat} (h : IsL x) : (pos x = 1 → mst x ≤ 7) ∧ (pos x = 3 → mst x = 4095) ∧ (pos x = 4 → mst x = 15) := by
  rcases h with rfl | rfl | rfl | rfl | rfl | rfl <;> decide
theorem okI_1 {v : Nat → Int} (h : okI v = true) : 0 ≤ v 1 ∧ v 1 ≤ 7 := by
  rcases okI_fld h 1 (by decide) with ⟨x, hx, hp, h1, h2⟩ | h0
  · have := (pos_mst (letr_is _ x hx)).1 hp; omega
  · omega
theorem okI_2 {v : Nat → Int} (h : okI v = true) : 0 ≤ v 2 ∧ v 2 ≤ 1073741824 := by
  rcases okI_fld h 2 (by decide) with ⟨x, hx, hp, h1, h2⟩ | h0
  · have := mst_le x; omega
  · omega
theorem okI_3 {v : Nat → Int} (h : okI v = true) : 0 ≤ v 3 ∧ v 3 ≤ 4095 := by
  rcases okI_fld h 3 (by decide) with ⟨x, hx, hp, h1, h2⟩ | h0
  · have := (pos_mst (letr_is _ x hx)).2.1 hp; omega
  · omega
theorem okI_4 {v : Nat → Int} (h : okI v = true) : 0 ≤ v 4 ∧ v 4 ≤ 15 := by
  rcases okI_fld h 4 (by decide) with ⟨x, hx, hp, h1, h2⟩ | h0
  · have := (pos_mst (letr_is _ x hx)).2.2 hp; omega
  · omega
/-- the second register -/
theorem okI_B {v : Nat → Int} (h : okI v = true) (ho : v 0 = 3 ∨ v 0 = 8 ∨ v 0 = 13) : 0 ≤ v 2 ∧ v 2 ≤ 7 := by
  have hm : 82 ∈ letr (v 0).toNat := by rcases ho with e | e | e <;> (rw [e]; decide)
  have := okI_in h hm
  simpa [pos, mst] using this
theorem mn_ok {l : List Int} (h : l.all numOk = true) (h1 : 1 ≤ l.length) : ∀ k, k ≤ l.length → 0 ≤ mnTo l k ∧ mnTo l k ≤ 1073741824
  | 0, _ => by
    have e : mnTo l 0 = l.getD 0 0 := rfl
    have := List.all_eq_true.1 h (l.getD 0 0) (by rw [List.getD_eq_getElem?_getD, List.getElem?_eq_getElem (by omega)]; exact List.getElem_mem _)
    rw [e]; unfold numOk at this; simpa using this
  | k + 1, hk => by
    have ih := mn_ok h h1 k (by omega)
    have := List.all_eq_true.1 h (l.getD k 0) (by rw [List.getD_eq_getElem?_getD, List.getElem?_eq_getElem (by omega)]; exact List.getElem_mem _)
    unfold numOk at this
    simp only [Bool.and_eq_true, decide_eq_true_eq] at this
    rw [mnTo_succ]; omega
theorem mx_ok {l : List Int} (h : l.all numOk = true) (h1 : 1 ≤ l.length) : ∀ k, k ≤ l.length → 0 ≤ mxTo l k ∧ mxTo l k ≤ 1073741824
  | 0, _ => by
    have e : mxTo l 0 = l.getD 0 0 := rfl
    have := List.all_eq_true.1 h (l.getD 0 0) (by rw [List.getD_eq_getElem?_getD, List.getElem?_eq_getElem (by omega)]; exact List.getElem_mem _)
    rw [e]; unfold numOk at this; simpa using this
  | k + 1, hk => by
    have ih := mx_ok h h1 k (by omega)
    have := List.all_eq_true.1 h (l.getD k 0) (by rw [List.getD_eq_getElem?_getD, List.getElem?_eq_getElem (by omega)]; exact List.getElem_mem _)
    unfold numOk at this
    simp only [Bool.and_eq_true, decide_eq_true_eq] at this
    rw [mxTo_succ]; omega
theorem mn_mx (l : List Int) : ∀ k, mnTo l k ≤ mxTo l k
  | 0 => Int.le_refl _
  | k + 1 => by rw [mnTo_succ, mxTo_succ]; have := mn_mx l k; omega
theorem span_ok {l : List Int} (h : l.all numOk = true) (h1 : 1 ≤ l.length) : okS (spanD l) :=
  ⟨(mn_ok h h1 _ (Nat.le_refl _)).1, mn_mx l _, (mx_ok h h1 _ (Nat.le_refl _)).2⟩
/-- what is in each table -/
def ofP (p : Prg) : List (Int × Int) := p.tabs.map fun t => spanD t.2
theorem Whole.tab {p : Prg} (h : Whole p) {k : Nat} (hk : k < p.tabs.length) : tabOk (p.tabs.getD k (0, [])) = true := by
  have := ((data_iff p).1 h.data).2.2.2.2.2.1
  refine List.all_eq_true.1 this _ ?_
  rw [List.getD_eq_getElem?_getD, List.getElem?_eq_getElem hk]; exact List.getElem_mem _
theorem tab_open {t : Int × List Int} (h : tabOk t = true) : (1 ≤ t.1 ∧ t.1 ≤ 256 ∧ t.1 ≤ t.2.length ∧ t.2.length ≤ 400000 ∧ (t.2.length : Int) % t.1 = 0) ∧ t.2.all numOk = true := by
  unfold tabOk at h
  rw [Bool.and_eq_true, decide_eq_true_eq] at h
  exact h
theorem Whole.at' {p : Prg} (h : Whole p) {i : Nat} {x : Nat → Int} (hx : p.code[i]? = some x) : okI x = true ∧ (0 ≤ x 3 ∧ x 3 < p.code.length) ∧ (x 0 = 8 → 0 ≤ x 4 ∧ x 4 < p.tabs.length) := by
  have hi := (List.getElem?_eq_some_iff.1 hx).1
  have e : codeAt p i = x := by unfold codeAt; rw [List.getD_eq_getElem?_getD, hx]; rfl
  have h1 := h.op i hi
  have h2 := h.jump i hi
  rw [e] at h1
  unfold badJump at h2
  rw [e] at h2
  simp only [Bool.or_eq_false_iff, decide_eq_false_iff_not, Bool.and_eq_false_iff] at h2
  refine ⟨h1, ⟨(okI_3 h1).1, by omega⟩, fun h8 => ⟨(okI_4 h1).1, ?_⟩⟩
  rcases h2.2 with h3 | h3
  · exact absurd h8 h3
  · omega
theorem Whole.codeOk {p : Prg} (h : Whole p) : CodeOk (ofP p) p.code := by
  refine ⟨h.len.1, fun i x hx => ?_, fun i x hx => (h.at' hx).2.1, fun i x r hx hg => ?_⟩
  · obtain ⟨hok, _, ht⟩ := h.at' hx
    refine ⟨okI_1 hok, fun h3 => okI_B hok (.inl h3), fun _ => okI_2 hok, fun h8 => ?_⟩
    obtain ⟨h0, h1⟩ := ht h8
    have hk : (x 4).toNat < p.tabs.length := by omega
    have := tab_open (h.tab hk)
    have e : (ofP p).getD (x 4).toNat (0, 0) = spanD (p.tabs.getD (x 4).toNat (0, [])).2 := by
      unfold ofP
      rw [List.getD_eq_getElem?_getD, List.getElem?_map, List.getD_eq_getElem?_getD, List.getElem?_eq_getElem hk]; rfl
    rw [e]
    exact span_ok this.2 (by have := this.1; omega)
  · have hi := (List.getElem?_eq_some_iff.1 hx).1
    rcases Nat.lt_or_ge (i + 1) p.code.length with h1 | h1
    · exact h1
    · exfalso
      have hl : i = p.code.length - 1 := by omega
      have he := h.last
      unfold endOk codeAt at he
      rw [← hl, List.getD_eq_getElem?_getD, hx] at he
      simp only [Bool.or_eq_true, decide_eq_true_eq, Option.getD_some] at he
      apply hg
      unfold goN
      rcases he with e | e <;> simp [e]
theorem Whole.sok {p : Prg} (h : Whole p) {i : Nat} {x : Nat → Int} (hx : p.code[i]? = some x) : SOk p x := by
  obtain ⟨hok, _, ht⟩ := h.at' hx
  have hl := ((data_iff p).1 h.data).2.2.2.1
  refine ⟨okI_1 hok, fun ho => okI_B hok (by omega), fun h8 => ?_, hl.2.2.2, ⟨hl.1, hl.2.1⟩⟩
  obtain ⟨h0, h1⟩ := ht h8
  have := (tab_open (h.tab (show (x 4).toNat < p.tabs.length by omega))).1
  exact ⟨h0, h1, this.1, this.2.1, this.2.2.2.1⟩
end Go.Proofs.Ytbomloodllddaaa
/- Plain: what a program's check tells (P23.1, P23.2). No conditions; no program. -/
namespace Go.Proofs.Ytbomloodllddaaa
open Go.RowKit
open Classical in
/-- the ranges at all places -/
noncomputable def solP (p : Prg) : Sts := if h : ∃ S, Least (ofP p) p.code S then Classical.choose h else []
theorem solP_eq {p : Prg} {S : Sts} (h : Least (ofP p) p.code S) : solP p = S := by
  unfold solP
  rw [dif_pos ⟨S, h⟩]
  exact least_eq (Classical.choose_spec (⟨S, h⟩ : ∃ S, Least (ofP p) p.code S)) h
def badAt (p : Prg) (S : Sts) (i : Nat) : Bool := match S.getD i none with
  | none => false
  | some r => !safeI p (codeAt p i) r
/-- the first place that is not safe -/
def wrongI (p : Prg) (S : Sts) : Int × Int := match (List.range p.code.length).find? (badAt p S) with
  | some i => (231, (i : Int))
  | none => (0, 0)
noncomputable def checkI (p : Prg) : Int × Int := if (shapeI p).1 = 0 then wrongI p (solP p) else shapeI p
theorem check_shape {p : Prg} (h : (shapeI p).1 ≠ 0) : checkI p = shapeI p := by unfold checkI; rw [if_neg h]
theorem check_whole {p : Prg} (h : (shapeI p).1 = 0) {S : Sts} (hS : Least (ofP p) p.code S) : checkI p = wrongI p S := by
  unfold checkI; rw [if_pos h, solP_eq hS]
theorem wrong_some {p : Prg} {S : Sts} {k : Nat} (hk : k < p.code.length) (h : badAt p S k = true) (hl : ∀ i, i < k → badAt p S i = false) : wrongI p S = (231, (k : Int)) := by
  unfold wrongI; rw [fst_some hk h hl]
theorem wrong_none {p : Prg} {S : Sts} (hl : ∀ i, i < p.code.length → badAt p S i = false) : wrongI p S = (0, 0) := by
  unfold wrongI; rw [fst_none hl]
theorem wrong_cases (p : Prg) (S : Sts) : wrongI p S = (0, 0) ∨ ∃ k, k < p.code.length ∧ wrongI p S = (231, (k : Int)) := by
  unfold wrongI
  cases h : (List.range p.code.length).find? (badAt p S) with
  | none => exact .inl rfl
  | some i => exact .inr ⟨i, List.mem_range.1 (List.mem_of_find?_eq_some h), rfl⟩
end Go.Proofs.Ytbomloodllddaaa
/- Plain laws: the list of places to look at stays short, for ranges' ends come from a short list (P23.2). No conditions; no program. -/
namespace Go.Proofs.Ytbomloodllddaaa
open Go.RowKit
def inE (E : List Int) (p : Int × Int) : Prop := p.1 ∈ E ∧ p.2 ∈ E
def pE (E : List Int) (p : Int × Int) : Nat := E.countP (fun e => decide (e < p.1)) + E.countP (fun e => decide (p.2 < e))
theorem cnt_le : ∀ (E : List Int) (q r : Int → Bool), (∀ x, q x = true → r x = true) → E.countP q ≤ E.countP r
  | [], _, _, _ => by simp
  | a :: E, q, r, h => by
    have ih := cnt_le E q r h
    rw [List.countP_cons, List.countP_cons]
    by_cases hq : q a = true
    · rw [if_pos hq, if_pos (h a hq)]; omega
    · rw [if_neg hq]; split <;> omega
theorem cnt_lt : ∀ (E : List Int) (q r : Int → Bool), (∀ x, q x = true → r x = true) → ∀ y ∈ E, r y = true → q y = false → E.countP q < E.countP r
  | [], _, _, _, y, hy, _, _ => by cases hy
  | a :: E, q, r, h, y, hy, h1, h2 => by
    rw [List.countP_cons, List.countP_cons]
    rcases List.mem_cons.1 hy with rfl | hy
    · have ih := cnt_le E q r h
      rw [if_neg (by rw [h2]; decide), if_pos h1]; omega
    · have ih := cnt_lt E q r h y hy h1 h2
      by_cases hq : q a = true
      · rw [if_pos hq, if_pos (h a hq)]; omega
      · rw [if_neg hq]; split <;> omega
theorem jn_inE {E : List Int} {a b : Int × Int} (ha : inE E a) (hb : inE E b) : inE E (jn a b) := by
  unfold jn inE
  dsimp only
  constructor
  · rcases (by omega : min a.1 b.1 = a.1 ∨ min a.1 b.1 = b.1) with e | e <;> rw [e]
    · exact ha.1
    · exact hb.1
  · rcases (by omega : max a.2 b.2 = a.2 ∨ max a.2 b.2 = b.2) with e | e <;> rw [e]
    · exact ha.2
    · exact hb.2
theorem pE_jn {E : List Int} {a b : Int × Int} (hb : inE E b) : pE E (jn a b) ≤ pE E a ∧ (jn a b ≠ a → pE E (jn a b) < pE E a) := by
  have m1 : E.countP (fun e => decide (e < min a.1 b.1)) ≤ E.countP (fun e => decide (e < a.1)) := cnt_le _ _ _ fun x h => by simp only [decide_eq_true_eq] at h ⊢; omega
  have m2 : E.countP (fun e => decide (max a.2 b.2 < e)) ≤ E.countP (fun e => decide (a.2 < e)) := cnt_le _ _ _ fun x h => by simp only [decide_eq_true_eq] at h ⊢; omega
  refine ⟨by unfold pE jn; dsimp only; omega, fun hne => ?_⟩
  have hc : b.1 < a.1 ∨ a.2 < b.2 := by
    refine Classical.byContradiction fun h => hne ?_
    unfold jn
    exact Prod.ext (by dsimp only; omega) (by dsimp only; omega)
  rcases hc with h | h
  · have := cnt_lt E (fun e => decide (e < min a.1 b.1)) (fun e => decide (e < a.1)) (fun x h => by simp only [decide_eq_true_eq] at h ⊢; omega) b.1 hb.1 (by simpa using h) (by simp; omega)
    unfold pE jn; dsimp only; omega
  · have := cnt_lt E (fun e => decide (max a.2 b.2 < e)) (fun e => decide (a.2 < e)) (fun x h => by simp only [decide_eq_true_eq] at h ⊢; omega) b.2 hb.2 (by simpa using h) (by simp; omega)
    unfold pE jn; dsimp only; omega
def rE (E : List Int) (r : Rg) : Prop := ∀ p ∈ r, inE E p
def pER (E : List Int) (r : Rg) : Nat := (r.map (pE E)).sum
theorem pER_join {E : List Int} : ∀ q r : Rg, rE E r → pER E (q.zipWith jn r) + (if q.length = r.length then 0 else 0) ≤ pER E q ∨ q.length ≠ r.length
  | [], _, _ => .inl (by simp [pER])
  | _ :: _, [], _ => .inr (by simp)
  | a :: q, b :: r, h => by
    rcases pER_join q r (fun p hp => h p (by simp [hp])) with ih | ih
    · left
      have := (pE_jn (a := a) (h b (by simp))).1
      simp only [List.zipWith_cons_cons, pER, List.map_cons, List.sum_cons] at ih ⊢
      simp at ih ⊢; omega
    · right; simpa using ih
theorem pER_lt {E : List Int} : ∀ q r : Rg, rE E r → q.length = r.length → q.zipWith jn r ≠ q → pER E (q.zipWith jn r) < pER E q
  | [], r, _, _, hne => absurd (by simp) hne
  | a :: q, [], _, hl, _ => by simp at hl
  | a :: q, b :: r, h, hl, hne => by
    have h1 := pE_jn (a := a) (h b (by simp))
    have hl' : q.length = r.length := by simpa using hl
    have hr : rE E r := fun p hp => h p (by simp [hp])
    have hle : pER E (q.zipWith jn r) ≤ pER E q := by
      rcases pER_join q r hr with ih | ih
      · simpa using ih
      · exact absurd hl' ih
    simp only [List.zipWith_cons_cons, pER, List.map_cons, List.sum_cons] at hle ⊢
    by_cases h3 : jn a b = a
    · have h4 : q.zipWith jn r ≠ q := fun e => hne (by rw [List.zipWith_cons_cons, h3, e])
      have := pER_lt q r hr hl' h4
      unfold pER at this
      rw [h3]; omega
    · have := h1.2 h3; omega
theorem pE_le (E : List Int) (p : Int × Int) : pE E p ≤ 2 * E.length := by
  have h1 := List.countP_le_length (p := fun e => decide (e < p.1)) (l := E)
  have h2 := List.countP_le_length (p := fun e => decide (p.2 < e)) (l := E)
  unfold pE; omega
theorem pER_le (E : List Int) : ∀ r : Rg, pER E r ≤ r.length * (2 * E.length)
  | [] => by simp [pER]
  | a :: r => by
    have ih := pER_le E r
    have h := pE_le E a
    simp only [pER, List.map_cons, List.sum_cons, List.length_cons, Nat.succ_mul] at ih ⊢
    omega
def pEO (E : List Int) : Option Rg → Nat
  | none => 8 * (2 * E.length) + 1
  | some r => pER E r
def pES (E : List Int) (S : Sts) : Nat := (S.map (pEO E)).sum
theorem pES_set (E : List Int) : ∀ (S : Sts) (i : Nat) (o : Option Rg), i < S.length → pES E (S.set i o) + pEO E (S.getD i none) = pES E S + pEO E o
  | [], i, o, h => by simp at h
  | a :: S, 0, o, _ => by simp [pES]; omega
  | a :: S, i + 1, o, h => by
    have := pES_set E S i o (by simpa using h)
    simp only [pES, List.set_cons_succ, List.map_cons, List.sum_cons, List.getD_cons_succ] at this ⊢
    omega
theorem pES_none (E : List Int) : ∀ n, pES E (List.replicate n none) = n * (8 * (2 * E.length) + 1)
  | 0 => by simp [pES]
  | n + 1 => by
    have e : pES E (List.replicate (n + 1) none) = pEO E none + pES E (List.replicate n none) := by
      simp only [pES, List.replicate_succ, List.map_cons, List.sum_cons]
    have e2 : pEO E none = 8 * (2 * E.length) + 1 := rfl
    rw [e, pES_none E n, e2]
    generalize 8 * (2 * E.length) + 1 = m
    rw [Nat.succ_mul, Nat.add_comm]
/-- all ends are in the list -/
def EI (E : List Int) (S : Sts) : Prop := ∀ i r, S.getD i none = some r → rE E r
theorem flow_ends {E : List Int} {n : Nat} {S : Sts} {td : List Nat} {k : Nat} {r : Rg} (hS : okSts n S) (hE : EI E S) (hr : rE E r) (h8 : r.length = 8) (hk : k < n) :
    EI E (flow (S, td) k r).1 ∧ pES E (flow (S, td) k r).1 + (flow (S, td) k r).2.length ≤ pES E S + td.length := by
  have hl : k < S.length := by rw [hS.1]; exact hk
  unfold flow
  cases h : S.getD k none with
  | none =>
    have hp := pES_set E S k (some r) hl
    rw [h] at hp
    have := pER_le E r
    rw [h8] at this
    simp only [pEO] at hp
    dsimp only
    refine ⟨fun i q hi => ?_, by simp only [List.length_append, List.length_singleton]; omega⟩
    rw [getD_set S k i _ hl] at hi
    split at hi
    · cases hi; exact hr
    · exact hE i q hi
  | some s =>
    dsimp only
    by_cases hj : joinR s r = s
    · rw [if_pos hj]; exact ⟨hE, Nat.le_refl _⟩
    · rw [if_neg hj]
      have hs8 := (hS.2 k s h).1
      have hp := pES_set E S k (some (joinR s r)) hl
      rw [h] at hp
      have := pER_lt (E := E) s r hr (by rw [hs8, h8]) hj
      simp only [pEO] at hp
      refine ⟨fun i q hi => ?_, by simp only [List.length_append, List.length_singleton]; unfold joinR at hp; unfold joinR; omega⟩
      rw [getD_set S k i _ hl] at hi
      split at hi
      · cases hi
        intro x hx
        unfold joinR at hx
        obtain ⟨j, hj', rfl⟩ := List.getElem_of_mem hx
        rw [List.getElem_zipWith]
        exact jn_inE (hE k s h _ (List.getElem_mem _)) (hr _ (List.getElem_mem _))
      · exact hE i q hi
theorem flowO_ends {E : List Int} {n : Nat} {S : Sts} {td : List Nat} {k : Nat} {o : Option Rg} (hS : okSts n S) (hE : EI E S) (ho : ∀ r, o = some r → rE E r ∧ r.length = 8 ∧ k < n) :
    EI E (flowO (S, td) k o).1 ∧ pES E (flowO (S, td) k o).1 + (flowO (S, td) k o).2.length ≤ pES E S + td.length := by
  cases o with
  | none => exact ⟨hE, Nat.le_refl _⟩
  | some r => obtain ⟨a, b, c⟩ := ho r rfl; exact flow_ends hS hE a b c
theorem rE_set {E : List Int} {r : Rg} (h : rE E r) (a : Nat) {v : Int × Int} (hv : inE E v) : rE E (r.set a v) := fun p hp => by
  rcases List.mem_or_eq_of_mem_set hp with hp | rfl
  · exact h p hp
  · exact hv
theorem rE_get {E : List Int} {r : Rg} (h : rE E r) {k : Nat} (hk : k < r.length) : inE E (rget r k) := by
  have : rget r k = r[k] := by simp [rget, List.getD, List.getElem?_eq_getElem hk]
  rw [this]; exact h _ (List.getElem_mem _)
/-- what a program's ranges may end at -/
def endsL (of : List (Int × Int)) (code : List (Nat → Int)) : List Int := [0, 255] ++ (code.flatMap fun x => [x 2, x 2 + 1, x 2 - 1]) ++ of.flatMap fun s => [s.1, s.2]
theorem flat_len {α : Type} (f : α → List Int) (k : Nat) (hf : ∀ x, (f x).length = k) : ∀ l : List α, (l.flatMap f).length = l.length * k
  | [] => by simp
  | a :: l => by rw [List.flatMap_cons, List.length_append, hf, flat_len f k hf l, List.length_cons, Nat.succ_mul]; omega
theorem endsL_len (of : List (Int × Int)) (code : List (Nat → Int)) : (endsL of code).length = 2 + code.length * 3 + of.length * 2 := by
  unfold endsL
  rw [List.length_append, List.length_append, flat_len _ 3 (fun _ => rfl), flat_len _ 2 (fun _ => rfl)]
  rfl
theorem ends_x {of : List (Int × Int)} {code : List (Nat → Int)} {i : Nat} {x : Nat → Int} (hx : code[i]? = some x) : x 2 ∈ endsL of code ∧ x 2 + 1 ∈ endsL of code ∧ x 2 - 1 ∈ endsL of code := by
  have hm := List.mem_of_getElem? hx
  unfold endsL
  refine ⟨?_, ?_, ?_⟩
  all_goals
    refine List.mem_append_left _ (List.mem_append_right _ (List.mem_flatMap.2 ⟨x, hm, ?_⟩))
    simp
theorem ends_of {of : List (Int × Int)} {code : List (Nat → Int)} {k : Nat} (hk : k < of.length) : inE (endsL of code) (of.getD k (0, 0)) := by
  have hm : of.getD k (0, 0) ∈ of := by rw [List.getD_eq_getElem?_getD, List.getElem?_eq_getElem hk]; exact List.getElem_mem hk
  unfold endsL inE
  exact ⟨List.mem_append_right _ (List.mem_flatMap.2 ⟨_, hm, by simp⟩), List.mem_append_right _ (List.mem_flatMap.2 ⟨_, hm, by simp⟩)⟩
theorem ends_0 (of : List (Int × Int)) (code : List (Nat → Int)) : inE (endsL of code) (0, 0) ∧ inE (endsL of code) (0, 255) := by
  unfold endsL inE; simp
section
variable {of : List (Int × Int)} {code : List (Nat → Int)} {i : Nat} {x : Nat → Int} {r q : Rg}
theorem goN_ends (hx : code[i]? = some x) (hk : XOk of x) (ht : x 0 = 8 → (x 4).toNat < of.length) (h8 : r.length = 8) (hr : rE (endsL of code) r) (h : goN of x r = some q) : rE (endsL of code) q ∧ q.length = 8 := by
  obtain ⟨e1, e2, e3⟩ := ends_x (of := of) hx
  have ha : inE (endsL of code) (rA x r) := rE_get hr (by have := hk.a; omega)
  have hs : ∀ {v : Int × Int}, inE (endsL of code) v → rE (endsL of code) (sA x r v) ∧ (sA x r v).length = 8 := fun hv => ⟨rE_set hr _ hv, by simp [sA, h8]⟩
  unfold goN at h
  by_cases h1 : x 0 = 1
  · rw [if_pos h1] at h; cases h
  rw [if_neg h1] at h
  by_cases h2 : x 0 = 2
  · rw [if_pos h2] at h; cases h; exact hs ⟨e1, e1⟩
  rw [if_neg h2] at h
  by_cases h3 : x 0 = 3
  · rw [if_pos h3] at h; cases h; exact hs (rE_get hr (by have := hk.m h3; omega))
  rw [if_neg h3] at h
  by_cases h4 : x 0 = 4
  · rw [if_pos h4] at h; cases h
  rw [if_neg h4] at h
  by_cases h5 : x 0 = 5
  · rw [if_pos h5, ifIn] at h
    split at h
    · cases h
      refine hs ⟨?_, ?_⟩
      · unfold sameB; dsimp only
        split
        · rename_i e; rw [e]; exact e2
        · exact ha.1
      · unfold sameB; dsimp only
        split
        · rename_i e; rw [e]; exact e3
        · exact ha.2
    · cases h
  rw [if_neg h5] at h
  by_cases h6 : x 0 = 6
  · rw [if_pos h6, ifIn] at h
    split at h
    · cases h
      refine hs ⟨?_, ha.2⟩
      dsimp only
      rcases (by omega : max (rA x r).1 (x 2) = (rA x r).1 ∨ max (rA x r).1 (x 2) = x 2) with e | e <;> rw [e]
      · exact ha.1
      · exact e1
    · cases h
  rw [if_neg h6] at h
  by_cases h7 : x 0 = 7
  · rw [if_pos h7] at h; cases h; exact hs (ends_0 of code).2
  rw [if_neg h7] at h
  by_cases h8' : x 0 = 8
  · rw [if_pos h8'] at h; cases h; exact hs (ends_of (ht h8'))
  rw [if_neg h8'] at h
  cases h; exact ⟨hr, h8⟩
theorem goF_ends (hx : code[i]? = some x) (hk : XOk of x) (h8 : r.length = 8) (hr : rE (endsL of code) r) (h : goF x r = some q) : rE (endsL of code) q ∧ q.length = 8 := by
  obtain ⟨e1, e2, e3⟩ := ends_x (of := of) hx
  have ha : inE (endsL of code) (rA x r) := rE_get hr (by have := hk.a; omega)
  have hs : ∀ {v : Int × Int}, inE (endsL of code) v → rE (endsL of code) (sA x r v) ∧ (sA x r v).length = 8 := fun hv => ⟨rE_set hr _ hv, by simp [sA, h8]⟩
  unfold goF at h
  by_cases h4 : x 0 = 4
  · rw [if_pos h4] at h; cases h; exact ⟨hr, h8⟩
  rw [if_neg h4] at h
  by_cases h5 : x 0 = 5
  · rw [if_pos h5, ifIn] at h
    split at h
    · cases h; exact hs ⟨e1, e1⟩
    · cases h
  rw [if_neg h5] at h
  by_cases h6 : x 0 = 6
  · rw [if_pos h6, ifIn] at h
    split at h
    · cases h
      refine hs ⟨ha.1, ?_⟩
      dsimp only
      rcases (by omega : min (rA x r).2 (x 2 - 1) = (rA x r).2 ∨ min (rA x r).2 (x 2 - 1) = x 2 - 1) with e | e <;> rw [e]
      · exact ha.2
      · exact e3
    · cases h
  rw [if_neg h6] at h
  by_cases h7 : x 0 = 7
  · rw [if_pos h7] at h; cases h; exact ⟨hr, h8⟩
  rw [if_neg h7] at h
  by_cases h11 : x 0 = 11
  · rw [if_pos h11] at h; cases h; exact ⟨hr, h8⟩
  rw [if_neg h11] at h; cases h
end
theorem iniR_E (of : List (Int × Int)) (code : List (Nat → Int)) : rE (endsL of code) iniR := fun p hp => by
  rw [List.eq_of_mem_replicate hp]; exact (ends_0 of code).1
theorem none_E (E : List Int) (n : Nat) : EI E (List.replicate n none) := fun i r h => by rw [none_at] at h; cases h
end Go.Proofs.Ytbomloodllddaaa
