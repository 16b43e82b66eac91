/- Plain: a program that is OK stays so with a text, a table, a sign more and with instructions behind it (P23.2). No conditions; no program. -/
import Derived.Test.YtkhggnlanopgkaaTabSpec
namespace Go.Proofs.Ytkhggnlanopgkaa
open Go.RowKit
/-- there are least ranges -/
theorem pi_ends {of : List (Int × Int)} {code : List (Nat → Int)} (hc : CodeOk of code) : ∀ (m : Nat) (st : Sts × List Nat), potS st.1 * 2 + st.2.length ≤ m → PI of code st → ∃ S, Least of code S
  | m, (S, []), _, h => ⟨S, PI_end h⟩
  | 0, (S, a :: td), hm, _ => by simp at hm
  | m + 1, (S, a :: td), hm, h => by
    obtain ⟨td', i, e⟩ : ∃ td' i, a :: td = td' ++ [i] := ⟨(a :: td).dropLast, (a :: td).getLast (by simp), (List.dropLast_concat_getLast (by simp)).symm⟩
    rw [e] at h hm
    obtain ⟨h1, h2⟩ := PI_step hc h
    exact pi_ends hc m _ (by dsimp only at hm; omega) h1
theorem least_is {of : List (Int × Int)} {code : List (Nat → Int)} (hc : CodeOk of code) : ∃ S, Least of code S := pi_ends hc _ _ (Nat.le_refl _) (PI_start hc)
theorem wrong_at {p : Prg} {S : Sts} (h : wrongI p S = (0, 0)) : ∀ i, i < p.code.length → badAt p S i = false := fun i hi => by
  unfold wrongI at h
  cases hf : (List.range p.code.length).find? (badAt p S) with
  | some k => rw [hf] at h; simp at h
  | none =>
    have := List.find?_eq_none.1 hf i (List.mem_range.2 hi)
    simpa using this
/-- what OK says -/
theorem ok_open {p : Prg} (h : checkI p = (0, 0)) : Whole p ∧ ∃ S, Least (ofP p) p.code S ∧ ∀ i, i < p.code.length → badAt p S i = false := by
  have h1 : (shapeI p).1 = 0 := by
    rcases Classical.em ((shapeI p).1 = 0) with h' | h'
    · exact h'
    · rw [check_shape h'] at h; rw [h] at h'; exact absurd rfl h'
  have hw := (shape_whole h1).1
  obtain ⟨S, hS⟩ := least_is hw.codeOk
  rw [check_whole h1 hS] at h
  exact ⟨hw, S, hS, wrong_at h⟩
/-- the greater program -/
def morePrg (p : Prg) (text : List UInt8) (td : List Int) (xs : List (Nat → Int)) : Prg := { p with signs := p.signs + 1, texts := p.texts ++ [text], tabs := p.tabs ++ [(1, td)], code := p.code ++ xs ++ [k2] }
theorem getD_app {α : Type} (l m : List α) (d : α) {k : Nat} (h : k < l.length) : (l ++ m).getD k d = l.getD k d := by
  rw [List.getD_eq_getElem?_getD, List.getElem?_append_left h, ← List.getD_eq_getElem?_getD]
theorem more_ok {p : Prg} {text : List UInt8} {td : List Int} {xs : List (Nat → Int)} (h : checkI p = (0, 0)) (h1 : p.texts.length ≤ 100) (h2 : p.tabs.length < 16) (h3 : text.length ≤ 4096) (h4 : p.signs < 65536) (h5 : p.code.length ≤ 80) (h6 : xs.length ≤ 20)
    (h7 : 1 ≤ td.length ∧ td.length ≤ 1000) (h8 : td.all numOk = true) (h9 : ∀ x ∈ xs, okI x = true ∧ x 3 < (p.code.length : Int) ∧ x 4 < (p.tabs.length : Int)) : checkI (morePrg p text td xs) = (0, 0) := by
  obtain ⟨hw, S, hS, hb⟩ := ok_open h
  obtain ⟨d1, d2, d3, d4, d5, d6, d7, d8⟩ := (data_iff p).1 hw.data
  have hlen : (morePrg p text td xs).code.length = p.code.length + xs.length + 1 := by simp [morePrg]; omega
  have hat : ∀ i, i < p.code.length → codeAt (morePrg p text td xs) i = codeAt p i := fun i hi => by
    unfold codeAt
    show ((p.code ++ xs) ++ [k2]).getD i _ = _
    rw [getD_app _ _ _ (by rw [List.length_append]; omega), getD_app _ _ _ hi]
  have hcase : ∀ i, i < p.code.length + xs.length + 1 → okI (codeAt (morePrg p text td xs) i) = true ∧ codeAt (morePrg p text td xs) i 3 < (p.code.length : Int) ∧ (codeAt (morePrg p text td xs) i 0 = 8 → codeAt (morePrg p text td xs) i 4 < (p.tabs.length : Int)) := fun i hi => by
    by_cases hi1 : i < p.code.length
    · rw [hat i hi1]
      obtain ⟨a, b, c⟩ := hw.at' (i := i) (x := codeAt p i) (by unfold codeAt; rw [List.getD_eq_getElem?_getD, List.getElem?_eq_getElem hi1]; rfl)
      exact ⟨a, b.2, fun h => (c h).2⟩
    · by_cases hi2 : i < p.code.length + xs.length
      · have e : codeAt (morePrg p text td xs) i ∈ xs := by
          unfold codeAt
          show ((p.code ++ xs) ++ [k2]).getD i _ ∈ xs
          rw [getD_app _ _ _ (by rw [List.length_append]; omega), List.getD_eq_getElem?_getD, List.getElem?_append_right (by omega), List.getElem?_eq_getElem (by omega)]
          exact List.getElem_mem _
        obtain ⟨a, b, c⟩ := h9 _ e
        exact ⟨a, b, fun _ => c⟩
      · have e : codeAt (morePrg p text td xs) i = k2 := by
          unfold codeAt
          show ((p.code ++ xs) ++ [k2]).getD i _ = k2
          rw [List.getD_eq_getElem?_getD, List.getElem?_append_right (by rw [List.length_append]; omega), show i - (p.code ++ xs).length = 0 by rw [List.length_append]; omega]; rfl
        rw [e]
        exact ⟨by decide, by show (0 : Int) < _; have := hw.len.1; omega, fun h => by simp [k2] at h⟩
  have hwq : Whole (morePrg p text td xs) := by
    refine ⟨(data_iff _).2 ⟨d1, d2, d3, ?_, d5, ?_, ?_, ?_⟩, by rw [hlen]; omega, fun i hi => (hcase i (by omega)).1, fun i hi => ?_, ?_⟩
    · obtain ⟨a, b, c, d⟩ := d4
      show 0 ≤ p.signs + 1 ∧ p.signs + 1 ≤ 65536 ∧ (p.tabs ++ [(1, td)]).length ≤ 16 ∧ (p.texts ++ [text]).length ≤ 4096
      simp only [List.length_append, List.length_singleton]
      omega
    · show (p.tabs ++ [((1 : Int), td)]).all tabOk = true
      rw [List.all_append, d6]
      simp [tabOk, h8]
      omega
    · show (p.texts ++ [text]).all (fun l => decide (l.length ≤ 4096)) = true
      rw [List.all_append, d7]
      simp; omega
    · show p.hash.vals.all (valOk (p.signs + 1)) = true
      rw [List.all_eq_true] at d8 ⊢
      intro v hv
      have := d8 v hv
      unfold valOk at this ⊢
      rw [decide_eq_true_eq] at this ⊢
      omega
    · obtain ⟨_, b, c⟩ := hcase i (by omega)
      unfold badJump
      rw [Bool.or_eq_false_iff, Bool.and_eq_false_iff, decide_eq_false_iff_not, decide_eq_false_iff_not, decide_eq_false_iff_not]
      refine ⟨by rw [hlen]; omega, ?_⟩
      by_cases h8' : codeAt (morePrg p text td xs) i 0 = 8
      · refine .inr ?_
        have := c h8'
        show ¬ ((p.tabs ++ [((1 : Int), td)]).length : Int) ≤ _
        rw [List.length_append, List.length_singleton]
        omega
      · exact .inl h8'
    · unfold endOk
      have e : codeAt (morePrg p text td xs) ((morePrg p text td xs).code.length - 1) = k2 := by
        rw [hlen]
        unfold codeAt
        show ((p.code ++ xs) ++ [k2]).getD _ _ = k2
        rw [List.getD_eq_getElem?_getD, List.getElem?_append_right (by rw [List.length_append]; omega), show p.code.length + xs.length + 1 - 1 - (p.code ++ xs).length = 0 by rw [List.length_append]; omega]; rfl
      rw [e]; rfl
  have hq0 : (shapeI (morePrg p text td xs)).1 = 0 := by rw [hwq.shape]
  -- the ranges
  have hof : ∀ k, k < p.tabs.length → (ofP (morePrg p text td xs)).getD k (0, 0) = (ofP p).getD k (0, 0) := fun k hk => by
    unfold ofP
    show ((p.tabs ++ [((1 : Int), td)]).map _).getD k _ = _
    rw [List.map_append, getD_app _ _ _ (by simpa using hk)]
  have hgo : ∀ i x r, p.code[i]? = some x → goN (ofP (morePrg p text td xs)) x r = goN (ofP p) x r := fun i x r hx => by
    by_cases h8' : x 0 = 8
    · have ht := (hw.at' hx).2.2 h8'
      unfold goN
      simp only [h8', if_true]
      rw [hof _ (by omega)]
    · unfold goN
      simp only [if_neg h8']
  have hcode : ∀ i x, p.code[i]? = some x → (morePrg p text td xs).code[i]? = some x := fun i x hx => by
    have hi := (List.getElem?_eq_some_iff.1 hx).1
    show ((p.code ++ xs) ++ [k2])[i]? = some x
    rw [List.getElem?_append_left (by rw [List.length_append]; omega), List.getElem?_append_left hi]; exact hx
  obtain ⟨Q, hQ⟩ : ∃ Q, Q = S ++ List.replicate (xs.length + 1) none := ⟨_, rfl⟩
  have hQg : ∀ i, Q.getD i none = S.getD i none := fun i => by
    rw [hQ]
    by_cases hi : i < S.length
    · exact getD_app _ _ _ hi
    · have e1 : S.getD i none = none := by rw [List.getD_eq_getElem?_getD, List.getElem?_eq_none (by omega)]; rfl
      rw [e1, List.getD_eq_getElem?_getD, List.getElem?_append_right (by omega), List.getElem?_replicate]
      split <;> rfl
  have hSl := hS.1.1
  have hL : Least (ofP (morePrg p text td xs)) (morePrg p text td xs).code Q := by
    refine ⟨⟨by rw [hQ, hlen]; simp; omega, fun i r hr => hS.1.2 i r (by rw [← hQg]; exact hr)⟩, ⟨fun i q hi => hS.2.1.1 i q (by rw [← hQg]; exact hi), by rw [hQg]; exact hS.2.1.2.1, fun i x r hx hr => ?_⟩, fun T hT i => ?_⟩
    · rw [hQg] at hr ⊢
      rw [hQg]
      have hi : i < p.code.length := by
        rcases Nat.lt_or_ge i p.code.length with h' | h'
        · exact h'
        · rw [List.getD_eq_getElem?_getD, List.getElem?_eq_none (by omega)] at hr; cases hr
      have hx' : p.code[i]? = some x := by
        have h0 := hcode i _ (List.getElem?_eq_getElem hi)
        rw [h0] at hx; rw [List.getElem?_eq_getElem hi]; exact hx
      rw [hgo i x r hx']
      exact hS.2.1.2.2 i x r hx' hr
    · rw [hQg]
      refine hS.2.2 T ⟨hT.1, hT.2.1, fun i x r hx hr => ?_⟩ i
      have := hT.2.2 i x r (hcode i x hx) hr
      rw [hgo i x r hx] at this
      exact this
  rw [check_whole hq0 hL]
  refine wrong_none fun i _ => ?_
  unfold badAt
  rw [hQg]
  cases hr : S.getD i none with
  | none => rfl
  | some r =>
    have hi : i < p.code.length := by
      rcases Nat.lt_or_ge i p.code.length with h' | h'
      · exact h'
      · rw [List.getD_eq_getElem?_getD, List.getElem?_eq_none (by omega)] at hr; cases hr
    have hbi := hb i hi
    unfold badAt at hbi
    rw [hr] at hbi
    dsimp only at hbi ⊢
    rw [hat i hi]
    have hx : p.code[i]? = some (codeAt p i) := by unfold codeAt; rw [List.getD_eq_getElem?_getD, List.getElem?_eq_getElem hi]; rfl
    have ht := (hw.at' hx).2.2
    generalize codeAt p i = x at hbi ht
    have hsf : safeI p x r = true := by simpa using hbi
    suffices hs : safeI (morePrg p text td xs) x r = true by rw [hs]; rfl
    by_cases e8 : x 0 = 8
    · rw [safe_8 e8] at hsf ⊢
      have : tabD (morePrg p text td xs) x = tabD p x := by
        unfold tabD
        have := ht e8
        exact getD_app _ _ _ (by omega)
      rw [this]; exact hsf
    by_cases e12 : x 0 = 12
    · rw [safe_12 e12] at hsf ⊢; exact hsf
    by_cases e13 : x 0 = 13
    · rw [safe_13 e13] at hsf ⊢
      have : (morePrg p text td xs).texts.length = p.texts.length + 1 := by simp [morePrg]
      rw [this]
      unfold inB at hsf ⊢
      simp only [Bool.and_eq_true, decide_eq_true_eq] at hsf ⊢
      omega
    by_cases e15 : x 0 = 15
    · rw [safe_15 e15] at hsf ⊢
      show inB _ 0 (p.signs + 1 - 1) = true
      unfold inB at hsf ⊢
      simp only [Bool.and_eq_true, decide_eq_true_eq] at hsf ⊢
      omega
    · exact safe_no e8 e12 e13 e15
/-- an instruction ahead of the end: not refused for itself, if it may be -/
def twoPrg (x : Nat → Int) : Prg := ⟨0, 0, 0, 0, [x, k2], [], [], ⟨[], [], []⟩⟩
theorem two_data (x : Nat → Int) : dataOk (twoPrg x) = true := by
  refine (data_iff _).2 ⟨rfl, rfl, rfl, ?_, rfl, rfl, rfl, rfl⟩
  show 0 ≤ (0 : Int) ∧ (0 : Int) ≤ 65536 ∧ 0 ≤ 16 ∧ 0 ≤ 4096; decide
theorem two_op {x : Nat → Int} (h : (checkI (twoPrg x)).1 ≠ 210) : okI x = true := by
  rcases Bool.eq_false_or_eq_true (okI x) with h' | h'
  · exact h'
  · exfalso
    have e : shapeI (twoPrg x) = (210, ((0 : Nat) : Int)) := shape_op (two_data x) (by show 1 ≤ 2 ∧ 2 ≤ 4096; decide) (by show 0 < 2; decide) (by show (!okI x) = true; rw [h']; rfl) (fun i hi => absurd hi (Nat.not_lt_zero _))
    rw [check_shape (by rw [e]; decide), e] at h
    exact h rfl
end Go.Proofs.Ytkhggnlanopgkaa
