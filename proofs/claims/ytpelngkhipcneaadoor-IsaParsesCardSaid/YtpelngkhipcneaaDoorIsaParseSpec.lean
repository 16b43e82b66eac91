/- Plain laws: lines of instructions, read (P21.4), and what is read and written again (P21.5). No conditions; no program. -/
import Derived.Test.YtpelngkhipcneaaDoorIsaReadSpec
namespace Go.Proofs.YtpelngkhipcneaaDoor
open Go.RowKit
/-- a text's first line, what stands behind it -/
def bef : List UInt8 → List UInt8
  | [] => []
  | b :: l => if b = 10 then [] else b :: bef l
def aft : List UInt8 → List UInt8
  | [] => []
  | b :: l => if b = 10 then l else aft l
theorem aft_len : ∀ l : List UInt8, l ≠ [] → (aft l).length < l.length
  | [], h => absurd rfl h
  | b :: l, _ => by
    unfold aft
    split
    · simp
    · by_cases h : l = []
      · subst h; simp [aft]
      · have := aft_len l h; simp; omega
theorem bef_len : ∀ l : List UInt8, (bef l).length ≤ l.length
  | [] => Nat.le_refl _
  | b :: l => by
    have := bef_len l
    unfold bef; split <;> simp <;> omega
theorem bef_none : ∀ l : List UInt8, (10 : UInt8) ∉ l → bef l = l ∧ aft l = []
  | [], _ => ⟨rfl, rfl⟩
  | b :: l, h => by
    simp only [List.mem_cons, not_or] at h
    have := bef_none l h.2
    unfold bef aft
    rw [if_neg (fun e => h.1 e.symm), if_neg (fun e => h.1 e.symm), this.1, this.2]
    exact ⟨rfl, rfl⟩
theorem bef_app : ∀ a b : List UInt8, (10 : UInt8) ∉ a → bef (a ++ 10 :: b) = a ∧ aft (a ++ 10 :: b) = b
  | [], b, _ => by simp [bef, aft]
  | x :: a, b, h => by
    simp only [List.mem_cons, not_or] at h
    have := bef_app a b h.2
    rw [List.cons_append, bef, aft, if_neg (fun e => h.1 e.symm), if_neg (fun e => h.1 e.symm), this.1, this.2]
    exact ⟨rfl, rfl⟩
theorem bef_aft : ∀ l : List UInt8, (10 : UInt8) ∈ l → l = bef l ++ 10 :: aft l ∧ (10 : UInt8) ∉ bef l
  | [], h => by simp at h
  | b :: l, h => by
    unfold bef aft
    by_cases hb : b = 10
    · rw [if_pos hb, if_pos hb, hb]; simp
    · rw [if_neg hb, if_neg hb]
      have := bef_aft l (by rcases List.mem_cons.1 h with h | h; exact absurd h.symm hb; exact h)
      refine ⟨by rw [List.cons_append, ← this.1], ?_⟩
      simp only [List.mem_cons, not_or]
      exact ⟨fun e => hb e.symm, this.2⟩
theorem cut_bef : ∀ l : List UInt8, Lib.cut l [10] = (bef l, aft l, decide ((10 : UInt8) ∈ l)) := by
  intro l
  by_cases h : (10 : UInt8) ∈ l
  · have hp := bef_aft l h
    have hix : ∀ a b : List UInt8, (10 : UInt8) ∉ a → Lib.index (a ++ 10 :: b) [10] = (a.length : Int) := by
      intro a
      induction a with
      | nil => intro b _; simp [Lib.index, List.isPrefixOf]
      | cons x a ih =>
        intro b hx
        simp only [List.mem_cons, not_or] at hx
        rw [List.cons_append, Lib.index, ih b hx.2]
        have : ([10] : List UInt8).isPrefixOf (x :: (a ++ 10 :: b)) = false := by simp [List.isPrefixOf, hx.1]
        rw [this]; simp
    have hi := hix (bef l) (aft l) hp.2
    rw [← hp.1] at hi
    unfold Lib.cut
    rw [hi, if_pos (by omega)]
    simp only [Int.toNat_natCast, List.length_singleton, h, decide_true, Prod.mk.injEq, and_true]
    constructor
    · have e := List.take_left (l₁ := bef l) (l₂ := 10 :: aft l)
      rw [← hp.1] at e; exact e
    · have e := List.drop_left (l₁ := bef l) (l₂ := 10 :: aft l)
      rw [← hp.1] at e
      rw [← List.drop_drop, e]; rfl
  · have hix : ∀ a : List UInt8, (10 : UInt8) ∉ a → Lib.index a [10] = -1 := by
      intro a
      induction a with
      | nil => intro _; simp [Lib.index]
      | cons x a ih =>
        intro hx
        simp only [List.mem_cons, not_or] at hx
        rw [Lib.index, ih hx.2]
        have : ([10] : List UInt8).isPrefixOf (x :: a) = false := by simp [List.isPrefixOf, hx.1]
        rw [this]; simp
    unfold Lib.cut
    rw [hix l h, if_neg (by omega)]
    rw [(bef_none l h).1, (bef_none l h).2]
    simp [h]
/-- what is read of lines: the instructions, the error, the line's number -/
noncomputable def pgo : Nat → List UInt8 → List (Nat → Int) → List (Nat → Int) × Int × Int
  | 0, _, acc => ([], 211, (acc.length : Int) + 1)
  | f + 1, s, acc => if s = [] then (acc, 0, 0) else
    match rdI (bef s) with
    | none => ([], 211, (acc.length : Int) + 1)
    | some x => if (10 : UInt8) ∉ s ∨ 4096 < acc.length + 1 then ([], 211, (acc.length : Int) + 1) else pgo f (aft s) (acc ++ [x])
noncomputable def parseI (s : List UInt8) : List (Nat → Int) × Int × Int := if 262144 < s.length then ([], 2, 0) else pgo (s.length + 1) s []
theorem parseI_long {s : List UInt8} (h : 262144 < s.length) : parseI s = ([], 2, 0) := by unfold parseI; rw [if_pos h]
theorem parseI_short {s : List UInt8} (h : ¬ 262144 < s.length) : parseI s = pgo (s.length + 1) s [] := by unfold parseI; rw [if_neg h]
theorem pgo_end (f : Nat) (acc : List (Nat → Int)) : pgo (f + 1) [] acc = (acc, 0, 0) := by rw [pgo, if_pos rfl]
theorem pgo_none {f : Nat} {s : List UInt8} {acc : List (Nat → Int)} (hs : s ≠ []) (h : rdI (bef s) = none) : pgo (f + 1) s acc = ([], 211, (acc.length : Int) + 1) := by
  rw [pgo, if_neg hs, h]
theorem pgo_bad {f : Nat} {s : List UInt8} {acc : List (Nat → Int)} {x : Nat → Int} (hs : s ≠ []) (h : rdI (bef s) = some x) (hb : (10 : UInt8) ∉ s ∨ 4096 < acc.length + 1) : pgo (f + 1) s acc = ([], 211, (acc.length : Int) + 1) := by
  rw [pgo, if_neg hs, h]; exact if_pos hb
theorem pgo_no {f : Nat} {s : List UInt8} {acc : List (Nat → Int)} (hs : s ≠ []) (hb : (10 : UInt8) ∉ s ∨ 4096 < acc.length + 1) : pgo (f + 1) s acc = ([], 211, (acc.length : Int) + 1) := by
  cases h : rdI (bef s) with
  | none => exact pgo_none hs h
  | some x => exact pgo_bad hs h hb
theorem pgo_on {f : Nat} {s : List UInt8} {acc : List (Nat → Int)} {x : Nat → Int} (hs : s ≠ []) (h : rdI (bef s) = some x) (h1 : (10 : UInt8) ∈ s) (h2 : acc.length + 1 ≤ 4096) : pgo (f + 1) s acc = pgo f (aft s) (acc ++ [x]) := by
  rw [pgo, if_neg hs, h]; exact if_neg (by simp only [not_or, Decidable.not_not]; exact ⟨h1, by omega⟩)
/-- two lists of instructions, alike -/
def agrL (a b : List (Nat → Int)) : Prop := a.length = b.length ∧ ∀ k, k < a.length → agr (a.getD k fun _ => 0) (b.getD k fun _ => 0)
theorem agrL_flat : ∀ a b : List (Nat → Int), agrL a b → a.flatMap icL = b.flatMap icL
  | [], b, h => by
    have := List.eq_nil_of_length_eq_zero h.1.symm
    subst this; rfl
  | x :: a, [], h => by have := h.1; simp at this
  | x :: a, y :: b, h => by
    have h0 := h.2 0 (by simp)
    rw [List.flatMap_cons, List.flatMap_cons]
    congr 1
    · exact agr.l h0
    · exact agrL_flat a b ⟨by have := h.1; simpa using this, fun k hk => by have := h.2 (k + 1) (by simpa using hk); simpa using this⟩
theorem agrL.nil : agrL [] [] := ⟨rfl, fun _ h => absurd h (Nat.not_lt_zero _)⟩
theorem agrL.cons {x y : Nat → Int} {a b : List (Nat → Int)} (h : agr x y) (h' : agrL a b) : agrL (x :: a) (y :: b) := by
  refine ⟨by simp [h'.1], fun k hk => ?_⟩
  cases k with
  | zero => exact h
  | succ k => simpa using h'.2 k (by simpa using hk)
theorem agrL.refl (a : List (Nat → Int)) : agrL a a := ⟨rfl, fun _ _ => agr_of fun _ _ => rfl⟩
theorem agrL.symm {a b : List (Nat → Int)} (h : agrL a b) : agrL b a := ⟨h.1.symm, fun k hk => (h.2 k (by rw [h.1]; exact hk)).symm⟩
theorem agrL.row {w : World} {v : Value} {a b : List (Nat → Int)} (h : agrL a b) (hr : RowOf icL 5 w v a) : RowOf icL 5 w v b := by
  unfold RowOf at hr ⊢
  rw [← h.1, ← agrL_flat a b h]; exact hr
theorem agrL.all {a b : List (Nat → Int)} (h : agrL a b) (ha : a.all okI = true) : b.all okI = true := by
  rw [List.all_eq_true]
  intro x hx
  obtain ⟨k, hk, rfl⟩ := List.getElem_of_mem hx
  have h1 := all_at ha (k := k) (by rw [h.1]; exact hk)
  have h2 := (h.2 k (by rw [h.1]; exact hk)).ok h1
  rwa [List.getD_eq_getElem?_getD, List.getElem?_eq_getElem hk] at h2
/-- lines that were written are read again -/
theorem pgo_back : ∀ (l : List (Nat → Int)) (f : Nat) (acc : List (Nat → Int)), l.all okI = true → acc.length + l.length ≤ 4096 → (l.flatMap fun v => lineL v ++ [10]).length < f →
    ∃ l', pgo f (l.flatMap fun v => lineL v ++ [10]) acc = (acc ++ l', 0, 0) ∧ agrL l l'
  | [], f, acc, _, _, hf => by
    obtain ⟨f, rfl⟩ : ∃ g, f = g + 1 := ⟨f - 1, by omega⟩
    exact ⟨[], by simp [pgo_end], agrL.nil⟩
  | x :: l, f, acc, ha, hl, hf => by
    obtain ⟨f, rfl⟩ : ∃ g, f = g + 1 := ⟨f - 1, by omega⟩
    simp only [List.all_cons, Bool.and_eq_true] at ha
    simp only [List.length_cons] at hl
    rw [List.flatMap_cons] at hf ⊢
    have e : lineL x ++ [10] ++ (l.flatMap fun v => lineL v ++ [10]) = lineL x ++ 10 :: (l.flatMap fun v => lineL v ++ [10]) := by simp
    rw [e] at hf ⊢
    have hb := bef_app (lineL x) (l.flatMap fun v => lineL v ++ [10]) (lineL_no10 ha.1)
    obtain ⟨y, hy, hxy⟩ := rdI_of ha.1 rfl
    obtain ⟨l', h1, h2⟩ := pgo_back l f (acc ++ [y]) ha.2 (by simp; omega) (by rw [List.length_append, List.length_cons] at hf; omega)
    refine ⟨y :: l', ?_, agrL.cons hxy h2⟩
    rw [pgo_on (by simp) (by rw [hb.1]; exact hy) (by simp) (by omega), hb.2, h1]
    simp
/-- what was read without an error are lines -/
theorem pgo_once : ∀ (f : Nat) (s : List UInt8) (acc l : List (Nat → Int)) (n : Int), pgo f s acc = (l, 0, n) → acc.length ≤ 4096 → acc.all okI = true →
    n = 0 ∧ l.length ≤ 4096 ∧ l.all okI = true ∧ ∃ m, l = acc ++ m ∧ s = m.flatMap fun v => lineL v ++ [10]
  | 0, s, acc, l, n, h, _, _ => by simp [pgo] at h
  | f + 1, s, acc, l, n, h, ha, hk => by
    by_cases hs : s = []
    · subst hs
      rw [pgo_end] at h
      simp only [Prod.mk.injEq, true_and] at h
      obtain ⟨rfl, rfl⟩ := h
      exact ⟨rfl, ha, hk, [], by simp, rfl⟩
    · cases hr : rdI (bef s) with
      | none => rw [pgo_none hs hr] at h; simp at h
      | some x =>
        by_cases hb : (10 : UInt8) ∉ s ∨ 4096 < acc.length + 1
        · rw [pgo_bad hs hr hb] at h; simp at h
        · simp only [not_or, Decidable.not_not, Nat.not_lt] at hb
          rw [pgo_on hs hr hb.1 hb.2] at h
          have hx := rdI_some hr
          obtain ⟨h1, h2, h3, m, h4, h5⟩ := pgo_once f _ _ _ _ h (by simp; omega) (by simp [hk, hx.1])
          refine ⟨h1, h2, h3, x :: m, by rw [h4]; simp, ?_⟩
          rw [List.flatMap_cons, hx.2, ← h5]
          have := (bef_aft s hb.1).1
          rw [List.append_assoc]
          exact this
theorem pgo_err : ∀ (f : Nat) (s : List UInt8) (acc l : List (Nat → Int)) (e n : Int), pgo f s acc = (l, e, n) → e ≠ 0 → l = [] ∧ 1 ≤ n ∧ e = 211
  | 0, s, acc, l, e, n, h, he => by
    simp only [pgo, Prod.mk.injEq] at h
    obtain ⟨rfl, rfl, rfl⟩ := h
    exact ⟨rfl, by omega, rfl⟩
  | f + 1, s, acc, l, e, n, h, he => by
    by_cases hs : s = []
    · subst hs
      rw [pgo_end] at h
      simp only [Prod.mk.injEq] at h
      exact absurd h.2.1.symm he
    · have no : pgo (f + 1) s acc = ([], 211, (acc.length : Int) + 1) → l = [] ∧ 1 ≤ n ∧ e = 211 := by
        intro h'
        rw [h'] at h
        simp only [Prod.mk.injEq] at h
        obtain ⟨rfl, rfl, rfl⟩ := h
        exact ⟨rfl, by omega, rfl⟩
      cases hr : rdI (bef s) with
      | none => exact no (pgo_none hs hr)
      | some x =>
        by_cases hb : (10 : UInt8) ∉ s ∨ 4096 < acc.length + 1
        · exact no (pgo_bad hs hr hb)
        · simp only [not_or, Decidable.not_not, Nat.not_lt] at hb
          rw [pgo_on hs hr hb.1 hb.2] at h
          exact pgo_err f _ _ _ _ _ h he
theorem textTo_all (l : List (Nat → Int)) : textTo l l.length = l.flatMap fun v => lineL v ++ [10] := by unfold textTo; rw [List.take_length]
theorem parseI_back {l : List (Nat → Int)} (h : l.all okI = true) (hl : l.length ≤ 1000) : ∃ l', parseI (textTo l l.length) = (l', 0, 0) ∧ agrL l l' := by
  have hlen : (textTo l l.length).length ≤ 74 * 1000 := by
    have h2 := flatMap_len (fun v => lineL v ++ [10]) 74 (l.take l.length) fun x hx => by
      have := lineL_len (List.all_eq_true.1 h x (List.mem_of_mem_take hx))
      simp; omega
    have h3 : (l.take l.length).length ≤ 1000 := by rw [List.length_take]; omega
    unfold textTo; omega
  rw [parseI_short (by omega), textTo_all]
  obtain ⟨l', h1, h2⟩ := pgo_back l _ [] h (by simp; omega) (Nat.lt_succ_self _)
  exact ⟨l', by rw [h1]; simp, h2⟩
theorem parseI_once {s : List UInt8} {l : List (Nat → Int)} {n : Int} (h : parseI s = (l, 0, n)) : n = 0 ∧ l.length ≤ 4096 ∧ l.all okI = true ∧ textTo l l.length = s := by
  by_cases hs : 262144 < s.length
  · rw [parseI_long hs] at h; simp at h
  · rw [parseI_short hs] at h
    obtain ⟨h1, h2, h3, m, h4, h5⟩ := pgo_once _ _ _ _ _ h (by simp) rfl
    simp only [List.nil_append] at h4
    subst h4
    exact ⟨h1, h2, h3, by rw [textTo_all]; exact h5.symm⟩
theorem parseI_err {s : List UInt8} {l : List (Nat → Int)} {e n : Int} (h : parseI s = (l, e, n)) (he : e ≠ 0) (hs : s.length ≤ 262144) : l = [] ∧ 1 ≤ n ∧ e = 211 := by
  rw [parseI_short (by omega)] at h
  exact pgo_err _ _ _ _ _ _ h he
end Go.Proofs.YtpelngkhipcneaaDoor
