/- Plain laws: registers' ranges, what flows on, the least solution (P23.2). No conditions; no program. -/
import Derived.Test.YtbomloodllddaaaPk08
namespace Go.Proofs.Ytbomloodllddaaa
open Go.RowKit
/-- eight registers' ranges -/
abbrev Rg := List (Int × Int)
abbrev Sts := List (Option Rg)
def rget (r : Rg) (k : Nat) : Int × Int := r.getD k (0, 0)
def rle (r q : Rg) : Prop := ∀ k, k < 8 → (rget q k).1 ≤ (rget r k).1 ∧ (rget r k).2 ≤ (rget q k).2
theorem rle.refl (r : Rg) : rle r r := fun _ _ => ⟨Int.le_refl _, Int.le_refl _⟩
theorem rle.trans {r q s : Rg} (h : rle r q) (h' : rle q s) : rle r s := fun k hk => ⟨Int.le_trans (h' k hk).1 (h k hk).1, Int.le_trans (h k hk).2 (h' k hk).2⟩
theorem rle.anti {r q : Rg} (hr : r.length = 8) (hq : q.length = 8) (h : rle r q) (h' : rle q r) : r = q := by
  apply List.ext_getElem (by rw [hr, hq])
  intro k h1 h2
  have a := h k (by omega)
  have b := h' k (by omega)
  have e1 : rget r k = r[k] := by simp [rget, List.getD, List.getElem?_eq_getElem h1]
  have e2 : rget q k = q[k] := by simp [rget, List.getD, List.getElem?_eq_getElem h2]
  rw [e1, e2] at a b
  exact Prod.ext (Int.le_antisymm b.1 a.1) (Int.le_antisymm a.2 b.2)
theorem rget_set (r : Rg) (hr : r.length = 8) (a : Nat) (v : Int × Int) (k : Nat) (hk : k < 8) : rget (r.set a v) k = if a = k then v else rget r k := by
  simp only [rget, List.getD, List.getElem?_set]
  by_cases h : a = k
  · subst h; rw [if_pos rfl, if_pos rfl, if_pos (by omega)]; rfl
  · rw [if_neg h, if_neg h]
theorem rle_set {r q : Rg} (hr : r.length = 8) (hq : q.length = 8) (h : rle r q) (a : Nat) {v u : Int × Int} (hv : u.1 ≤ v.1 ∧ v.2 ≤ u.2) : rle (r.set a v) (q.set a u) := fun k hk => by
  rw [rget_set r hr a v k hk, rget_set q hq a u k hk]
  by_cases e : a = k
  · rw [if_pos e, if_pos e]; exact hv
  · rw [if_neg e, if_neg e]; exact h k hk
/-- what follows of an instruction: behind it, at its place -/
def sameB (a : Int × Int) (b : Int) : Int × Int := (if a.1 = b then a.1 + 1 else a.1, if a.2 = b then a.2 - 1 else a.2)
def ifIn (c : Prop) [Decidable c] (r : Rg) : Option Rg := if c then some r else none
def rA (x : Nat → Int) (r : Rg) : Int × Int := rget r (x 1).toNat
def sA (x : Nat → Int) (r : Rg) (v : Int × Int) : Rg := r.set (x 1).toNat v
def goN (of : List (Int × Int)) (x : Nat → Int) (r : Rg) : Option Rg :=
  if x 0 = 1 then none else if x 0 = 2 then some (sA x r (x 2, x 2)) else if x 0 = 3 then some (sA x r (rget r (x 2).toNat)) else if x 0 = 4 then none
  else if x 0 = 5 then ifIn ((sameB (rA x r) (x 2)).1 ≤ (sameB (rA x r) (x 2)).2) (sA x r (sameB (rA x r) (x 2)))
  else if x 0 = 6 then ifIn (max (rA x r).1 (x 2) ≤ (rA x r).2) (sA x r (max (rA x r).1 (x 2), (rA x r).2))
  else if x 0 = 7 then some (sA x r (0, 255)) else if x 0 = 8 then some (sA x r (of.getD (x 4).toNat (0, 0))) else some r
def goF (x : Nat → Int) (r : Rg) : Option Rg :=
  if x 0 = 4 then some r else if x 0 = 5 then ifIn ((rA x r).1 ≤ x 2 ∧ x 2 ≤ (rA x r).2) (sA x r (x 2, x 2))
  else if x 0 = 6 then ifIn ((rA x r).1 ≤ min (rA x r).2 (x 2 - 1)) (sA x r ((rA x r).1, min (rA x r).2 (x 2 - 1)))
  else if x 0 = 7 then some r else if x 0 = 11 then some r else none
def ole (o p : Option Rg) : Prop := ∀ r, o = some r → ∃ q, p = some q ∧ rle r q
theorem ole.refl (o : Option Rg) : ole o o := fun r h => ⟨r, h, rle.refl r⟩
theorem ole.trans {o p s : Option Rg} (h : ole o p) (h' : ole p s) : ole o s := fun r hr => by
  obtain ⟨q, hq, h1⟩ := h r hr
  obtain ⟨t, ht, h2⟩ := h' q hq
  exact ⟨t, ht, h1.trans h2⟩
theorem ole_some {r q : Rg} (h : rle r q) : ole (some r) (some q) := fun s hs => ⟨q, rfl, by simp at hs; subst hs; exact h⟩
theorem ole_none (p : Option Rg) : ole none p := fun _ h => by cases h
theorem ole_if {c d : Prop} [Decidable c] [Decidable d] {r q : Rg} (hc : c → d) (h : rle r q) : ole (ifIn c r) (ifIn d q) := by
  unfold ifIn
  by_cases h1 : c
  · rw [if_pos h1, if_pos (hc h1)]; exact ole_some h
  · rw [if_neg h1]; exact ole_none _
theorem ole.len {o p : Option Rg} (h : ole o p) {r : Rg} (hr : o = some r) : p ≠ none := by
  obtain ⟨q, hq, _⟩ := h r hr; rw [hq]; simp
theorem sameB_mono {a a' : Int × Int} {b : Int} (h : a'.1 ≤ a.1 ∧ a.2 ≤ a'.2) : (sameB a' b).1 ≤ (sameB a b).1 ∧ (sameB a b).2 ≤ (sameB a' b).2 := by
  obtain ⟨l, u⟩ := a; obtain ⟨l', u'⟩ := a'
  simp only [sameB] at h ⊢
  constructor
  · split <;> split <;> omega
  · split <;> split <;> omega
section
variable {of : List (Int × Int)} {x : Nat → Int} {r q : Rg}
theorem goN_mono (hx : 0 ≤ x 1 ∧ x 1 ≤ 7) (hx2 : x 0 = 3 → 0 ≤ x 2 ∧ x 2 ≤ 7) (hr : r.length = 8) (hq : q.length = 8) (h : rle r q) : ole (goN of x r) (goN of x q) := by
  have ha := h (x 1).toNat (by omega)
  have hs : ∀ {v u : Int × Int}, (u.1 ≤ v.1 ∧ v.2 ≤ u.2) → rle (sA x r v) (sA x q u) := fun hv => rle_set hr hq h _ hv
  unfold goN
  by_cases h1 : x 0 = 1
  · rw [if_pos h1]; exact ole_none _
  rw [if_neg h1, if_neg h1]
  by_cases h2 : x 0 = 2
  · rw [if_pos h2, if_pos h2]; exact ole_some (hs ⟨Int.le_refl _, Int.le_refl _⟩)
  rw [if_neg h2, if_neg h2]
  by_cases h3 : x 0 = 3
  · rw [if_pos h3, if_pos h3]; exact ole_some (hs (h _ (by have := hx2 h3; omega)))
  rw [if_neg h3, if_neg h3]
  by_cases h4 : x 0 = 4
  · rw [if_pos h4]; exact ole_none _
  rw [if_neg h4, if_neg h4]
  by_cases h5 : x 0 = 5
  · rw [if_pos h5, if_pos h5]
    have hm := sameB_mono (b := x 2) ha
    exact ole_if (fun hc => Int.le_trans hm.1 (Int.le_trans hc hm.2)) (hs hm)
  rw [if_neg h5, if_neg h5]
  by_cases h6 : x 0 = 6
  · rw [if_pos h6, if_pos h6]
    refine ole_if (fun hc => ?_) (hs ⟨?_, ?_⟩)
    · unfold rA at hc ⊢; have := ha.1; have := ha.2; omega
    · unfold rA; have := ha.1; dsimp only; omega
    · exact ha.2
  rw [if_neg h6, if_neg h6]
  by_cases h7 : x 0 = 7
  · rw [if_pos h7, if_pos h7]; exact ole_some (hs ⟨Int.le_refl _, Int.le_refl _⟩)
  rw [if_neg h7, if_neg h7]
  by_cases h8 : x 0 = 8
  · rw [if_pos h8, if_pos h8]; exact ole_some (hs ⟨Int.le_refl _, Int.le_refl _⟩)
  rw [if_neg h8, if_neg h8]
  exact ole_some h
theorem goF_mono (hx : 0 ≤ x 1 ∧ x 1 ≤ 7) (hr : r.length = 8) (hq : q.length = 8) (h : rle r q) : ole (goF x r) (goF x q) := by
  have ha := h (x 1).toNat (by omega)
  have hs : ∀ {v u : Int × Int}, (u.1 ≤ v.1 ∧ v.2 ≤ u.2) → rle (sA x r v) (sA x q u) := fun hv => rle_set hr hq h _ hv
  unfold goF
  by_cases h4 : x 0 = 4
  · rw [if_pos h4, if_pos h4]; exact ole_some h
  rw [if_neg h4, if_neg h4]
  by_cases h5 : x 0 = 5
  · rw [if_pos h5, if_pos h5]
    refine ole_if (fun hc => ?_) (hs ⟨Int.le_refl _, Int.le_refl _⟩)
    unfold rA at hc ⊢; have := ha.1; have := ha.2; omega
  rw [if_neg h5, if_neg h5]
  by_cases h6 : x 0 = 6
  · rw [if_pos h6, if_pos h6]
    refine ole_if (fun hc => ?_) (hs ⟨?_, ?_⟩)
    · unfold rA at hc ⊢; have := ha.1; have := ha.2; omega
    · exact ha.1
    · unfold rA; have := ha.2; dsimp only; omega
  rw [if_neg h6, if_neg h6]
  by_cases h7 : x 0 = 7
  · rw [if_pos h7, if_pos h7]; exact ole_some h
  rw [if_neg h7, if_neg h7]
  by_cases h11 : x 0 = 11
  · rw [if_pos h11, if_pos h11]; exact ole_some h
  rw [if_neg h11]; exact ole_none _
end
/-- ranges that can be -/
def okS (p : Int × Int) : Prop := 0 ≤ p.1 ∧ p.1 ≤ p.2 ∧ p.2 ≤ 1073741824
def okR (r : Rg) : Prop := r.length = 8 ∧ ∀ p ∈ r, okS p
theorem okR.get {r : Rg} (h : okR r) {k : Nat} (hk : k < 8) : okS (rget r k) := by
  have : rget r k = r[k]'(by rw [h.1]; exact hk) := by simp [rget, List.getD, List.getElem?_eq_getElem (show k < r.length by rw [h.1]; exact hk)]
  rw [this]; exact h.2 _ (List.getElem_mem _)
theorem okR.set {r : Rg} (h : okR r) (a : Nat) {v : Int × Int} (hv : okS v) : okR (r.set a v) := by
  refine ⟨by simp [h.1], fun p hp => ?_⟩
  rcases List.mem_or_eq_of_mem_set hp with hp | rfl
  · exact h.2 p hp
  · exact hv
def iniR : Rg := List.replicate 8 (0, 0)
theorem iniR_ok : okR iniR := ⟨rfl, fun p hp => by rw [List.eq_of_mem_replicate hp]; exact ⟨by decide, by decide, by decide⟩⟩
section
variable {of : List (Int × Int)} {x : Nat → Int} {r : Rg}
/-- what an instruction that may be asks of a program for its flow -/
structure XOk (of : List (Int × Int)) (x : Nat → Int) : Prop where
  a : 0 ≤ x 1 ∧ x 1 ≤ 7
  m : x 0 = 3 → 0 ≤ x 2 ∧ x 2 ≤ 7
  n : x 0 = 2 ∨ x 0 = 5 ∨ x 0 = 6 → 0 ≤ x 2 ∧ x 2 ≤ 1073741824
  t : x 0 = 8 → okS (of.getD (x 4).toNat (0, 0))
theorem okS_same {a : Int × Int} {b : Int} (h : okS a) (hc : (sameB a b).1 ≤ (sameB a b).2) : okS (sameB a b) := by
  obtain ⟨l, u⟩ := a
  simp only [okS, sameB] at h hc ⊢
  refine ⟨?_, hc, ?_⟩
  · split <;> omega
  · split <;> omega
theorem goN_ok (hx : XOk of x) (hr : okR r) {q : Rg} (h : goN of x r = some q) : okR q := by
  have ha := hr.get (k := (x 1).toNat) (by have := hx.a; omega)
  unfold goN at h
  by_cases h1 : x 0 = 1
  · rw [if_pos h1] at h; cases h
  rw [if_neg h1] at h
  by_cases h2 : x 0 = 2
  · rw [if_pos h2] at h; cases h
    have := hx.n (.inl h2)
    exact hr.set _ ⟨this.1, Int.le_refl _, this.2⟩
  rw [if_neg h2] at h
  by_cases h3 : x 0 = 3
  · rw [if_pos h3] at h; cases h
    exact hr.set _ (hr.get (by have := hx.m h3; omega))
  rw [if_neg h3] at h
  by_cases h4 : x 0 = 4
  · rw [if_pos h4] at h; cases h
  rw [if_neg h4] at h
  by_cases h5 : x 0 = 5
  · rw [if_pos h5, ifIn] at h
    split at h
    · cases h; rename_i hc; exact hr.set _ (okS_same ha hc)
    · cases h
  rw [if_neg h5] at h
  by_cases h6 : x 0 = 6
  · rw [if_pos h6, ifIn] at h
    split at h
    · cases h; rename_i hc
      refine hr.set _ ⟨?_, hc, ha.2.2⟩
      have := ha.1; unfold rA; dsimp only; omega
    · cases h
  rw [if_neg h6] at h
  by_cases h7 : x 0 = 7
  · rw [if_pos h7] at h; cases h
    exact hr.set _ ⟨by decide, by decide, by decide⟩
  rw [if_neg h7] at h
  by_cases h8 : x 0 = 8
  · rw [if_pos h8] at h; cases h
    exact hr.set _ (hx.t h8)
  rw [if_neg h8] at h
  cases h; exact hr
theorem goF_ok (hx : XOk of x) (hr : okR r) {q : Rg} (h : goF x r = some q) : okR q := by
  have ha := hr.get (k := (x 1).toNat) (by have := hx.a; omega)
  unfold goF at h
  by_cases h4 : x 0 = 4
  · rw [if_pos h4] at h; cases h; exact hr
  rw [if_neg h4] at h
  by_cases h5 : x 0 = 5
  · rw [if_pos h5, ifIn] at h
    split at h
    · cases h
      have := hx.n (.inr (.inl h5))
      exact hr.set _ ⟨this.1, Int.le_refl _, this.2⟩
    · cases h
  rw [if_neg h5] at h
  by_cases h6 : x 0 = 6
  · rw [if_pos h6, ifIn] at h
    split at h
    · cases h; rename_i hc
      refine hr.set _ ⟨ha.1, hc, ?_⟩
      have := ha.2.2; unfold rA; dsimp only; omega
    · cases h
  rw [if_neg h6] at h
  by_cases h7 : x 0 = 7
  · rw [if_pos h7] at h; cases h; exact hr
  rw [if_neg h7] at h
  by_cases h11 : x 0 = 11
  · rw [if_pos h11] at h; cases h; exact hr
  rw [if_neg h11] at h; cases h
end
/-- two ranges in one -/
def jn (a b : Int × Int) : Int × Int := (min a.1 b.1, max a.2 b.2)
def joinR (q r : Rg) : Rg := q.zipWith jn r
theorem joinR_len {q r : Rg} (hq : q.length = 8) (hr : r.length = 8) : (joinR q r).length = 8 := by simp [joinR, hq, hr]
theorem joinR_get {q r : Rg} (hq : q.length = 8) (hr : r.length = 8) {k : Nat} (hk : k < 8) : rget (joinR q r) k = jn (rget q k) (rget r k) := by
  have h1 : k < q.length := by omega
  have h2 : k < r.length := by omega
  simp [rget, joinR, List.getD, List.getElem?_zipWith, List.getElem?_eq_getElem h1, List.getElem?_eq_getElem h2]
theorem joinR_l {q r : Rg} (hq : q.length = 8) (hr : r.length = 8) : rle q (joinR q r) := fun k hk => by
  rw [joinR_get hq hr hk]; unfold jn; dsimp only; omega
theorem joinR_r {q r : Rg} (hq : q.length = 8) (hr : r.length = 8) : rle r (joinR q r) := fun k hk => by
  rw [joinR_get hq hr hk]; unfold jn; dsimp only; omega
theorem joinR_least {q r s : Rg} (hq : q.length = 8) (hr : r.length = 8) (h1 : rle q s) (h2 : rle r s) : rle (joinR q r) s := fun k hk => by
  rw [joinR_get hq hr hk]
  have := h1 k hk; have := h2 k hk
  unfold jn; dsimp only; omega
theorem joinR_ok {q r : Rg} (hq : okR q) (hr : okR r) : okR (joinR q r) := by
  refine ⟨joinR_len hq.1 hr.1, fun p hp => ?_⟩
  obtain ⟨k, hk, rfl⟩ := List.getElem_of_mem hp
  rw [joinR_len hq.1 hr.1] at hk
  have e : rget (joinR q r) k = (joinR q r)[k]'(by rw [joinR_len hq.1 hr.1]; exact hk) := by simp [rget, List.getD, List.getElem?_eq_getElem (show k < (joinR q r).length by rw [joinR_len hq.1 hr.1]; exact hk)]
  rw [← e, joinR_get hq.1 hr.1 hk]
  have a := hq.get hk; have b := hr.get hk
  unfold okS at a b ⊢; unfold jn; dsimp only; omega
/-! ### how often it can become wider -/
def potP (p : Int × Int) : Nat := (1073741824 - p.2).toNat + p.1.toNat
def potR (r : Rg) : Nat := (r.map potP).sum
theorem pot_join : ∀ q r : Rg, (∀ p ∈ q, okS p) → (∀ p ∈ r, okS p) → q.length = r.length → potR (q.zipWith jn r) ≤ potR q ∧ (q.zipWith jn r ≠ q → potR (q.zipWith jn r) < potR q)
  | [], r, _, _, _ => ⟨Nat.le_refl _, fun h => absurd (show List.zipWith jn [] r = [] by simp) h⟩
  | a :: q, [], _, _, h => by simp at h
  | a :: q, b :: r, ha, hb, h => by
    have ih := pot_join q r (fun p hp => ha p (by simp [hp])) (fun p hp => hb p (by simp [hp])) (by simpa using h)
    have h1 := ha a (by simp); have h2 := hb b (by simp)
    have e : potP (jn a b) ≤ potP a ∧ (jn a b ≠ a → potP (jn a b) < potP a) := by
      obtain ⟨l, u⟩ := a; obtain ⟨l', u'⟩ := b
      simp only [okS, potP, jn] at h1 h2 ⊢
      refine ⟨by omega, fun hne => ?_⟩
      have : ¬ (min l l' = l ∧ max u u' = u) := fun e => hne (by rw [e.1, e.2])
      omega
    simp only [List.zipWith_cons_cons, potR, List.map_cons, List.sum_cons] at ih ⊢
    refine ⟨by omega, fun hne => ?_⟩
    by_cases h3 : jn a b = a
    · have : q.zipWith jn r ≠ q := fun e => hne (by rw [h3, e])
      have := ih.2 this
      omega
    · have := e.2 h3
      omega
theorem potR_join {q r : Rg} (hq : okR q) (hr : okR r) (hne : joinR q r ≠ q) : potR (joinR q r) < potR q := (pot_join q r hq.2 hr.2 (by rw [hq.1, hr.1])).2 hne
theorem potR_le : ∀ r : Rg, (∀ p ∈ r, okS p) → potR r ≤ r.length * 2147483648
  | [], _ => by simp [potR]
  | a :: r, h => by
    have ih := potR_le r fun p hp => h p (by simp [hp])
    have h1 := h a (by simp)
    simp only [potR, List.map_cons, List.sum_cons, List.length_cons] at ih ⊢
    have : potP a ≤ 2147483648 := by unfold potP; unfold okS at h1; omega
    omega
def potO : Option Rg → Nat
  | none => 17179869185
  | some r => potR r
def potS (S : Sts) : Nat := (S.map potO).sum
theorem sum_set : ∀ (S : Sts) (i : Nat) (o : Option Rg), i < S.length → potS (S.set i o) + potO (S.getD i none) = potS S + potO o
  | [], i, o, h => by simp at h
  | a :: S, 0, o, _ => by simp [potS]; omega
  | a :: S, i + 1, o, h => by
    have := sum_set S i o (by simpa using h)
    simp only [potS, List.set_cons_succ, List.map_cons, List.sum_cons, List.getD_cons_succ] at this ⊢
    omega
/-! ### flowing -/
/-- ranges come to a place: the states, the places to look at -/
def flow (st : Sts × List Nat) (to : Nat) (r : Rg) : Sts × List Nat :=
  match st.1.getD to none with
  | none => (st.1.set to (some r), st.2 ++ [to])
  | some q => if joinR q r = q then st else (st.1.set to (some (joinR q r)), st.2 ++ [to])
def flowO (st : Sts × List Nat) (to : Nat) : Option Rg → Sts × List Nat
  | none => st
  | some r => flow st to r
def okSts (n : Nat) (S : Sts) : Prop := S.length = n ∧ ∀ (i : Nat) r, S.getD i none = some r → okR r
def leS (S T : Sts) : Prop := ∀ i, ole (S.getD i none) (T.getD i none)
theorem leS.refl (S : Sts) : leS S S := fun _ => ole.refl _
theorem leS.trans {S T U : Sts} (h : leS S T) (h' : leS T U) : leS S U := fun i => (h i).trans (h' i)
theorem getD_set (S : Sts) (i j : Nat) (o : Option Rg) (h : i < S.length) : (S.set i o).getD j none = if i = j then o else S.getD j none := by
  simp only [List.getD, List.getElem?_set]
  by_cases e : i = j
  · subst e; rw [if_pos rfl, if_pos rfl, if_pos h]; rfl
  · rw [if_neg e, if_neg e]
structure Flown (n : Nat) (st st' : Sts × List Nat) (to : Nat) (o : Option Rg) : Prop where
  ok : okSts n st'.1
  le : leS st.1 st'.1
  at' : ole o (st'.1.getD to none)
  same : ∀ i, i ∉ st'.2 → st'.1.getD i none = st.1.getD i none
  todo : ∀ i ∈ st.2, i ∈ st'.2
  only : ∀ i ∈ st'.2, i ∈ st.2 ∨ (i = to ∧ o ≠ none)
  least : ∀ T : Sts, leS st.1 T → ole o (T.getD to none) → (∀ i q, T.getD i none = some q → q.length = 8) → leS st'.1 T
  pot : potS st'.1 * 2 + st'.2.length ≤ potS st.1 * 2 + st.2.length
theorem flow_flown {n : Nat} {st : Sts × List Nat} {to : Nat} {r : Rg} (h : okSts n st.1) (hto : to < n) (hr : okR r) : Flown n st (flow st to r) to (some r) := by
  obtain ⟨S, l⟩ := st
  dsimp only at h
  have hl : to < S.length := by rw [h.1]; exact hto
  have hp := sum_set S to
  unfold flow
  dsimp only
  cases hq : S.getD to none with
  | none =>
    dsimp only
    refine ⟨⟨by simp [h.1], fun i q hi => ?_⟩, fun i => ?_, ?_, fun i hi => ?_, fun i hi => by simp [hi], fun i hi => by simp at hi; simpa using hi, fun T h1 h2 _ i => ?_, ?_⟩
    · rw [getD_set S to i _ hl] at hi
      split at hi
      · cases hi; exact hr
      · exact h.2 i q hi
    · rw [getD_set S to i _ hl]
      split
      · rename_i e; subst e; rw [hq]; exact ole_none _
      · exact ole.refl _
    · rw [getD_set S to to _ hl, if_pos rfl]; exact ole.refl _
    · simp only [List.mem_append, List.mem_singleton, not_or] at hi
      rw [getD_set S to i _ hl, if_neg (fun e => hi.2 e.symm)]
    · rw [getD_set S to i _ hl]
      split
      · rename_i e; subst e; exact h2
      · exact h1 i
    · have := hp (some r) hl
      rw [hq] at this
      have h8 := potR_le r hr.2
      rw [hr.1] at h8
      simp only [potO] at this
      simp only [List.length_append, List.length_singleton]
      omega
  | some q =>
    have hqo := h.2 to q hq
    dsimp only
    by_cases hj : joinR q r = q
    · rw [if_pos hj]
      refine ⟨h, leS.refl _, ?_, fun _ _ => rfl, fun _ h => h, fun _ h => .inl h, fun _ h1 _ _ => h1, Nat.le_refl _⟩
      dsimp only
      rw [hq]
      have := joinR_r hqo.1 hr.1
      rw [hj] at this
      exact ole_some this
    · rw [if_neg hj]
      refine ⟨⟨by simp [h.1], fun i q' hi => ?_⟩, fun i => ?_, ?_, fun i hi => ?_, fun i hi => by simp [hi], fun i hi => by simp at hi; simpa using hi, fun T h1 h2 h8 i => ?_, ?_⟩
      · rw [getD_set S to i _ hl] at hi
        split at hi
        · cases hi; exact joinR_ok hqo hr
        · exact h.2 i q' hi
      · rw [getD_set S to i _ hl]
        split
        · rename_i e; subst e; rw [hq]; exact ole_some (joinR_l hqo.1 hr.1)
        · exact ole.refl _
      · rw [getD_set S to to _ hl, if_pos rfl]; exact ole_some (joinR_r hqo.1 hr.1)
      · simp only [List.mem_append, List.mem_singleton, not_or] at hi
        rw [getD_set S to i _ hl, if_neg (fun e => hi.2 e.symm)]
      · rw [getD_set S to i _ hl]
        split
        · rename_i e; subst e
          obtain ⟨t, ht, h3⟩ := h2 r rfl
          obtain ⟨t', ht', h4⟩ := h1 to q hq
          rw [ht] at ht'; cases ht'
          rw [ht]; exact ole_some (joinR_least hqo.1 hr.1 h4 h3)
        · exact h1 i
      · have := hp (some (joinR q r)) hl
        rw [hq] at this
        have h8 := potR_join hqo hr hj
        simp only [potO] at this
        simp only [List.length_append, List.length_singleton]
        omega
theorem flowO_flown {n : Nat} {st : Sts × List Nat} {to : Nat} {o : Option Rg} (h : okSts n st.1) (ho : ∀ r, o = some r → to < n ∧ okR r) : Flown n st (flowO st to o) to o := by
  cases o with
  | none => exact ⟨h, leS.refl _, ole_none _, fun _ _ => rfl, fun _ h => h, fun _ h => .inl h, fun _ h1 _ _ => h1, Nat.le_refl _⟩
  | some r => exact flow_flown h (ho r rfl).1 (ho r rfl).2
/-- a whole program's code, for the flow -/
structure CodeOk (of : List (Int × Int)) (code : List (Nat → Int)) : Prop where
  pos : 0 < code.length
  ok : ∀ (i : Nat) x, code[i]? = some x → XOk of x
  c : ∀ (i : Nat) x, code[i]? = some x → 0 ≤ x 3 ∧ x 3 < code.length
  last : ∀ (i : Nat) x r, code[i]? = some x → goN of x r ≠ none → i + 1 < code.length
section
variable {of : List (Int × Int)} {code : List (Nat → Int)}
def edges (of : List (Int × Int)) (code : List (Nat → Int)) (S : Sts) (i : Nat) : Prop :=
  ∀ x r, code[i]? = some x → S.getD i none = some r → ole (goN of x r) (S.getD (i + 1) none) ∧ ole (goF x r) (S.getD (x 3).toNat none)
def len8 (S : Sts) : Prop := ∀ i q, S.getD i none = some q → q.length = 8
def Sol (of : List (Int × Int)) (code : List (Nat → Int)) (S : Sts) : Prop := len8 S ∧ ole (some iniR) (S.getD 0 none) ∧ ∀ i, edges of code S i
def Least (of : List (Int × Int)) (code : List (Nat → Int)) (S : Sts) : Prop := okSts code.length S ∧ Sol of code S ∧ ∀ T, Sol of code T → leS S T
theorem least_eq {S T : Sts} (h : Least of code S) (h' : Least of code T) : S = T := by
  have a := h.2.2 T h'.2.1
  have b := h'.2.2 S h.2.1
  apply List.ext_getElem (by rw [h.1.1, h'.1.1])
  intro i h1 h2
  have e1 : S.getD i none = S[i] := by simp [List.getD, List.getElem?_eq_getElem h1]
  have e2 : T.getD i none = T[i] := by simp [List.getD, List.getElem?_eq_getElem h2]
  rw [← e1, ← e2]
  have a := a i; have b := b i
  have l1 := h.2.1.1 i; have l2 := h'.2.1.1 i
  cases hs : S.getD i none with
  | none =>
    cases ht : T.getD i none with
    | none => rfl
    | some q => rw [hs, ht] at b; obtain ⟨_, h, _⟩ := b q rfl; cases h
  | some r =>
    cases ht : T.getD i none with
    | none => rw [hs, ht] at a; obtain ⟨_, h, _⟩ := a r rfl; cases h
    | some q =>
      rw [hs, ht] at a b
      obtain ⟨_, h, h3⟩ := a r rfl
      cases h
      obtain ⟨_, h, h4⟩ := b q rfl
      cases h
      rw [rle.anti (l1 r hs) (l2 q ht) h3 h4]
/-- what flows of an instruction flows in every solution -/
theorem sol_flow {S T : Sts} (hc : CodeOk of code) (hT : Sol of code T) (hS : okSts code.length S) (hle : leS S T) {i : Nat} {x : Nat → Int} {r : Rg} (hx : code[i]? = some x) (hr : S.getD i none = some r) :
    ole (goN of x r) (T.getD (i + 1) none) ∧ ole (goF x r) (T.getD (x 3).toNat none) := by
  obtain ⟨q, hq, h1⟩ := hle i r hr
  have h2 := hT.2.2 i x q hx hq
  have hk := hc.ok i x hx
  have l1 := (hS.2 i r hr).1; have l2 := hT.1 i q hq
  exact ⟨(goN_mono hk.a hk.m l1 l2 h1).trans h2.1, (goF_mono hk.a l1 l2 h1).trans h2.2⟩
def stepF (of : List (Int × Int)) (code : List (Nat → Int)) (st : Sts × List Nat) (i : Nat) : Sts × List Nat :=
  match code[i]?, st.1.getD i none with
  | some x, some r => flowO (flowO st (x 3).toNat (goF x r)) (i + 1) (goN of x r)
  | _, _ => st
theorem stepF_eq {st : Sts × List Nat} {i : Nat} {x : Nat → Int} {r : Rg} (hx : code[i]? = some x) (hr : st.1.getD i none = some r) : stepF of code st i = flowO (flowO st (x 3).toNat (goF x r)) (i + 1) (goN of x r) := by
  unfold stepF; rw [hx, hr]
/-- what is so while places are looked at -/
structure PI (of : List (Int × Int)) (code : List (Nat → Int)) (st : Sts × List Nat) : Prop where
  ok : okSts code.length st.1
  least : ∀ T, Sol of code T → leS st.1 T
  ini : ole (some iniR) (st.1.getD 0 none)
  todo : ∀ i ∈ st.2, i < code.length ∧ st.1.getD i none ≠ none
  edge : ∀ i, i ∉ st.2 → edges of code st.1 i
theorem okSts_none (n : Nat) : okSts n (List.replicate n none) := ⟨by simp, fun i r h => by
  simp only [List.getD, List.getElem?_replicate] at h
  split at h <;> simp at h⟩
theorem none_at (n i : Nat) : (List.replicate n (none : Option Rg)).getD i none = none := by
  simp only [List.getD, List.getElem?_replicate]
  split <;> rfl
theorem PI_start (hc : CodeOk of code) : PI of code (flow (List.replicate code.length none, []) 0 iniR) := by
  have F := flow_flown (n := code.length) (st := (List.replicate code.length none, [])) (to := 0) (r := iniR) (okSts_none _) hc.pos iniR_ok
  refine ⟨F.ok, fun T hT => F.least T (fun i => by dsimp only; rw [none_at]; exact ole_none _) hT.2.1 hT.1, F.at', fun i hi => ?_, fun i hi x r hx hr => ?_⟩
  · rcases F.only i hi with h | ⟨rfl, _⟩
    · simp at h
    · exact ⟨hc.pos, fun e => by obtain ⟨q, hq, _⟩ := F.at' _ rfl; rw [e] at hq; cases hq⟩
  · rw [F.same i hi] at hr
    dsimp only at hr
    rw [none_at] at hr; cases hr
theorem PI_step (hc : CodeOk of code) {S : Sts} {td : List Nat} {i : Nat} (h : PI of code (S, td ++ [i])) : PI of code (stepF of code (S, td) i) ∧ potS (stepF of code (S, td) i).1 * 2 + (stepF of code (S, td) i).2.length < potS S * 2 + (td ++ [i]).length := by
  obtain ⟨hi, hr⟩ := h.todo i (by simp)
  dsimp only at hr
  obtain ⟨x, hx⟩ : ∃ x, code[i]? = some x := ⟨_, List.getElem?_eq_getElem hi⟩
  obtain ⟨r, hr⟩ : ∃ r, S.getD i none = some r := by
    cases e : S.getD i none with
    | none => exact absurd e hr
    | some r => exact ⟨r, rfl⟩
  have hro := h.ok.2 i r hr
  have hk := hc.ok i x hx
  have hC := hc.c i x hx
  rw [stepF_eq (st := (S, td)) hx hr]
  have F1 := flowO_flown (n := code.length) (st := (S, td)) (to := (x 3).toNat) (o := goF x r) h.ok (fun q hq => ⟨by omega, goF_ok hk hro hq⟩)
  have F2 := flowO_flown (n := code.length) (st := flowO (S, td) (x 3).toNat (goF x r)) (to := i + 1) (o := goN of x r) F1.ok (fun q hq => ⟨hc.last i x r hx (by rw [hq]; simp), goN_ok hk hro hq⟩)
  generalize flowO (S, td) (x 3).toNat (goF x r) = s1 at F1 F2
  generalize flowO s1 (i + 1) (goN of x r) = s2 at F2
  refine ⟨⟨F2.ok, fun T hT => ?_, h.ini.trans ((F1.le 0).trans (F2.le 0)), fun j hj => ?_, fun j hj y q hy hq => ?_⟩, ?_⟩
  · have hs := sol_flow hc hT h.ok (h.least T hT) hx hr
    exact F2.least T (F1.least T (h.least T hT) hs.2 hT.1) hs.1 hT.1
  · have up : ∀ {o : Option Rg} {k : Nat}, o ≠ none → ole o (s2.1.getD k none) → s2.1.getD k none ≠ none := fun {o k} ho hle e => by
      cases o with
      | none => exact ho rfl
      | some q => obtain ⟨t, ht, _⟩ := hle q rfl; rw [e] at ht; cases ht
    rcases F2.only j hj with h1 | ⟨rfl, ho⟩
    · rcases F1.only j h1 with h2 | ⟨rfl, ho⟩
      · have h3 := h.todo j (by simp [show j ∈ td from h2])
        exact ⟨h3.1, up h3.2 ((F1.le j).trans (F2.le j))⟩
      · exact ⟨by omega, up ho (F1.at'.trans (F2.le _))⟩
    · refine ⟨?_, up ho F2.at'⟩
      exact hc.last i x r hx ho
  · have hj1 : j ∉ s1.2 := fun e => hj (F2.todo j e)
    have hj0 : j ∉ td := fun e => hj1 (F1.todo j e)
    have e1 : s2.1.getD j none = S.getD j none := (F2.same j hj).trans (F1.same j hj1)
    rw [e1] at hq
    by_cases hji : j = i
    · subst hji
      rw [hx] at hy; cases hy
      rw [hr] at hq; cases hq
      exact ⟨F2.at', F1.at'.trans (F2.le _)⟩
    · have := h.edge j (by simp [hj0, hji]) y q hy hq
      exact ⟨this.1.trans ((F1.le _).trans (F2.le _)), this.2.trans ((F1.le _).trans (F2.le _))⟩
  · have := F1.pot; have := F2.pot
    simp only [List.length_append, List.length_singleton] at *
    omega
theorem PI_end {S : Sts} (h : PI of code (S, [])) : Least of code S :=
  ⟨h.ok, ⟨fun i q hi => (h.ok.2 i q hi).1, h.ini, fun i => h.edge i (by simp)⟩, h.least⟩
/-! ### the reference's rounds: no list of places -/
/-- ranges come to a place: the states, whether one became wider -/
def wide (st : Sts × Bool) (to : Nat) (o : Option Rg) : Sts × Bool := ((flowO (st.1, []) to o).1, st.2 || !(flowO (st.1, []) to o).2.isEmpty)
def roundF (of : List (Int × Int)) (code : List (Nat → Int)) (st : Sts × Bool) (i : Nat) : Sts × Bool :=
  match code[i]?, st.1.getD i none with
  | some x, some r => wide (wide st (i + 1) (goN of x r)) (x 3).toNat (goF x r)
  | _, _ => st
/-- what is so within a round that began with the states S0 -/
structure RI (of : List (Int × Int)) (code : List (Nat → Int)) (S0 : Sts) (i : Nat) (st : Sts × Bool) : Prop where
  ok : okSts code.length st.1
  least : ∀ T, Sol of code T → leS st.1 T
  ini : ole (some iniR) (st.1.getD 0 none)
  quiet : st.2 = false → st.1 = S0 ∧ ∀ j, j < i → edges of code st.1 j
  pot : potS st.1 * 2 + (if st.2 then 1 else 0) ≤ potS S0 * 2
theorem b2n_or (b : Bool) (l : List Nat) (p q : Nat) (h : p * 2 + l.length ≤ q * 2 + 0) : p * 2 + (if (b || !l.isEmpty) then 1 else 0) ≤ q * 2 + (if b then 1 else 0) := by
  cases l with
  | nil => cases b <;> simp at h ⊢ <;> omega
  | cons a l => cases b <;> simp at h ⊢ <;> omega
theorem wide_flown {n : Nat} {st : Sts × Bool} {to : Nat} {o : Option Rg} (h : okSts n st.1) (ho : ∀ r, o = some r → to < n ∧ okR r) :
    Flown n (st.1, []) ((wide st to o).1, (flowO (st.1, []) to o).2) to o ∧ ((wide st to o).2 = false → (wide st to o).1 = st.1 ∧ st.2 = false) ∧ potS (wide st to o).1 * 2 + (if (wide st to o).2 then 1 else 0) ≤ potS st.1 * 2 + (if st.2 then 1 else 0) := by
  have F := flowO_flown (n := n) (st := (st.1, [])) (to := to) (o := o) h ho
  refine ⟨F, fun hw => ?_, ?_⟩
  · simp only [wide, Bool.or_eq_false_iff, Bool.not_eq_false', List.isEmpty_iff] at hw ⊢
    refine ⟨?_, hw.1⟩
    apply List.ext_getElem (by rw [F.ok.1]; exact h.1.symm)
    intro i h1 h2
    have := F.same i (by rw [hw.2]; simp)
    simpa [List.getD, List.getElem?_eq_getElem h1, List.getElem?_eq_getElem h2] using this
  · have := F.pot
    simp only [wide]
    exact b2n_or _ _ _ _ this
theorem RI_start {S0 : Sts} (h : okSts code.length S0) (hl : ∀ T, Sol of code T → leS S0 T) (hi : ole (some iniR) (S0.getD 0 none)) : RI of code S0 0 (S0, false) :=
  ⟨h, hl, hi, fun _ => ⟨rfl, fun j hj => absurd hj (Nat.not_lt_zero _)⟩, by simp⟩
theorem roundF_none {st : Sts × Bool} {i : Nat} (hr : st.1.getD i none = none) : roundF of code st i = st := by
  unfold roundF; rw [hr]; cases code[i]? <;> rfl
theorem roundF_eq {st : Sts × Bool} {i : Nat} {x : Nat → Int} {r : Rg} (hx : code[i]? = some x) (hr : st.1.getD i none = some r) : roundF of code st i = wide (wide st (i + 1) (goN of x r)) (x 3).toNat (goF x r) := by
  unfold roundF; rw [hx, hr]
theorem RI_step (hc : CodeOk of code) {S0 : Sts} {i : Nat} {st : Sts × Bool} (h : RI of code S0 i st) (hi : i < code.length) : RI of code S0 (i + 1) (roundF of code st i) := by
  obtain ⟨x, hx⟩ : ∃ x, code[i]? = some x := ⟨_, List.getElem?_eq_getElem hi⟩
  cases hr : st.1.getD i none with
  | none =>
    rw [roundF_none hr]
    refine ⟨h.ok, h.least, h.ini, fun hq => ⟨(h.quiet hq).1, fun j hj => ?_⟩, h.pot⟩
    rcases Nat.lt_or_ge j i with h1 | h1
    · exact (h.quiet hq).2 j h1
    · obtain rfl : j = i := by omega
      intro y q _ hq; rw [hr] at hq; cases hq
  | some r =>
    rw [roundF_eq hx hr]
    have hro := h.ok.2 i r hr
    have hk := hc.ok i x hx
    have hC := hc.c i x hx
    obtain ⟨F1, q1, p1⟩ := wide_flown (st := st) (to := i + 1) (o := goN of x r) h.ok (fun q hq => ⟨hc.last i x r hx (by rw [hq]; simp), goN_ok hk hro hq⟩)
    obtain ⟨F2, q2, p2⟩ := wide_flown (st := wide st (i + 1) (goN of x r)) (to := (x 3).toNat) (o := goF x r) F1.ok (fun q hq => ⟨by omega, goF_ok hk hro hq⟩)
    have a1 := F1.at'; have a2 := F2.at'
    have l1 := F1.le; have l2 := F2.le
    have g1 := F1.least; have g2 := F2.least
    have o2 := F2.ok
    dsimp only at a1 a2 l1 l2 g1 g2 o2
    generalize wide st (i + 1) (goN of x r) = s1 at *
    generalize wide s1 (x 3).toNat (goF x r) = s2 at *
    refine ⟨o2, fun T hT => ?_, h.ini.trans ((l1 0).trans (l2 0)), fun hq => ?_, ?_⟩
    · have hs := sol_flow hc hT h.ok (h.least T hT) hx hr
      exact g2 T (g1 T (h.least T hT) hs.1 hT.1) hs.2 hT.1
    · obtain ⟨e2, f2⟩ := q2 hq
      obtain ⟨e1, f1⟩ := q1 f2
      obtain ⟨e0, f0⟩ := h.quiet f1
      have es : s2.1 = st.1 := e2.trans e1
      refine ⟨es.trans e0, fun j hj => ?_⟩
      rcases Nat.lt_or_ge j i with hj | hj
      · rw [es]; exact f0 j hj
      · obtain rfl : j = i := by omega
        intro y q hy hq
        rw [hx] at hy; cases hy
        rw [es, hr] at hq; cases hq
        exact ⟨a1.trans (l2 _), a2⟩
    · have := h.pot; omega
theorem RI_end {S0 : Sts} {st : Sts × Bool} (h : RI of code S0 code.length st) (hq : st.2 = false) : Least of code st.1 := by
  refine ⟨h.ok, ⟨fun i q hi => (h.ok.2 i q hi).1, h.ini, fun i => ?_⟩, h.least⟩
  rcases Nat.lt_or_ge i code.length with hi | hi
  · exact (h.quiet hq).2 i hi
  · intro x r hx; rw [List.getElem?_eq_none hi] at hx; cases hx
end
end Go.Proofs.Ytbomloodllddaaa
/- Rows of structs that a call itself has made: append, reading. No conditions beyond sizes. -/
namespace Go.Proofs.Ytbomloodllddaaa
open Go.RowKit
/-- blocks of another type than e do not turn -/
def KeepB (e : TypeId) (w w' : World) : Prop := ∀ (k : Nat) cs t fz, w.heap[k]? = some (.cells cs t fz) → t ≠ e → w'.heap[k]? = some (.cells cs t fz)
theorem KeepB.refl (e : TypeId) (w : World) : KeepB e w w := fun _ _ _ _ h _ => h
theorem KeepB.trans {e : TypeId} {w w' w'' : World} (h : KeepB e w w') (h' : KeepB e w' w'') : KeepB e w w'' := fun k cs t fz hk ht => h' k cs t fz (h k cs t fz hk ht) ht
theorem KeepB.of_below {e : TypeId} {w w' : World} (h : Below w.heap.size w w') : KeepB e w w' := fun k cs t fz hk _ => by
  rw [h.block k (Array.getElem?_eq_some_iff.1 hk).1]; exact hk
/-- a row of the call's own, each element's cells by 'f' -/
def OwnR {α : Type} (f : α → List Value) (sz B : Nat) (e : TypeId) (w : World) (v : Value) (l : List α) : Prop := OwnC B e sz w v l.length (l.flatMap f)
section
variable {α : Type} {f : α → List Value} {sz B : Nat} {e : TypeId} {w : World} {v : Value} {l : List α}
theorem OwnR.nil : OwnR f sz B e w (.slice none 0 0) ([] : List α) := OwnC.nil
theorem OwnR.keep {B' : Nat} {w' : World} (h : OwnR f sz B e w v l) (hb : Below B' w w') (hB : w.heap.size ≤ B') : OwnR f sz B e w' v l := OwnC.keep h hb hB
theorem OwnR.below {g : Nat} (h : OwnR f sz B e w v l) (hg : v.ownBlock = some g) : B ≤ g ∧ g < w.heap.size := OwnC.lt h g hg
theorem OwnR.form (h : OwnR f sz B e w v l) : ∃ a cap, v = .slice a l.length cap ∧ l.length ≤ cap ∧ cap ≤ maxLen := by
  rcases h.2 with ⟨rfl, h0⟩ | ⟨g, cap, cur, fz, rfl, _, _, _, hn, hm, _⟩
  · exact ⟨none, 0, by rw [h0], by omega, Nat.zero_le _⟩
  · exact ⟨_, cap, rfl, hn, hm⟩
/-- as a slice that is read -/
theorem OwnR.row (h : OwnR f sz B e w v l) : RowOf f sz w v l := by
  rcases h.2 with ⟨rfl, h0⟩ | ⟨g, cap, cur, fz, rfl, hB, hg, hf, hn, hm, hcs, ht⟩
  · exact ⟨none, 0, by rw [h0], by omega, Nat.zero_le _, h.1, .inl h0⟩
  · refine ⟨_, cap, rfl, hn, hm, h.1, .inr ⟨g, 0, rfl, (Array.getElem?_eq_some_iff.1 hg).1, fun i hi => ?_⟩⟩
    rw [Nat.zero_add]
    exact OwnC.cell h i hi
/-- the row's block stands while only another block turns -/
theorem OwnR.other {w' : World} (h : OwnR f sz B e w v l) (hb : ∀ k, v.ownBlock = some k → w'.heap[k]? = w.heap[k]?) : OwnR f sz B e w' v l := OwnC.block h hb
theorem OwnR.typed (h : OwnR f sz B e w v l) {k : Nat} (hk : v.ownBlock = some k) : ∃ cs fz, w.heap[k]? = some (.cells cs e fz) := by
  rcases h.2 with ⟨rfl, _⟩ | ⟨g, cap, cur, fz, rfl, _, hg, _⟩
  · simp [Value.ownBlock] at hk
  · simp only [Value.ownBlock, Option.some.injEq] at hk
    subst hk; exact ⟨_, _, hg⟩
/-- 'append(l, x)': the block of x was just laid -/
theorem app_one {P : Program} {ops : Array Oper} {rest : List Oper} {o : Oper} {a : Act} {Q : Exit → Act → World → Prop} {t : TypeId} {z : Value} {cs : Array Value} (bytes : Nat) (h : Nat) (hh : h = w.heap.size) (x : α) (hf : ∀ y, (f y).length = sz) (ho : ∀ u ∈ f x, u.oneCell' = true)
    (h1 : P.underlying t = some (.slice e)) (h2 : (P.info? e).map (fun i => (i.zero, i.size, i.bytes)) = some (some z, sz, bytes)) (hzs : z.cells.size = sz)
    (hg : o.guard = none) (s x' : Operand) (hop : o.op = Op.call { callee := Callee.builtin Builtin.append, args := #[s, x'], argTypes := #[t, t] })
    (hs : a.eval s = v) (hx : a.eval x' = .slice (some ⟨h, 0, none⟩) 1 1) (hcs : cs = (f x).toArray)
    (hown : OwnR f sz B e w v l) (hB : B ≤ w.heap.size) (hbig : (l.length + 1) * bytes ≤ 140737488355328) (hlen : l.length + 1 ≤ maxLen)
    (hK : ∀ v' w', OwnR f sz B e w' v' (l ++ [x]) → Below B w w' → KeepB e w w' → w.heap.size ≤ w'.heap.size → wpList P ops Q rest (a.put o.dst v') w') :
    wpList P ops Q (o :: rest) a (w.alloc (.cells cs e)) := by
  subst hcs hh
  refine wp_append B sz bytes h1 (.inl h1) h2 hzs hg s x' hop hs 1 (f x) (by rw [hx]; exact lenOf_slice) ?_ (by rw [hf, Nat.one_mul]) ho (OwnC.alloc hown _) (by simp; omega) hbig hlen ?_
  · rw [hx]
    exact firstCells_at (by rw [hf, Nat.one_mul]) (fun j u hj => by
      rw [Addr.add_lit, Nat.zero_add, cell_of_row _ w.heap.size j _ e (0, 0) (Go.heap_alloc_new w _)]
      simpa using hj)
  · intro v' w1 hown' hgrow
    have hsz := hgrow.size
    simp at hsz
    refine hK v' w1 ?_ ?_ ?_ (by omega)
    · unfold OwnR; simpa [List.flatMap_append] using hown'
    · exact ((Below.refl _ _).alloc hB _).grown hgrow (by simp; omega) (fun k hk => (OwnC.lt hown k hk).1)
    · intro k cs t' fz hk ht
      have hkl := (Array.getElem?_eq_some_iff.1 hk).1
      rw [hgrow.block k (by simp; omega) (fun e' => ?_), Go.heap_alloc_old w _ hkl]
      · exact hk
      · obtain ⟨cs', fz', h'⟩ := hown.typed (k := k) e'.symm
        rw [hk] at h'
        simp at h'
        exact ht h'.2.1
end
/-- only block g turns, and new blocks are laid -/
structure Else (g : Nat) (w w' : World) : Prop where
  os : w'.os = w.os
  tape : w'.tape = w.tape
  output : w'.output = w.output
  size : w.heap.size ≤ w'.heap.size
  block : ∀ k, k < w.heap.size → k ≠ g → w'.heap[k]? = w.heap[k]?
theorem Else.below {g B : Nat} {w w' : World} (h : Else g w w') (hB : B ≤ g) (hg : g < w.heap.size) : Below B w w' := ⟨h.os, h.tape, h.output, h.size, fun k hk => h.block k (by omega) (by omega)⟩
theorem Else.refl (g : Nat) (w : World) : Else g w w := ⟨rfl, rfl, rfl, Nat.le_refl _, fun _ _ _ => rfl⟩
theorem Else.of_below {g : Nat} {w w' : World} (h : Below w.heap.size w w') : Else g w w' := ⟨h.os, h.tape, h.output, h.size, fun k hk _ => h.block k hk⟩
theorem Else.trans {g : Nat} {w w' w'' : World} (h : Else g w w') (h' : Else g w' w'') : Else g w w'' :=
  ⟨h'.os.trans h.os, h'.tape.trans h.tape, h'.output.trans h.output, Nat.le_trans h.size h'.size, fun k hk hne => (h'.block k (Nat.lt_of_lt_of_le hk h.size) hne).trans (h.block k hk hne)⟩
theorem Else.setCell {g : Nat} {w w' : World} (h : Else g w w') (o : Nat) (u : Value) : Else g w (w'.setCell ⟨g, o, none⟩ u) :=
  ⟨h.os, h.tape, h.output, by have := h.size; simpa [World.setCell] using this, fun k hk hne => by rw [show (w'.setCell ⟨g, o, none⟩ u).heap[k]? = w'.heap[k]? from Below.heap_setCell _ _ _ _ (by dsimp only; omega)]; exact h.block k hk hne⟩
theorem Else.row {g : Nat} {w w' : World} (h : Else g w w') {k : Nat} {o : Obj} (hk : w.heap[k]? = some o) (hne : k ≠ g) : w'.heap[k]? = some o := by
  rw [h.block k (Array.getElem?_eq_some_iff.1 hk).1 hne]; exact hk
section
variable {α : Type} {f : α → List Value} {sz B : Nat} {e : TypeId} {w : World} {v : Value} {l : List α}
theorem OwnR.els {w' : World} {g : Nat} {cs : Array Value} {t : TypeId} {fz : Nat × Nat} (h : OwnR f sz B e w v l) (he : Else g w w') (hg : w.heap[g]? = some (.cells cs t fz)) (ht : t ≠ e) : OwnR f sz B e w' v l :=
  h.other fun k hk => by
    obtain ⟨cs', fz', h'⟩ := h.typed hk
    refine he.block k (h.below hk).2 fun e' => ?_
    subst e'
    rw [hg] at h'
    simp at h'
    exact ht h'.2.1
theorem OwnR.setOther {g o : Nat} {u : Value} (h : OwnR f sz B e w v l) (hg : ∀ k, v.ownBlock = some k → k ≠ g) : OwnR f sz B e (w.setCell ⟨g, o, none⟩ u) v l :=
  h.other fun k hk => Below.heap_setCell _ _ _ _ (by have := hg k hk; dsimp only; omega)
/-- a cell of an element -/
theorem OwnR.cellAt {g cap n : Nat} (hf : ∀ x, (f x).length = sz) (h : OwnR f sz B e w (.slice (some ⟨g, 0, none⟩) n cap) l) (i : Nat) (x : α) (j : Nat) (hx : l[i]? = some x) (hj : j < sz) : w.cell? ⟨g, i * sz + j, none⟩ = (f x)[j]? := by
  have hi : i < l.length := (List.getElem?_eq_some_iff.1 hx).1
  have : (i + 1) * sz ≤ l.length * sz := Nat.mul_le_mul_right _ hi
  rw [Nat.succ_mul] at this
  obtain ⟨a, cap', hv, _⟩ := h.form
  simp only [Value.slice.injEq] at hv
  obtain ⟨rfl, rfl, rfl⟩ := hv
  rw [OwnC.cell h _ (by omega), flatMap_at hf l i x j hx hj]
theorem OwnR.somewhere (h : OwnR f sz B e w v l) (h0 : 0 < l.length) : ∃ g cap, v = .slice (some ⟨g, 0, none⟩) l.length cap := by
  rcases h.2 with ⟨_, h'⟩ | ⟨g, cap, cur, fz, rfl, _⟩
  · omega
  · exact ⟨g, cap, rfl⟩
end
end Go.Proofs.Ytbomloodllddaaa
/- An append of a whole row to a row of the call's own, as one operation. No conditions beyond sizes. -/
namespace Go.Proofs.Ytbomloodllddaaa
open Go.RowKit
theorem flatMap_lenA {α : Type} {f : α → List Value} {sz : Nat} (hf : ∀ y, (f y).length = sz) : ∀ l : List α, (l.flatMap f).length = l.length * sz
  | [] => by simp
  | a :: l => by rw [List.flatMap_cons, List.length_append, hf, flatMap_lenA hf l, List.length_cons, Nat.succ_mul]; omega
theorem app_rowW {α : Type} {f : α → List Value} {sz B : Nat} {e : TypeId} {P : Program} {w : World} {v : Value} {l0 l1 : List α} {o : Oper} {a : Act} {K : Act → World → Prop} {Q : Exit → Act → World → Prop} {t : TypeId} {z : Value} (bytes : Nat)
    (hf : ∀ y, (f y).length = sz) (ho : ∀ y, y ∈ l1 → ∀ u ∈ f y, u.oneCell' = true) (h1 : P.underlying t = some (.slice e)) (h2 : (P.info? e).map (fun i => (i.zero, i.size, i.bytes)) = some (some z, sz, bytes)) (hzs : z.cells.size = sz)
    (s x' : Operand) (hop : o.op = Op.call { callee := Callee.builtin Builtin.append, args := #[s, x'], argTypes := #[t, t] }) (hs : a.eval s = v) (hx : RowOf f sz w (a.eval x') l1)
    (hown : OwnR f sz B e w v l0) (hB : B ≤ w.heap.size) (hbig : (l0.length + l1.length) * bytes ≤ 140737488355328) (h63 : l0.length + l1.length ≤ maxLen)
    (hK : ∀ v' w', OwnR f sz B e w' v' (l0 ++ l1) → w.grownBy w' v.ownBlock → K (a.put o.dst v') w') : o.wp P a w K Q := by
  obtain ⟨i, hi, hz0, hz1, hz2⟩ := info_parts h2
  have hfl := flatMap_lenA hf l1
  obtain ⟨ad, cap, hxe, _, _, _, hc⟩ := hx
  have hlen : (Builtin.lenOf (a.eval x')).run P w = .ok l1.length w := by rw [hxe]; exact lenOf_slice
  have hfc : ∀ k : Nat, (Builtin.firstCells sz l1.length (a.eval x')).run P (w.drewN k) = .ok (l1.flatMap f).toArray (w.drewN k) := fun k => by
    rw [hxe]
    rcases hc with h0 | ⟨b, off, rfl, _, hc⟩
    · have : l1 = [] := List.eq_nil_of_length_eq_zero h0
      subst this
      cases ad with
      | none => exact firstCells_none k
      | some ad => exact firstCells_at (news := []) (by simp) (fun j u hj => by simp at hj) k
    · refine firstCells_at hfl (fun j u hj => ?_) k
      have hj' : j < (l1.flatMap f).length := (List.getElem?_eq_some_iff.1 hj).1
      rw [Addr.add_lit, hc j (by omega)]; exact hj
  have h1c : ∀ u ∈ l1.flatMap f, u.oneCell' = true := fun u hu => by
    obtain ⟨y, hm, hy⟩ := List.mem_flatMap.1 hu
    exact ho y hm u hy
  obtain ⟨v', w', hrun, r1, r2⟩ := run_append_C (P := P) w B t t o.type e i z sz bytes h1 (.inl h1) hi hz0 hz1 hz2 hzs v l0.length (l0.flatMap f) hown (a.eval x') l1.length (l1.flatMap f) hlen hfc hfl h1c hbig h63 hB
  unfold Oper.wp
  simp [execOp, hop, resolve, invoke, builtin, hs, hrun, Result.andThen]
  refine hK _ _ ?_ r2
  unfold OwnR
  rw [List.length_append, List.flatMap_append]; exact r1
theorem grown_below {B : Nat} {w w' : World} {r : Option Nat} (h : w.grownBy w' r) (hB : B ≤ w.heap.size) (hr : ∀ k, r = some k → B ≤ k) : Below B w w' :=
  (Below.refl _ _).grown h hB hr
theorem grown_obj {w w' : World} {r : Option Nat} (h : w.grownBy w' r) {g : Nat} {o : Obj} (hg : w.heap[g]? = some o) (hne : r ≠ some g) : w'.heap[g]? = some o := by
  rw [h.block g (Array.getElem?_eq_some_iff.1 hg).1 hne.symm]; exact hg
end Go.Proofs.Ytbomloodllddaaa
