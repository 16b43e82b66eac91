/- Plain laws: what stands behind the byte that can't stand where it stands changes nothing (P6.1). No conditions; no program. -/
import Derived.Test.YtnbfifmnigeolaaPrsLaw
namespace Go.Proofs.Ytnbfifmnigeolaa
open Go.RowKit
/-- two texts that agree up to k, where neither a digit nor a backslash stands -/
structure Agr (s s2 : List UInt8) (k : Nat) : Prop where
  l1 : k < s.length
  l2 : k < s2.length
  eq : ∀ i, i ≤ k → s.getD i 0 = s2.getD i 0
  nd : ¬ (48 ≤ bt s k ∧ bt s k ≤ 57)
  nb : bt s k ≠ 92
section
variable {s s2 : List UInt8} {k : Nat}
theorem PR.Sim.same {α : Type} {x : PR α} : x.Sim k x := by
  cases x with
  | ok a j => exact fun _ => rfl
  | bad e j => exact fun _ => rfl
  | out => trivial
theorem PR.Sim.of_eq {α : Type} {x y : PR α} (h : y = x) : x.Sim k y := by rw [h]; exact PR.Sim.same
theorem Agr.bt (h : Agr s s2 k) {i : Nat} (hi : i ≤ k) : bt s2 i = bt s i := by unfold Go.Proofs.Ytnbfifmnigeolaa.bt; rw [h.eq i hi]
theorem Agr.lt (h : Agr s s2 k) {i : Nat} (hi : i ≤ k) : (i < s2.length) = (i < s.length) := by
  have := h.l1; have := h.l2
  exact propext ⟨fun _ => by omega, fun _ => by omega⟩
theorem Agr.isC (h : Agr s s2 k) {i : Nat} (hi : i ≤ k) (c : Nat) : isC s2 i c ↔ isC s i c := by
  unfold Go.Proofs.Ytnbfifmnigeolaa.isC; rw [h.bt hi, h.lt hi]
theorem Agr.isD (h : Agr s s2 k) {i : Nat} (hi : i ≤ k) : isD s2 i ↔ isD s i := by
  unfold Go.Proofs.Ytnbfifmnigeolaa.isD; rw [h.bt hi, h.lt hi]
theorem ite_iff {α : Type} {p q : Prop} [Decidable p] [Decidable q] (h : p ↔ q) (a b : α) : (if p then a else b) = if q then a else b := by
  by_cases hq : q
  · rw [if_pos hq, if_pos (h.2 hq)]
  · rw [if_neg hq, if_neg (fun hp => hq (h.1 hp))]
theorem PR.Sim.ite {α : Type} {p q : Prop} [Decidable p] [Decidable q] {a b c d : PR α} (h : q ↔ p) (h1 : p → a.Sim k c) (h2 : ¬ p → b.Sim k d) : (if p then a else b).Sim k (if q then c else d) := by
  rw [ite_iff h]
  by_cases hp : p
  · rw [if_pos hp, if_pos hp]; exact h1 hp
  · rw [if_neg hp, if_neg hp]; exact h2 hp
theorem numR_sim (h : Agr s s2 k) {i : Nat} (hi : i ≤ s.length) (l : Nat) : (numR s l i).Sim k (numR s2 l i) := by
  by_cases hk : i ≤ k
  · by_cases hd : Go.Proofs.Ytnbfifmnigeolaa.isD s i
    · have hne : i ≠ k := fun e => h.nd (by subst e; exact hd.2)
      refine .of_eq ?_
      unfold numR
      rw [ite_iff (h.isD hk), ite_iff (h.isD (i := i + 1) (by omega)), h.bt hk, h.bt (i := i + 1) (by omega)]
    · refine .of_eq ?_
      unfold numR
      rw [if_neg hd, if_neg (fun e => hd ((h.isD hk).1 e))]
  · exact .far (numR_in hi l) (by omega)
theorem hexR_sim (h : Agr s s2 k) {i : Nat} (hi : i ≤ s.length) : (hexR s i).Sim k (hexR s2 i) := by
  by_cases hk : i ≤ k
  · refine .of_eq ?_
    unfold hexR
    rw [h.bt hk, ite_iff (Eq.to_iff (h.lt hk))]
  · exact .far (hexR_in hi) (by omega)
theorem escR_sim (h : Agr s s2 k) {i : Nat} (hi : i ≤ s.length) : (escR s i).Sim k (escR s2 i) := by
  by_cases hk : i ≤ k
  · unfold escR
    rw [h.bt hk]
    refine .ite (Eq.to_iff (h.lt hk)) (fun hlt => ?_) fun _ => .same
    refine .ite Iff.rfl (fun _ => .same) fun _ => ?_
    refine .ite Iff.rfl (fun _ => .same) fun _ => ?_
    refine .ite Iff.rfl (fun _ => .same) fun _ => ?_
    refine .ite Iff.rfl (fun _ => ?_) fun _ => .same
    refine PR.Sim.bind (n := s.length) (hexR_sim h hlt) (fun a j hx => ?_) fun a j hx hj => ?_
    · exact (hexR_in ((hexR_in (i := i + 1) hlt).okB hx).2).bind (k := 1) fun b j' h1 h2 => by simp only [PR.In]; omega
    · have hj2 := ((hexR_in (i := i + 1) hlt).okB hx).2
      exact PR.Sim.bind (n := s.length) (hexR_sim h hj2) (fun b j' hy => by have := (hexR_in hj2).okB hy; simp only [PR.In]; omega) fun b j' _ _ => .same
  · exact .far (escR_in hi) (by omega)
theorem pntR_same (h : Agr s s2 k) {i : Nat} (hk : i ≤ k) (hn : ¬ Go.Proofs.Ytnbfifmnigeolaa.isC s i 92) : pntR s2 i = pntR s i := by
  unfold pntR
  rw [if_neg hn, if_neg (fun e => hn ((h.isC hk 92).1 e)), h.bt hk]
  exact ite_iff (by rw [h.lt hk]) _ _
theorem pntR_sim (h : Agr s s2 k) {i : Nat} (hi : i ≤ s.length) : (pntR s i).Sim k (pntR s2 i) := by
  by_cases hk : i ≤ k
  · by_cases hn : Go.Proofs.Ytnbfifmnigeolaa.isC s i 92
    · unfold pntR
      rw [if_pos hn, if_pos ((h.isC hk 92).2 hn)]
      exact escR_sim h hn.1
    · exact .of_eq (pntR_same h hk hn)
  · exact .far (pntR_in hi) (by omega)
theorem Agr.notB (h : Agr s s2 k) : ¬ Go.Proofs.Ytnbfifmnigeolaa.isC s k 92 := fun e => h.nb e.2
theorem knd_same (h : Agr s s2 k) {i : Nat} (hk : i ≤ k) : (if Go.Proofs.Ytnbfifmnigeolaa.isC s2 i 92 then kndR s2 (i + 1) else none) = (if Go.Proofs.Ytnbfifmnigeolaa.isC s i 92 then kndR s (i + 1) else none) := by
  by_cases hn : Go.Proofs.Ytnbfifmnigeolaa.isC s i 92
  · have hne : i ≠ k := fun e => h.notB (e ▸ hn)
    rw [if_pos hn, if_pos ((h.isC hk 92).2 hn)]
    unfold kndR
    rw [h.bt (i := i + 1) (by omega), ite_iff (Eq.to_iff (h.lt (i := i + 1) (by omega)))]
  · rw [if_neg hn, if_neg (fun e => hn ((h.isC hk 92).1 e))]
theorem clsL_sim (h : Agr s s2 k) : ∀ (f : Nat) (a : Nat → Bool) (first : Bool) (i : Nat), i ≤ s.length → (clsL s f a first i).Sim k (clsL s2 f a first i)
  | 0, _, _, _, _ => trivial
  | f + 1, a, first, i, hi => by
    by_cases hk : i ≤ k
    · rw [clsL, clsL, knd_same h hk]
      refine .ite (by rw [h.isC hk 93]) (fun _ => .same) fun _ => ?_
      cases hK : (if Go.Proofs.Ytnbfifmnigeolaa.isC s i 92 then kndR s (i + 1) else none) with
      | some p =>
        have hc : Go.Proofs.Ytnbfifmnigeolaa.isC s i 92 ∧ kndR s (i + 1) = some p := by
          split at hK
          · exact ⟨by assumption, hK⟩
          · cases hK
        have := kndR_lt hc.2
        exact clsL_sim h f _ false (i + 2) (by omega)
      | none =>
        dsimp only
        have hin : ∀ a' j (lo : Nat), j ≤ s.length → (if Go.Proofs.Ytnbfifmnigeolaa.isC s j 45 then (pntR s (j + 1)).bind fun hi k => if hi < lo then .bad 60 (j + 1) else clsL s f (orB a (rngB lo hi)) false k else clsL s f a' false j : PR (Nat → Bool)).In j 0 s.length := fun a' j lo hj => by
          split
          · rename_i hc
            refine ((pntR_in (i := j + 1) hc.1).mono (i' := j) (k' := 1) (by omega) (by omega)).bind fun hi' k h3 h4 => ?_
            split
            · simp only [PR.In]; have := hc.1; omega
            · exact (clsL_in f _ false k h4).mono (by omega) (by omega)
          · exact (clsL_in f _ false j hj).mono (by omega) (by omega)
        refine PR.Sim.bind (n := s.length) (pntR_sim h hi) (fun lo j hx => hin _ j lo ((pntR_in hi).okB hx).2) fun lo j hx hj => ?_
        have hj2 := ((pntR_in hi).okB hx).2
        refine .ite (h.isC hj 45) (fun hc => ?_) fun _ => clsL_sim h f _ false j hj2
        rcases Nat.lt_trichotomy (j + 1) k with hlt | he | hgt
        · have hs := pntR_sim h (i := j + 1) hc.1
          cases hy : pntR s (j + 1) with
          | ok hi' k' =>
            rw [hy] at hs
            have hb := (pntR_in (i := j + 1) hc.1).okB hy
            simp only [PR.bind]
            by_cases hl : hi' < lo
            · rw [if_pos hl]; intro e; omega
            · rw [if_neg hl]
              by_cases hk' : k' ≤ k
              · rw [hs hk']
                dsimp only
                rw [if_neg hl]
                exact clsL_sim h f _ false k' hb.2
              · exact .far (clsL_in f _ false k' hb.2) (by omega)
          | bad e k' => rw [hy] at hs; intro e'; rw [hs e']; rfl
          | out => trivial
        · have hnb : ¬ Go.Proofs.Ytnbfifmnigeolaa.isC s (j + 1) 92 := by rw [he]; exact h.notB
          rw [pntR_same h (Nat.le_of_eq he) hnb]
          cases hy : pntR s (j + 1) with
          | ok hi' k' =>
            have hb := (pntR_in (i := j + 1) hc.1).okB hy
            simp only [PR.bind]
            by_cases hl : hi' < lo
            · rw [if_pos hl, if_pos hl]; exact .same
            · rw [if_neg hl, if_neg hl]
              exact .far (clsL_in f _ false k' hb.2) (by omega)
          | bad e k' => exact .same
          | out => trivial
        · refine .far (i := j + 1) (l := 0) (n := s.length) ?_ hgt
          refine (pntR_in (i := j + 1) hc.1).bind fun hi' k h3 h4 => ?_
          split
          · simp only [PR.In]; have := hc.1; omega
          · exact (clsL_in f _ false k h4).mono (by omega) (by omega)
    · exact .far (clsL_in (f + 1) a first i hi) (by omega)
theorem clsR_sim (h : Agr s s2 k) (f : Nat) {i : Nat} (hi : i ≤ s.length) : (clsR s f i).Sim k (clsR s2 f i) := by
  by_cases hk : i ≤ k
  · unfold clsR
    refine .ite (h.isC hk 94) (fun hc => ?_) fun _ => ?_
    · have h1 := clsL_sim h f (fun _ => false) true (i + 1) hc.1
      cases hx : clsL s f (fun _ => false) true (i + 1) with
      | ok a j =>
        rw [hx] at h1
        intro hj
        rw [h1 (by omega)]; rfl
      | bad e j => rw [hx] at h1; intro hj; rw [h1 hj]; rfl
      | out => trivial
    · have h1 := clsL_sim h f (fun _ => false) true i hi
      cases hx : clsL s f (fun _ => false) true i with
      | ok a j =>
        rw [hx] at h1
        intro hj
        rw [h1 (by omega)]; rfl
      | bad e j => rw [hx] at h1; intro hj; rw [h1 hj]; rfl
      | out => trivial
  · exact .far (clsR_in f hi) (by omega)
theorem bndR_sim (h : Agr s s2 k) {i : Nat} (hi : i ≤ s.length) : (bndR s i).Sim k (bndR s2 i) := by
  unfold bndR
  refine PR.Sim.bind (n := s.length) (numR_sim h hi 0) (fun a j hx => ?_) fun a j hx hj => ?_
  · have hj2 := ((numR_in hi 0).okB hx).2
    split
    · rename_i hc
      split
      · simp only [PR.In]; have := hc.1; omega
      · exact ((numR_in (i := j + 1) hc.1 a).mono (i' := j) (k' := 1) (by omega) (by omega)).bind fun b j' h3 h4 => by simp only [PR.In]; omega
    · simp only [PR.In]; omega
  · refine .ite (h.isC hj 44) (fun hc => ?_) fun _ => .same
    by_cases hj1 : j + 1 ≤ k
    · refine .ite (h.isC hj1 125) (fun _ => .same) fun _ => ?_
      exact PR.Sim.bind (n := s.length) (numR_sim h hc.1 a) (fun b j' hy => by have := (numR_in (i := j + 1) hc.1 a).okB hy; simp only [PR.In]; omega) fun _ _ _ _ => .same
    · refine .far (i := j + 1) (l := 0) (n := s.length) ?_ (by omega)
      split
      · simp only [PR.In]; have := hc.1; omega
      · exact (numR_in (i := j + 1) hc.1 a).bind fun b j' h3 h4 => by simp only [PR.In]; omega
theorem prs_sim (h : Agr s s2 k) : ∀ (f : Nat) (t : Tk) (d i : Nat), i ≤ s.length → (prs s f t d i).Sim k (prs s2 f t d i)
  | 0, _, _, _, _ => trivial
  | f + 1, t, d, i, hi => by
    by_cases hk : i ≤ k
    · cases t with
      | alt =>
        rw [prs, prs]
        exact PR.Sim.bind (n := s.length) (prs_sim h f (.cat []) d i hi) (fun a j hx => (prs_in f _ d j ((prs_in f _ d i hi).okB hx).2).mono (by omega) (by omega)) fun a j hx hj => prs_sim h f _ d j ((prs_in f _ d i hi).okB hx).2
      | altL l =>
        rw [prs, prs]
        refine .ite (h.isC hk 124) (fun hc => ?_) fun _ => .same
        exact PR.Sim.bind (n := s.length) (prs_sim h f (.cat []) d (i + 1) hc.1) (fun a j hx => (prs_in f _ d j ((prs_in f _ d (i + 1) hc.1).okB hx).2).mono (by omega) (by omega)) fun a j hx hj => prs_sim h f _ d j ((prs_in f _ d (i + 1) hc.1).okB hx).2
      | cat l =>
        rw [prs, prs]
        refine .ite (by rw [h.lt hk, h.bt hk]) (fun hc => ?_) fun _ => .same
        exact PR.Sim.bind (n := s.length) (prs_sim h f .item d i hi) (fun a j hx => (prs_in f _ d j ((prs_in f _ d i hi).okB hx).2).mono (by omega) (by omega)) fun a j hx hj => prs_sim h f _ d j ((prs_in f _ d i hi).okB hx).2
      | item =>
        rw [prs, prs]
        exact PR.Sim.bind (n := s.length) (prs_sim h f .atom d i hi) (fun a j hx => (prs_in f _ d j ((prs_in f _ d i hi).okB hx).2).mono (by omega) (by omega)) fun a j hx hj => prs_sim h f _ d j ((prs_in f _ d i hi).okB hx).2
      | itemL t =>
        rw [prs, prs]
        refine .ite (h.isC hk 42) (fun hc => prs_sim h f _ d (i + 1) hc.1) fun _ => ?_
        refine .ite (h.isC hk 43) (fun hc => prs_sim h f _ d (i + 1) hc.1) fun _ => ?_
        refine .ite (h.isC hk 63) (fun hc => prs_sim h f _ d (i + 1) hc.1) fun _ => ?_
        refine .ite (h.isC hk 123) (fun hc => ?_) fun _ => .same
        refine PR.Sim.bind (n := s.length) (bndR_sim h (i := i + 1) hc.1) (fun b j hx => ?_) fun b j hx hj => ?_
        · have hj2 := ((bndR_in (i := i + 1) hc.1).okB hx).2
          split
          · rename_i hd; exact (prs_in f _ d (j + 1) hd.1).mono (by omega) (by omega)
          · simp only [PR.In]; omega
        · exact .ite (h.isC hj 125) (fun hd => prs_sim h f _ d (j + 1) hd.1) fun _ => .same
      | atom =>
        rw [prs, prs]
        refine .ite (h.isC hk 40) (fun hc => ?_) fun _ => ?_
        · refine .ite Iff.rfl (fun _ => .same) fun _ => ?_
          refine PR.Sim.bind (n := s.length) (prs_sim h f .alt (d + 1) (i + 1) hc.1) (fun a j hx => ?_) fun a j hx hj => .ite (h.isC hj 41) (fun _ => .same) fun _ => .same
          have hj2 := ((prs_in f .alt (d + 1) (i + 1) hc.1).okB hx).2
          split
          · rename_i hd; simp only [PR.In]; have := hd.1; omega
          · simp only [PR.In]; omega
        refine .ite (h.isC hk 91) (fun hc => clsR_sim h f (i := i + 1) hc.1) fun _ => ?_
        refine .ite (h.isC hk 46) (fun _ => .same) fun _ => ?_
        refine .ite (h.isC hk 92) (fun hc => ?_) fun _ => .ite (by rw [h.lt hk, h.bt hk]) (fun _ => by rw [h.bt hk]; exact .same) fun _ => .same
        have hs := knd_same h hk
        rw [if_pos hc, if_pos ((h.isC hk 92).2 hc)] at hs
        rw [hs]
        cases hK : kndR s (i + 1) with
        | some p => exact .same
        | none =>
          dsimp only
          exact PR.Sim.bind (n := s.length) (escR_sim h (i := i + 1) hc.1) (fun b j hx => by have := (escR_in (i := i + 1) hc.1).okB hx; simp only [PR.In]; omega) fun _ _ _ _ => .same
    · exact .far (prs_in (f + 1) t d i hi) (by omega)
end
/-- a text that can't go on at k can't go on there either with other things behind -/
theorem prsA_places {s : List UInt8} {k : Nat} (more : List UInt8) (h : prsA s = .bad 60 k) (hk : k < s.length) (hd : ¬ (48 ≤ bt s k ∧ bt s k ≤ 57)) (hb : bt s k ≠ 92) (h2 : (s.take (k + 1) ++ more).length ≤ 512) :
    prsA (s.take (k + 1) ++ more) = .bad 60 k := by
  have hA : Agr s (s.take (k + 1) ++ more) k := ⟨hk, by simp; omega, fun i hi => by
    rw [List.getD_eq_getElem?_getD, List.getD_eq_getElem?_getD, List.getElem?_append_left (by simp; omega), List.getElem?_take_of_lt (by omega)], hd, hb⟩
  unfold prsA at h ⊢
  rw [if_neg (by omega)]
  by_cases hl : 512 < s.length
  · rw [if_pos hl] at h; cases h
  rw [if_neg hl] at h
  have hs := prs_sim hA 4200 .alt 0 0 (Nat.zero_le _)
  cases hx : prs s 4200 .alt 0 0 with
  | ok t j =>
    rw [hx] at h hs
    dsimp only at h
    split at h
    · simp only [PR.bad.injEq, true_and] at h
      subst h
      rw [hs (Nat.le_refl _)]
      dsimp only
      rw [if_pos hA.l2]
    · cases h
  | bad e j =>
    rw [hx] at h hs
    dsimp only at h
    simp only [PR.bad.injEq] at h
    obtain ⟨rfl, rfl⟩ := h
    rw [hs rfl]
  | out => rw [hx] at h; cases h
end Go.Proofs.Ytnbfifmnigeolaa
