/- Plain: the check of a look behind a test (P23.2). No conditions; no program. -/
import Derived.Test.YtkhggnlanopgkaaVerEnds
namespace Go.Proofs.Ytkhggnlanopgkaa
open Go.RowKit
def k0 : Nat → Int := fun j => [7, 0, 0, 4, 0].getD j 0
def k1 (t : Int) : Nat → Int := fun j => [6, 0, t, 3, 0].getD j 0
def k2 : Nat → Int := fun j => [1, 0, 0, 0, 0].getD j 0
def k3 : Nat → Int := fun j => [8, 0, 1, 0, 0].getD j 0
def tcode (t : Int) : List (Nat → Int) := [k0, k1 t, k2, k3, k2]
def tprg (rows : Nat) (t : Int) : Prg := ⟨0, 0, 0, 0, tcode t, [(1, List.replicate rows 0)], [], ⟨[], [], []⟩⟩
section
variable {of : List (Int × Int)} {r : Rg} {t : Int}
theorem gn0 : goN of k0 r = some (r.set 0 (0, 255)) := by simp [goN, k0, sA]
theorem gf0 : goF k0 r = some r := by simp [goF, k0]
theorem gn1 : goN of (k1 t) r = ifIn (max (rget r 0).1 t ≤ (rget r 0).2) (r.set 0 (max (rget r 0).1 t, (rget r 0).2)) := by simp [goN, k1, sA, rA]
theorem gf1 : goF (k1 t) r = ifIn ((rget r 0).1 ≤ min (rget r 0).2 (t - 1)) (r.set 0 ((rget r 0).1, min (rget r 0).2 (t - 1))) := by simp [goF, k1, sA, rA]
theorem gn2 : goN of k2 r = none := by simp [goN, k2]
theorem gf2 : goF k2 r = none := by simp [goF, k2]
theorem gn3 : goN of k3 r = some (r.set 0 (of.getD 0 (0, 0))) := by simp [goN, k3, sA]
theorem gf3 : goF k3 r = none := by simp [goF, k3]
end
def tR1 : Rg := iniR.set 0 (0, 255)
def tR2 (t : Int) : Rg := iniR.set 0 (t, 255)
def tR3 (t : Int) : Rg := iniR.set 0 (0, min 255 (t - 1))
def tS (t : Int) : Sts := [some iniR, some tR1, ifIn (t ≤ 255) (tR2 t), ifIn (1 ≤ t) (tR3 t), some iniR]
theorem tR1_0 : rget tR1 0 = (0, 255) := rfl
theorem e12 {of : List (Int × Int)} {t : Int} (h0 : 0 ≤ t) : goN of (k1 t) tR1 = ifIn (t ≤ 255) (tR2 t) := by
  rw [gn1, tR1_0]
  dsimp only
  rw [show max 0 t = t from by omega]
  rfl
theorem e13 {t : Int} : goF (k1 t) tR1 = ifIn (1 ≤ t) (tR3 t) := by
  rw [gf1, tR1_0]
  dsimp only
  unfold ifIn
  by_cases h : 1 ≤ t
  · rw [if_pos h, if_pos (by omega)]; rfl
  · rw [if_neg h, if_neg (by omega)]
theorem e34 {t : Int} : goN [(0, 0)] k3 (tR3 t) = some iniR := by rw [gn3]; rfl
theorem e01 {of : List (Int × Int)} : goN of k0 iniR = some tR1 := gn0
theorem ifIn_some {c : Prop} [Decidable c] {r q : Rg} (h : ifIn c r = some q) : c ∧ q = r := by
  unfold ifIn at h
  split at h
  · rename_i hc; cases h; exact ⟨hc, rfl⟩
  · cases h
theorem okS0 : okS (0, 0) := by unfold okS; decide
theorem t_ok {t : Int} (h0 : 0 ≤ t) : okSts 5 (tS t) := by
  refine ⟨rfl, fun i r h => ?_⟩
  match i, h with
  | 0, h => cases h; exact iniR_ok
  | 1, h => cases h; exact iniR_ok.set 0 (by unfold okS; decide)
  | 2, h =>
    obtain ⟨hc, rfl⟩ := ifIn_some (show ifIn (t ≤ 255) (tR2 t) = some r from h)
    exact iniR_ok.set 0 (by unfold okS; dsimp only; omega)
  | 3, h =>
    obtain ⟨hc, rfl⟩ := ifIn_some (show ifIn (1 ≤ t) (tR3 t) = some r from h)
    exact iniR_ok.set 0 (by unfold okS; dsimp only; omega)
  | 4, h => cases h; exact iniR_ok
  | i + 5, h => simp [tS] at h
theorem t_sol {t : Int} (h0 : 0 ≤ t) : Sol [(0, 0)] (tcode t) (tS t) := by
  refine ⟨fun i r h => ((t_ok h0).2 i r h).1, ole.refl _, fun i x r hx hr => ?_⟩
  match i, hx, hr with
  | 0, hx, hr => cases hx; cases hr; rw [e01, gf0]; exact ⟨ole.refl _, ole.refl _⟩
  | 1, hx, hr => cases hx; cases hr; rw [e12 h0, e13]; exact ⟨ole.refl _, ole.refl _⟩
  | 2, hx, hr => cases hx; rw [gn2, gf2]; exact ⟨ole_none _, ole_none _⟩
  | 3, hx, hr =>
    cases hx
    obtain ⟨hc, rfl⟩ := ifIn_some (show ifIn (1 ≤ t) (tR3 t) = some r from hr)
    rw [e34, gf3]; exact ⟨ole.refl _, ole_none _⟩
  | 4, hx, hr => cases hx; rw [gn2, gf2]; exact ⟨ole_none _, ole_none _⟩
  | i + 5, hx, hr => simp [tcode] at hx
theorem t_least {t : Int} (h0 : 0 ≤ t) : Least [(0, 0)] (tcode t) (tS t) := by
  refine ⟨t_ok h0, t_sol h0, fun T hT => ?_⟩
  obtain ⟨hl8, hini, hed⟩ := hT
  -- place 0
  obtain ⟨q0, hq0, l0⟩ := hini iniR rfl
  have n0 := hl8 0 q0 hq0
  have E0 := hed 0 k0 q0 rfl hq0
  have m0 : ole (some tR1) (T.getD 1 none) := by
    have h := goN_mono (of := [(0, 0)]) (x := k0) (r := iniR) (q := q0) (by decide) (by decide) rfl n0 l0
    rw [e01] at h
    exact h.trans E0.1
  have m4 : ole (some iniR) (T.getD 4 none) := by
    have h := goF_mono (x := k0) (r := iniR) (q := q0) (by decide) rfl n0 l0
    rw [gf0] at h
    exact h.trans E0.2
  obtain ⟨q1, hq1, l1⟩ := m0 tR1 rfl
  have n1 := hl8 1 q1 hq1
  have E1 := hed 1 (k1 t) q1 rfl hq1
  have m2 : ole (ifIn (t ≤ 255) (tR2 t)) (T.getD 2 none) := by
    have h := goN_mono (of := [(0, 0)]) (x := k1 t) (r := tR1) (q := q1) (show (0 : Int) ≤ 0 ∧ (0 : Int) ≤ 7 by decide) (by unfold k1; intro h; simp at h) rfl n1 l1
    rw [e12 h0] at h
    exact h.trans E1.1
  have m3 : ole (ifIn (1 ≤ t) (tR3 t)) (T.getD 3 none) := by
    have h := goF_mono (x := k1 t) (r := tR1) (q := q1) (show (0 : Int) ≤ 0 ∧ (0 : Int) ≤ 7 by decide) rfl n1 l1
    rw [e13] at h
    exact h.trans E1.2
  intro i
  match i with
  | 0 => exact hini
  | 1 => exact m0
  | 2 => exact m2
  | 3 => exact m3
  | 4 => exact m4
  | i + 5 => exact ole_none _
theorem mn_zero {l : List Int} (h : ∀ i, l.getD i 0 = 0) : ∀ k, mnTo l k = 0
  | 0 => h 0
  | k + 1 => by rw [mnTo_succ, mn_zero h k, h k]; rfl
theorem mx_zero {l : List Int} (h : ∀ i, l.getD i 0 = 0) : ∀ k, mxTo l k = 0
  | 0 => h 0
  | k + 1 => by rw [mxTo_succ, mx_zero h k, h k]; rfl
theorem rep_get (n i : Nat) : (List.replicate n (0 : Int)).getD i 0 = 0 := by
  rw [List.getD_eq_getElem?_getD, List.getElem?_replicate]
  split <;> rfl
theorem t_of (rows : Nat) (t : Int) : ofP (tprg rows t) = [(0, 0)] := by
  unfold ofP tprg spanD
  dsimp only [List.map]
  rw [mn_zero (rep_get rows), mx_zero (rep_get rows)]
theorem okI_k1 {t : Int} (h0 : 0 ≤ t) (h1 : t ≤ 300) : okI (k1 t) = true := by
  unfold okI
  have e0 : k1 t 0 = 6 := rfl
  have e1 : k1 t 1 = 0 := rfl
  have e2 : k1 t 2 = t := rfl
  have e3 : k1 t 3 = 3 := rfl
  have e4 : k1 t 4 = 0 := rfl
  have el : letr (k1 t 0).toNat = [114, 110, 64] := rfl
  rw [el]
  simp [bar, pos, inb, mst, e0, e1, e2, e3, e4]
  omega
theorem t_whole (rows : Nat) (t : Int) (hr : 1 ≤ rows ∧ rows ≤ 300) (h0 : 0 ≤ t) (h1 : t ≤ 300) : Whole (tprg rows t) := by
  have hcode : ∀ i, i < 5 → okI (codeAt (tprg rows t) i) = true ∧ badJump (tprg rows t) i = false := fun i hi => by
    rcases (by omega : i = 0 ∨ i = 1 ∨ i = 2 ∨ i = 3 ∨ i = 4) with rfl | rfl | rfl | rfl | rfl
    · exact ⟨by show okI k0 = true; decide, rfl⟩
    · exact ⟨okI_k1 h0 h1, rfl⟩
    · exact ⟨by show okI k2 = true; decide, rfl⟩
    · exact ⟨by show okI k3 = true; decide, rfl⟩
    · exact ⟨by show okI k2 = true; decide, rfl⟩
  refine ⟨(data_iff _).2 ⟨rfl, rfl, rfl, ?_, rfl, ?_, rfl, rfl⟩, by show 1 ≤ 5 ∧ 5 ≤ 4096; decide, fun i hi => (hcode i hi).1, fun i hi => (hcode i hi).2, rfl⟩
  · show 0 ≤ (0 : Int) ∧ (0 : Int) ≤ 65536 ∧ 1 ≤ 16 ∧ 0 ≤ 4096; decide
  · show ([(1, List.replicate rows 0)] : List (Int × List Int)).all tabOk = true
    simp [tabOk, numOk]
    omega
/-- what the check tells -/
theorem t_check (rows : Nat) (t : Int) (hr : 1 ≤ rows ∧ rows ≤ 300) (h0 : 0 ≤ t) (h1 : t ≤ 300) :
    ((t = 0 ∨ t ≤ rows ∨ 256 ≤ rows) → checkI (tprg rows t) = (0, 0)) ∧ (¬ (t = 0 ∨ t ≤ rows ∨ 256 ≤ rows) → checkI (tprg rows t) = (231, 3)) := by
  have hw := t_whole rows t hr h0 h1
  have hs : (shapeI (tprg rows t)).1 = 0 := by rw [hw.shape]
  have hL : Least (ofP (tprg rows t)) (tprg rows t).code (tS t) := by rw [t_of]; exact t_least h0
  have hb : ∀ i, i ≠ 3 → i < 5 → badAt (tprg rows t) (tS t) i = false := fun i h3 hi => by
    unfold badAt
    rcases (by omega : i = 0 ∨ i = 1 ∨ i = 2 ∨ i = 4) with rfl | rfl | rfl | rfl
    · rfl
    · rfl
    · show (match ifIn (t ≤ 255) (tR2 t) with | none => false | some r => !safeI (tprg rows t) k2 r) = false
      unfold ifIn
      split <;> rfl
    · rfl
  have e3 : badAt (tprg rows t) (tS t) 3 = decide (¬ (t = 0 ∨ t ≤ rows ∨ 256 ≤ rows)) := by
    show (match ifIn (1 ≤ t) (tR3 t) with | none => false | some r => !safeI (tprg rows t) k3 r) = _
    unfold ifIn
    by_cases hc : 1 ≤ t
    · rw [if_pos hc]
      dsimp only
      rw [safe_8 rfl]
      have ht : tabD (tprg rows t) k3 = (1, List.replicate rows 0) := rfl
      rw [ht]
      dsimp only
      have ea : rget (tR3 t) (k3 1).toNat = (0, min 255 (t - 1)) := rfl
      have eb : rget (tR3 t) (k3 2).toNat = (0, 0) := rfl
      rw [ea, eb]
      unfold inB
      simp only [List.length_replicate, Int.ediv_one]
      rw [Bool.eq_iff_iff]
      simp
      omega
    · rw [if_neg hc]
      have : t = 0 := by omega
      simp [this]
  rw [check_whole hs hL]
  refine ⟨fun h => wrong_none fun i hi => ?_, fun h => wrong_some (k := 3) (by show 3 < 5; decide) (by rw [e3]; exact decide_eq_true h) fun i hi => hb i (by omega) (by omega)⟩
  by_cases h3 : i = 3
  · subst h3; rw [e3]; exact decide_eq_false (fun h' => h' h)
  · exact hb i h3 hi
end Go.Proofs.Ytkhggnlanopgkaa
