/- Plain laws: how bytes are read as a program (P25.2). No conditions; no program. -/
import Derived.Test.YtbomloodllddaaaPk32
import Derived.Test.YtbomloodllddaaaPk10
namespace Go.Proofs.Ytbomloodllddaaa
open Go.RowKit
/-- the greatest number that is taken, 2^62 -/
def W62 : Nat := 4611686018427387904
def cutI (n : Nat) : Int := (min n W62 : Nat)
def cutL (l : List Nat) : List Int := l.map cutI
def wideL (l : List Nat) : Bool := l.any fun n => decide (W62 < n)
theorem cutL_len (l : List Nat) : (cutL l).length = l.length := by simp [cutL]
/-- a section's error -/
def errS (len : Nat) (a bad : Int) (wide : Bool) : Int := if bad ≠ 0 then bad else if a ≠ len ∨ wide = true then 21 else 0
/-- numbers are read on -/
def rdL (s : List UInt8) (a bad most : Int) : List Nat × Int × Int := if bad ≠ 0 then ([], a, bad) else geta s a most
def rdN (s : List UInt8) (a bad : Int) : Nat × Int × Int := if bad ≠ 0 then (0, a, bad) else vget s a
def rdT (s : List UInt8) (a bad : Int) : List UInt8 × Int × Int := if bad ≠ 0 then ([], a, bad) else gett s a 4096
/-- a count: how many, the place behind -/
def rdC (s : List UInt8) (most : Nat) : Nat × Int × Int := if (vget s 0).2.2 ≠ 0 then (0, 0, (vget s 0).2.2) else if most < (vget s 0).1 then (0, 0, 2) else vget s 0
/-- the first section -/
def sec1L (s : List UInt8) : List Nat := (geta s 0 4).1
def sec1B (s : List UInt8) : Int := if (geta s 0 4).2.2 = 0 ∧ (sec1L s).length ≠ 4 then 21 else (geta s 0 4).2.2
def err1 (s : List UInt8) : Int := errS s.length (geta s 0 4).2.1 (sec1B s) (wideL (sec1L s))
/-- a table: its numbers, the place behind, the error, was one too wide? -/
def tab1 (s : List UInt8) (a : Int) : (Int × List Int) × Int × Int × Bool :=
  ((cutI (vget s a).1, cutL (rdL s (vget s a).2.1 (vget s a).2.2 400000).1), (rdL s (vget s a).2.1 (vget s a).2.2 400000).2.1, (rdL s (vget s a).2.1 (vget s a).2.2 400000).2.2, decide (W62 < (vget s a).1) || wideL (rdL s (vget s a).2.1 (vget s a).2.2 400000).1)
/-- n tables from a place on -/
def tabsF (s : List UInt8) : Nat → Int → List (Int × List Int) × Int × Int × Bool
  | 0, a => ([], a, 0, false)
  | n + 1, a => if (tab1 s a).2.2.1 ≠ 0 then ([], 0, (tab1 s a).2.2.1, false) else
      if (tabsF s n (tab1 s a).2.1).2.2.1 ≠ 0 then ([], 0, (tabsF s n (tab1 s a).2.1).2.2.1, false) else
      ((tab1 s a).1 :: (tabsF s n (tab1 s a).2.1).1, (tabsF s n (tab1 s a).2.1).2.1, 0, (tab1 s a).2.2.2 || (tabsF s n (tab1 s a).2.1).2.2.2)
def sec3F (s : List UInt8) : List (Int × List Int) × Int × Int × Bool :=
  if (rdC s 16).2.2 ≠ 0 then ([], 0, (rdC s 16).2.2, false) else tabsF s (rdC s 16).1 (rdC s 16).2.1
def err3 (s : List UInt8) : Int := errS s.length (sec3F s).2.1 (sec3F s).2.2.1 (sec3F s).2.2.2
/-- n texts from a place on -/
def textsF (s : List UInt8) : Nat → Int → List (List UInt8) × Int × Int
  | 0, a => ([], a, 0)
  | n + 1, a => if (gett s a 4096).2.2 ≠ 0 then ([], 0, (gett s a 4096).2.2) else
      if (textsF s n (gett s a 4096).2.1).2.2 ≠ 0 then ([], 0, (textsF s n (gett s a 4096).2.1).2.2) else
      ((gett s a 4096).1 :: (textsF s n (gett s a 4096).2.1).1, (textsF s n (gett s a 4096).2.1).2.1, 0)
def sec4F (s : List UInt8) : List (List UInt8) × Int × Int :=
  if (rdC s 4096).2.2 ≠ 0 then ([], 0, (rdC s 4096).2.2) else textsF s (rdC s 4096).1 (rdC s 4096).2.1
def err4 (s : List UInt8) : Int := errS s.length (sec4F s).2.1 (sec4F s).2.2 false
/-- the last section -/
def wide32 (l : List Nat) : Bool := l.any fun n => decide (4294967295 < n)
def low32 (l : List Nat) : List Nat := l.map (· % 4294967296)
def seedF (s : List UInt8) : List Nat × Int × Int := geta s 0 4096
def keyF (s : List UInt8) : List Nat × Int × Int := rdL s (seedF s).2.1 (seedF s).2.2 4096
def valF (s : List UInt8) : List Nat × Int × Int := rdL s (keyF s).2.1 (keyF s).2.2 4096
def err5 (s : List UInt8) : Int := errS s.length (valF s).2.1 (valF s).2.2 (wide32 (seedF s).1)
/-- the program of which nothing has been read -/
def prg0 : Prg := ⟨0, 0, 0, 0, [], [], [], ⟨[], [], []⟩⟩
/-- the k-th section's error, the program with it -/
def secE (k : Nat) (s : List UInt8) : Int := match k with
  | 0 => err1 s
  | 1 => (getI s).1
  | 2 => err3 s
  | 3 => err4 s
  | _ => err5 s
def secP (k : Nat) (s : List UInt8) (p : Prg) : Prg := match k with
  | 0 => { p with grow := (cutL (sec1L s)).getD 0 0, rest := (cutL (sec1L s)).getD 1 0, extra := (cutL (sec1L s)).getD 2 0, signs := (cutL (sec1L s)).getD 3 0 }
  | 1 => { p with code := (getI s).2 }
  | 2 => { p with tabs := (sec3F s).1 }
  | 3 => { p with texts := (sec4F s).1 }
  | _ => { p with hash := ⟨low32 (seedF s).1, (keyF s).1, (valF s).1⟩ }
def bodyS (l : List Sec) (k : Nat) : List UInt8 := (l.getD k (0, [])).2
def errTo (l : List Sec) : Nat → Int
  | 0 => 0
  | k + 1 => if errTo l k ≠ 0 then errTo l k else secE k (bodyS l k)
def prgTo (l : List Sec) : Nat → Prg
  | 0 => prg0
  | k + 1 => secP k (bodyS l k) (prgTo l k)
def kindsOk (l : List Sec) : Bool := decide (l.length = 5) && (List.range 5).all fun k => decide ((l.getD k (0, [])).1 = k + 1)
/-- what sections are read as -/
def decS (l : List Sec) : Prg × Int :=
  if kindsOk l = false then (prg0, 21) else if errTo l 5 ≠ 0 then (prg0, errTo l 5) else if writI (prgTo l 5) ≠ 0 then (prg0, writI (prgTo l 5)) else (prgTo l 5, 0)
/-- what is read of any bytes -/
def decI (t : List UInt8) : Prg × Int := if (getP t).2 ≠ 0 then (prg0, (getP t).2) else decS (getP t).1
theorem errTo_stop {l : List Sec} {k n : Nat} (h : errTo l k ≠ 0) (hk : k ≤ n) : errTo l n = errTo l k := by
  induction n with
  | zero =>
    obtain rfl : k = 0 := by omega
    rfl
  | succ n ih =>
    rcases Nat.lt_or_ge n k with h1 | h1
    · obtain rfl : k = n + 1 := by omega
      rfl
    · have := ih h1
      rw [errTo, if_pos (by rw [this]; exact h), this]
/-- tables ahead of what is read -/
def aheadT (l : List (Int × List Int)) (wd : Bool) (q : List (Int × List Int) × Int × Int × Bool) : List (Int × List Int) × Int × Int × Bool :=
  if q.2.2.1 ≠ 0 then ([], 0, q.2.2.1, false) else (l ++ q.1, q.2.1, 0, wd || q.2.2.2)
theorem tabsF_bad (s : List UInt8) : ∀ (n : Nat) (a : Int), (tabsF s n a).2.2.1 ≠ 0 → tabsF s n a = ([], 0, (tabsF s n a).2.2.1, false)
  | 0, a, h => absurd rfl h
  | n + 1, a, h => by
    unfold tabsF at h ⊢
    by_cases h1 : (tab1 s a).2.2.1 ≠ 0
    · rw [if_pos h1]
    · rw [if_neg h1] at h ⊢
      by_cases h2 : (tabsF s n (tab1 s a).2.1).2.2.1 ≠ 0
      · rw [if_pos h2]
      · rw [if_neg h2] at h; exact absurd rfl h
theorem aheadT_nil (s : List UInt8) (n : Nat) (a : Int) : aheadT [] false (tabsF s n a) = tabsF s n a := by
  unfold aheadT
  by_cases h : (tabsF s n a).2.2.1 ≠ 0
  · rw [if_pos h]; exact (tabsF_bad s n a h).symm
  · rw [if_neg h]
    have : (tabsF s n a).2.2.1 = 0 := by simpa using h
    generalize tabsF s n a = q at this ⊢
    obtain ⟨q1, q2, q3, q4⟩ := q
    dsimp only at this
    subst this; simp
theorem aheadT_zero (s : List UInt8) (l : List (Int × List Int)) (wd : Bool) (a : Int) : aheadT l wd (tabsF s 0 a) = (l, a, 0, wd) := by simp [aheadT, tabsF]
theorem aheadT_bad {s : List UInt8} (l : List (Int × List Int)) (wd : Bool) {n : Nat} {a : Int} (h : (tab1 s a).2.2.1 ≠ 0) : aheadT l wd (tabsF s (n + 1) a) = ([], 0, (tab1 s a).2.2.1, false) := by
  unfold tabsF
  rw [if_pos h]; exact if_pos h
theorem aheadT_step {s : List UInt8} (l : List (Int × List Int)) (wd : Bool) {n : Nat} {a : Int} (h : (tab1 s a).2.2.1 = 0) :
    aheadT l wd (tabsF s (n + 1) a) = aheadT (l ++ [(tab1 s a).1]) (wd || (tab1 s a).2.2.2) (tabsF s n (tab1 s a).2.1) := by
  conv => lhs; unfold tabsF
  rw [if_neg (by simpa using h)]
  by_cases h2 : (tabsF s n (tab1 s a).2.1).2.2.1 ≠ 0
  · rw [if_pos h2]; unfold aheadT; rw [if_pos h2, if_pos h2]
  · rw [if_neg h2]; unfold aheadT; rw [if_neg h2, if_neg (by simp)]
    simp [Bool.or_assoc]
/-- texts ahead of what is read -/
def aheadX (l : List (List UInt8)) (q : List (List UInt8) × Int × Int) : List (List UInt8) × Int × Int := if q.2.2 ≠ 0 then ([], 0, q.2.2) else (l ++ q.1, q.2.1, 0)
theorem textsF_bad (s : List UInt8) : ∀ (n : Nat) (a : Int), (textsF s n a).2.2 ≠ 0 → textsF s n a = ([], 0, (textsF s n a).2.2)
  | 0, a, h => absurd rfl h
  | n + 1, a, h => by
    unfold textsF at h ⊢
    by_cases h1 : (gett s a 4096).2.2 ≠ 0
    · rw [if_pos h1]
    · rw [if_neg h1] at h ⊢
      by_cases h2 : (textsF s n (gett s a 4096).2.1).2.2 ≠ 0
      · rw [if_pos h2]
      · rw [if_neg h2] at h; exact absurd rfl h
theorem aheadX_nil (s : List UInt8) (n : Nat) (a : Int) : aheadX [] (textsF s n a) = textsF s n a := by
  unfold aheadX
  by_cases h : (textsF s n a).2.2 ≠ 0
  · rw [if_pos h]; exact (textsF_bad s n a h).symm
  · rw [if_neg h]
    have : (textsF s n a).2.2 = 0 := by simpa using h
    generalize textsF s n a = q at this ⊢
    obtain ⟨q1, q2, q3⟩ := q
    dsimp only at this
    subst this; simp
theorem aheadX_zero (s : List UInt8) (l : List (List UInt8)) (a : Int) : aheadX l (textsF s 0 a) = (l, a, 0) := by simp [aheadX, textsF]
theorem aheadX_bad {s : List UInt8} (l : List (List UInt8)) {n : Nat} {a : Int} (h : (gett s a 4096).2.2 ≠ 0) : aheadX l (textsF s (n + 1) a) = ([], 0, (gett s a 4096).2.2) := by
  unfold textsF
  rw [if_pos h]; exact if_pos h
theorem aheadX_step {s : List UInt8} (l : List (List UInt8)) {n : Nat} {a : Int} (h : (gett s a 4096).2.2 = 0) :
    aheadX l (textsF s (n + 1) a) = aheadX (l ++ [(gett s a 4096).1]) (textsF s n (gett s a 4096).2.1) := by
  conv => lhs; unfold textsF
  rw [if_neg (by simpa using h)]
  by_cases h2 : (textsF s n (gett s a 4096).2.1).2.2 ≠ 0
  · rw [if_pos h2]; unfold aheadX; rw [if_pos h2, if_pos h2]
  · rw [if_neg h2]; unfold aheadX; rw [if_neg h2, if_neg (by simp)]
    simp
end Go.Proofs.Ytbomloodllddaaa
