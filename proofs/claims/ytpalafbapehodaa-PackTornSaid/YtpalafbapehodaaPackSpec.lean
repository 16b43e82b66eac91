/- Packs of sections, in plain Lean: written, read. No program. -/
import Derived.Test.YtpalafbapehodaaWireLaws
import Derived.Test.YtpalafbapehodaaWirePut4
import Derived.Test.YtpalafbapehodaaSumSpec
namespace Go.Proofs.Ytpalafbapehodaa
/-- a section: its kind, its body -/
abbrev Sec := Nat × List UInt8
def psec (x : Sec) : List UInt8 := vput x.1 ++ (vput x.2.length ++ x.2)
def sizeS : List Sec → Nat
  | [] => 0
  | x :: l => x.2.length + sizeS l
theorem sizeS_append (a b : List Sec) : sizeS (a ++ b) = sizeS a + sizeS b := by
  induction a with
  | nil => simp [sizeS]
  | cons x a ih => simp [sizeS, ih]; omega
theorem sizeS_take_le (l : List Sec) (k : Nat) : sizeS (l.take k) ≤ sizeS l := by
  have := sizeS_append (l.take k) (l.drop k)
  rw [List.take_append_drop] at this
  omega
def begB : List UInt8 := [70, 83, 65, 87, 1]
/-- the first k kinds rise -/
def risesTo (l : List Sec) (k : Nat) : Bool := (List.range k).all fun i => i == 0 || decide ((l.getD (i - 1) (0, [])).1 < (l.getD i (0, [])).1)
theorem risesTo_zero (l : List Sec) : risesTo l 0 = true := rfl
theorem risesTo_succ (l : List Sec) (k : Nat) : risesTo l (k + 1) = (risesTo l k && (k == 0 || decide ((l.getD (k - 1) (0, [])).1 < (l.getD k (0, [])).1))) := by
  unfold risesTo; rw [List.range_succ, List.all_append]; simp
theorem risesTo_false {l : List Sec} {k n : Nat} (h : risesTo l k = false) (hk : k ≤ n) : risesTo l n = false := by
  induction n with
  | zero => obtain rfl : k = 0 := by omega
            exact h
  | succ n ih =>
    rcases Nat.eq_or_lt_of_le hk with rfl | hk
    · exact h
    · rw [risesTo_succ, ih (by omega)]; rfl
def packB (l : List Sec) : List UInt8 := begB ++ vput l.length ++ l.flatMap psec
def putP (l : List Sec) : List UInt8 × Int :=
  if 64 < l.length ∨ 8388608 < sizeS l then ([], 2) else if risesTo l l.length = true then (packB l ++ put4 (sumOn 0 (packB l)), 0) else ([], 1)
/-- a kind that may not stand behind another one -/
def lowAt : Option Nat → Nat → Bool
  | none, _ => false
  | some p, n => decide (n ≤ p)
/-- m sections, from a place; whether there was one ahead, and its kind -/
def secsF (s : List UInt8) : Nat → Option Nat → Int → List Sec × Int × Int
  | 0, _, at' => ([], at', 0)
  | m + 1, prev, at' =>
    if (vget s at').2.2 ≠ 0 then ([], 0, (vget s at').2.2) else
    if lowAt prev (vget s at').1 = true then ([], 0, 21) else
    if (gett s (vget s at').2.1 8388608).2.2 ≠ 0 then ([], 0, (gett s (vget s at').2.1 8388608).2.2) else
    let r := secsF s m (some (vget s at').1) (gett s (vget s at').2.1 8388608).2.1
    if r.2.2 ≠ 0 then ([], 0, r.2.2) else (((vget s at').1, (gett s (vget s at').2.1 8388608).1) :: r.1, r.2.1, 0)
def joinS (acc : List Sec) (r : List Sec × Int × Int) : List Sec × Int × Int := if r.2.2 ≠ 0 then ([], 0, r.2.2) else (acc ++ r.1, r.2.1, 0)
def getP (t : List UInt8) : List Sec × Int :=
  if t.length < 9 then ([], 20) else
  if t.take 5 ≠ begB then ([], 40) else
  if t.drop (t.length - 4) ≠ put4 (sumOn 0 (t.take (t.length - 4))) then ([], 41) else
  if (vget (t.take (t.length - 4)) 5).2.2 ≠ 0 then ([], (vget (t.take (t.length - 4)) 5).2.2) else
  if 64 < (vget (t.take (t.length - 4)) 5).1 then ([], 2) else
  let r := secsF (t.take (t.length - 4)) (vget (t.take (t.length - 4)) 5).1 none (vget (t.take (t.length - 4)) 5).2.1
  if r.2.2 ≠ 0 then ([], r.2.2) else
  if r.2.1 ≠ ((t.length - 4 : Nat) : Int) then ([], 21) else
  if 8388608 < sizeS r.1 then ([], 2) else (r.1, 0)
def rdNum (s : List UInt8) (at' bad : Int) : Nat × Int × Int := if bad ≠ 0 then (0, at', bad) else vget s at'
def rdText (s : List UInt8) (at' bad : Int) : List UInt8 × Int × Int := if bad ≠ 0 then ([], at', bad) else gett s at' 8388608
def rdMust (ok : Bool) (x bad : Int) : Int := if bad = 0 ∧ ok = false then x else bad
theorem vget_i64 {s : List UInt8} (hs : s.length ≤ 1000000000000000) (a : Int) : I64 (vget s a).2.1 := by
  rcases vget_cases s a with ⟨e, h, _⟩ | ⟨m, k, n, rfl, hk, hmk, _, _, h⟩
  · rw [h]; exact i64_small (by simp)
  · rw [h]; exact i64_small (by dsimp only; omega)
theorem gett_i64 {s : List UInt8} (hs : s.length ≤ 1000000000000000) (a : Int) : I64 (gett s a 8388608).2.1 := by
  unfold gett
  split
  · exact i64_small (by simp)
  · split
    · exact i64_small (by simp)
    · split
      · exact i64_small (by simp)
      · rename_i h1 h2 h3
        rcases vget_cases s a with ⟨e, h, he⟩ | ⟨m, k, n, rfl, hk, hmk, _, _, h⟩
        · rw [h] at h1; simp at h1; omega
        · rw [h] at h2 h3 ⊢; exact i64_small (by dsimp only at h2 h3 ⊢; omega)
theorem gett_len (s : List UInt8) (a : Int) : (gett s a 8388608).1.length ≤ 8388608 := by
  unfold gett
  split
  · simp
  · split
    · simp
    · split
      · simp
      · rename_i h1 h2 h3
        simp only [List.length_take, List.length_drop]
        omega
/-- the kind ahead -/
def lastK (l : List Sec) : Option Nat := l.getLast?.map (·.1)
theorem lastK_snoc (l : List Sec) (x : Sec) : lastK (l ++ [x]) = some x.1 := by simp [lastK]
/-- how a reading ends -/
def finP (n : Int) (r : List Sec × Int × Int) : List Sec × Int :=
  if r.2.2 ≠ 0 then ([], r.2.2) else if r.2.1 ≠ n then ([], 21) else if 8388608 < sizeS r.1 then ([], 2) else (r.1, 0)
/-- what stands at the head of each round of a reading whose answer is G -/
structure GInv (G : List Sec × Int) (n : Int) (s : List UInt8) (many k : Nat) (acc : List Sec) (at' bad : Int) : Prop where
  len : acc.length = k
  size : sizeS acc ≤ k * 8388608
  place : I64 at'
  good : bad = 0 → many ≤ 64 ∧ k ≤ many ∧ finP n (joinS acc (secsF s (many - k) (lastK acc) at')) = G
  wrong : bad ≠ 0 → G = ([], bad)
/-- whether a kind may stand behind those ahead -/
def okAfter (acc : List Sec) (n : Nat) : Bool := match lastK acc with | none => true | some p => decide (p < n)
theorem joinS_nil {r : List Sec × Int × Int} (h : r.2.2 ≠ 0 → r = ([], 0, r.2.2)) : joinS [] r = r := by
  unfold joinS
  by_cases hr : r.2.2 = 0
  · rw [if_neg (by simpa using hr)]; obtain ⟨r1, r2, r3⟩ := r; dsimp only at hr; subst hr; simp
  · rw [if_pos hr]; exact (h hr).symm
theorem secsF_bad (s : List UInt8) : ∀ (m : Nat) (prev : Option Nat) (a : Int), (secsF s m prev a).2.2 ≠ 0 → secsF s m prev a = ([], 0, (secsF s m prev a).2.2)
  | 0, _, _, h => by simp [secsF] at h
  | m + 1, prev, a, h => by
    simp only [secsF] at h ⊢
    split
    · rfl
    · split
      · rfl
      · split
        · rfl
        · split
          · rfl
          · rename_i h1 h2 h3 h4
            rw [if_neg h1, if_neg h2, if_neg h3, if_neg h4] at h
            simp at h
theorem GInv.start {G : List Sec × Int} {n : Int} {s : List UInt8} (hs : s.length ≤ 1000000000000000) {many : Nat} {a0 b0 : Int} (hv : vget s 5 = (many, a0, b0))
    (hG : G = if b0 ≠ 0 then ([], b0) else if 64 < many then ([], 2) else finP n (secsF s many none a0)) : GInv G n s many 0 [] a0 (rdMust (decide (many ≤ 64)) 2 b0) := by
  have hp := vget_i64 hs 5
  rw [hv] at hp
  refine ⟨rfl, by simp [sizeS], hp, fun hb => ?_, fun hb => ?_⟩
  · have h0 : b0 = 0 ∧ many ≤ 64 := by
      unfold rdMust at hb
      split at hb
      · cases hb
      · rename_i hne
        subst hb
        exact ⟨rfl, by simpa using hne⟩
    obtain ⟨rfl, hm⟩ := h0
    rw [if_neg (by simp), if_neg (by omega)] at hG
    refine ⟨hm, Nat.zero_le _, ?_⟩
    rw [hG, Nat.sub_zero, show lastK [] = none from rfl, joinS_nil (secsF_bad _ _ _ _)]
  · rw [hG]
    by_cases h0 : b0 = 0
    · subst h0
      by_cases hm : many ≤ 64
      · exfalso; apply hb; unfold rdMust; simp [hm]
      · rw [if_neg (by simp), if_pos (by omega)]
        unfold rdMust; simp [hm]
    · rw [if_pos h0]; unfold rdMust; simp [h0]
theorem GInv.step {G : List Sec × Int} {n : Int} {s : List UInt8} {many k : Nat} {acc : List Sec} {at' : Int} (hs : s.length ≤ 1000000000000000) (h : GInv G n s many k acc at' 0) (hk : k < many)
    {n1 : Nat} {a1 b1 : Int} (h1 : rdNum s at' 0 = (n1, a1, b1)) {b2 : Int} (h2 : rdMust (okAfter acc n1) 21 b1 = b2) {bd : List UInt8} {a3 b3 : Int} (h3 : rdText s a1 b2 = (bd, a3, b3)) :
    GInv G n s many (k + 1) (acc ++ [(n1, bd)]) a3 b3 := by
  obtain ⟨hm, _, hG⟩ := h.good rfl
  obtain ⟨j, hj⟩ : ∃ j, many - k = j + 1 := ⟨many - k - 1, by omega⟩
  rw [hj] at hG
  have hr : rdNum s at' 0 = vget s at' := by unfold rdNum; rw [if_neg (by simp)]
  rw [hr] at h1
  have hv := vget_i64 hs at'
  rw [h1] at hv
  have hbd : bd.length ≤ 8388608 ∧ I64 a3 := by
    unfold rdText at h3
    split at h3
    · simp at h3; obtain ⟨rfl, rfl, _⟩ := h3; exact ⟨by simp, hv⟩
    · have e1 := gett_len s a1
      have e2 := gett_i64 hs a1
      rw [h3] at e1 e2; exact ⟨e1, e2⟩
  refine ⟨by simp [h.len], ?_, hbd.2, ?_, ?_⟩
  · rw [sizeS_append]; have := h.size; simp [sizeS]; omega
  all_goals
    simp only [secsF, h1] at hG
    intro hb3
  · -- nothing is wrong
    have hb2 : b2 = 0 := by
      unfold rdText at h3
      split at h3
      · rename_i hne; simp at h3; omega
      · rename_i hne; simpa using hne
    subst hb2
    have hb1 : b1 = 0 ∧ okAfter acc n1 = true := by
      unfold rdMust at h2
      split at h2
      · cases h2
      · rename_i hne
        subst h2
        exact ⟨rfl, by simpa using hne⟩
    obtain ⟨rfl, hok⟩ := hb1
    subst hb3
    have ht : gett s a1 8388608 = (bd, a3, 0) := by unfold rdText at h3; rwa [if_neg (by simp)] at h3
    rw [if_neg (by simp), if_neg (by unfold okAfter at hok; cases hl : lastK acc <;> simp_all [lowAt]), ht, if_neg (by simp)] at hG
    refine ⟨hm, by omega, ?_⟩
    rw [show many - (k + 1) = j from by omega, lastK_snoc]
    dsimp only at hG ⊢
    rw [← hG]
    congr 1
    unfold joinS
    generalize secsF s j (some n1) a3 = r
    obtain ⟨r1, r2, r3⟩ := r
    dsimp only
    by_cases hr3 : r3 = 0
    · subst hr3; simp
    · simp [hr3]
  · -- something is
    rw [← hG]
    have fin_bad : ∀ e : Int, e ≠ 0 → finP n (joinS acc ([], 0, e)) = ([], e) := fun e he => by unfold finP joinS; simp [he]
    by_cases hb1 : b1 = 0
    · subst hb1
      rw [if_neg (by simp)]
      by_cases hok : okAfter acc n1 = true
      · have hb2 : b2 = 0 := by rw [← h2, hok]; unfold rdMust; simp
        subst hb2
        have ht : gett s a1 8388608 = (bd, a3, b3) := by unfold rdText at h3; rwa [if_neg (by simp)] at h3
        rw [if_neg (by unfold okAfter at hok; cases hl : lastK acc <;> simp_all [lowAt]), ht, if_pos hb3]
        exact fin_bad _ hb3
      · have hok' : okAfter acc n1 = false := by simpa using hok
        have hb2 : b2 = 21 := by rw [← h2, hok']; unfold rdMust; simp
        subst hb2
        have : b3 = 21 := by unfold rdText at h3; rw [if_pos (by decide)] at h3; simp at h3; exact h3.2.2.symm
        subst this
        rw [if_pos (by unfold okAfter at hok'; cases hl : lastK acc <;> simp_all [lowAt])]
        exact fin_bad _ (by decide)
    · have hb2 : b2 = b1 := by rw [← h2]; unfold rdMust; rw [if_neg (by simp [hb1])]
      subst hb2
      have : b3 = b2 := by unfold rdText at h3; rw [if_pos hb1] at h3; simp at h3; exact h3.2.2.symm
      subst this
      rw [if_pos hb1]
      exact fin_bad _ hb1
/-- how it ends -/
theorem GInv.done {G : List Sec × Int} {n : Int} {s : List UInt8} {many k : Nat} {acc : List Sec} {at' bad : Int} (h : GInv G n s many k acc at' bad) (hk : bad = 0 → many ≤ k) :
    G = (if rdMust (decide (sizeS acc ≤ 8388608)) 2 (rdMust (decide (at' = n)) 21 bad) ≠ 0 then [] else acc, rdMust (decide (sizeS acc ≤ 8388608)) 2 (rdMust (decide (at' = n)) 21 bad)) := by
  by_cases hb : bad = 0
  · subst hb
    obtain ⟨hm, hkm, hG⟩ := h.good rfl
    rw [show many - k = 0 from by have := hk rfl; omega] at hG
    rw [← hG]
    unfold finP joinS rdMust
    simp only [secsF]
    by_cases h1 : at' = n
    · by_cases h2 : sizeS acc ≤ 8388608
      · simp [h1, h2]
      · have : 8388608 < sizeS acc := by omega
        simp [h1, h2, this]
    · simp [h1]
  · rw [h.wrong hb]
    unfold rdMust
    simp [hb]
end Go.Proofs.Ytpalafbapehodaa
