/- What is put is got again; what is got, put again, is the bytes: packs, in plain Lean. -/
import Derived.Test.YtbomloodllddaaaPk28
namespace Go.Proofs.Ytbomloodllddaaa
/-- kinds rise, from one ahead on -/
def okUp : Option Nat → Nat → Bool
  | none, _ => true
  | some q, n => decide (q < n)
def upS : Option Nat → List Sec → Bool
  | _, [] => true
  | p, x :: l => okUp p x.1 && upS (some x.1) l
theorem low_ok (p : Option Nat) (n : Nat) : lowAt p n = !okUp p n := by cases p with
  | none => rfl
  | some q => rw [Bool.eq_iff_iff]; simp [lowAt, okUp]
theorem join_mid (t : List UInt8) {a b c : Nat} (h1 : a ≤ b) (h2 : b ≤ c) : (t.drop a).take (b - a) ++ (t.drop b).take (c - b) = (t.drop a).take (c - a) := by
  have := take_drop_join t a (b - a) (c - b)
  rwa [show a + (b - a) = b from by omega, show b - a + (c - b) = c - a from by omega] at this
theorem upS_iff : ∀ (l : List Sec) (p : Option Nat), upS p l = true ↔ (∀ q x, p = some q → l[0]? = some x → q < x.1) ∧ ∀ (i : Nat) x y, l[i]? = some x → l[i + 1]? = some y → x.1 < y.1
  | [], p => by simp [upS]
  | z :: l, p => by
    rw [upS, Bool.and_eq_true, upS_iff l (some z.1)]
    constructor
    · rintro ⟨h1, h2, h3⟩
      refine ⟨fun q x hq hx => ?_, fun i x y hx hy => ?_⟩
      · simp at hx; subst hx; subst hq; simpa [okUp] using h1
      · cases i with
        | zero => simp at hx hy; subst hx; exact h2 _ y rfl (by simpa using hy)
        | succ i => exact h3 i x y (by simpa using hx) (by simpa using hy)
    · rintro ⟨h1, h2⟩
      refine ⟨?_, fun q x hq hx => ?_, fun i x y hx hy => h2 (i + 1) x y (by simpa using hx) (by simpa using hy)⟩
      · cases p with
        | none => rfl
        | some q => simpa [okUp] using h1 q z rfl rfl
      · simp at hq; subst hq; exact h2 0 z x rfl (by simpa using hx)
theorem rises_iff (l : List Sec) : risesTo l l.length = true ↔ ∀ (i : Nat) x y, l[i]? = some x → l[i + 1]? = some y → x.1 < y.1 := by
  unfold risesTo
  rw [List.all_eq_true]
  constructor
  · intro h i x y hx hy
    have hl := (List.getElem?_eq_some_iff.1 hy).1
    have := h (i + 1) (List.mem_range.2 hl)
    simpa [List.getD, hx, hy] using this
  · intro h i hi
    have hi := List.mem_range.1 hi
    cases i with
    | zero => rfl
    | succ i =>
      have hx : l[i]? = some (l.getD i (0, [])) := by rw [List.getD_eq_getElem?_getD, List.getElem?_eq_getElem (by omega)]; rfl
      have hy : l[i + 1]? = some (l.getD (i + 1) (0, [])) := by rw [List.getD_eq_getElem?_getD, List.getElem?_eq_getElem hi]; rfl
      have := h i _ _ hx hy
      simpa using this
theorem rises_up (l : List Sec) : risesTo l l.length = upS none l := by
  rw [Bool.eq_iff_iff, rises_iff, upS_iff]
  exact ⟨fun h => ⟨fun q x hq => by simp at hq, h⟩, fun h => h.2⟩
theorem gett_most (A x B : List UInt8) (most : Int) (hx : U64 x.length) (hm : (x.length : Int) ≤ most) : gett (A ++ (vput x.length ++ x) ++ B) A.length most = (x, (A.length : Int) + (vput x.length ++ x).length, 0) := by
  have e : A ++ (vput x.length ++ x) ++ B = A ++ vput x.length ++ (x ++ B) := by simp
  have h := vget_back A (x ++ B) x.length hx
  rw [← e] at h
  have h' : vget (A ++ (vput x.length ++ x) ++ B) A.length = (x.length, ((A.length + (vput x.length).length : Nat) : Int), 0) := h
  rw [gett_ok h' (by omega) (by simp; omega)]
  refine Prod.ext ?_ (Prod.ext ?_ rfl)
  · show ((A ++ (vput x.length ++ x) ++ B).drop (A.length + (vput x.length).length)).take x.length = x
    rw [e, ← List.append_assoc, show A.length + (vput x.length).length = (A ++ vput x.length).length from by simp, drop_mid]
  · simp; omega
theorem secsF_back : ∀ (l : List Sec) (A B : List UInt8) (p : Option Nat), (∀ x ∈ l, U64 x.1 ∧ x.2.length ≤ 8388608) → upS p l = true →
    secsF (A ++ l.flatMap psec ++ B) l.length p A.length = (l, ((A.length + (l.flatMap psec).length : Nat) : Int), 0)
  | [], A, B, p, _, _ => by simp [secsF]
  | x :: l, A, B, p, hl, hu => by
    obtain ⟨h1, h2⟩ := hl x (by simp)
    rw [upS, Bool.and_eq_true] at hu
    have e1 : A ++ (x :: l).flatMap psec ++ B = A ++ vput x.1 ++ ((vput x.2.length ++ x.2) ++ l.flatMap psec ++ B) := by simp [psec]
    have e2 : A ++ (x :: l).flatMap psec ++ B = (A ++ vput x.1) ++ (vput x.2.length ++ x.2) ++ (l.flatMap psec ++ B) := by simp [psec]
    have e3 : A ++ (x :: l).flatMap psec ++ B = (A ++ psec x) ++ l.flatMap psec ++ B := by simp
    have v := vget_back A ((vput x.2.length ++ x.2) ++ l.flatMap psec ++ B) x.1 h1
    rw [← e1] at v
    have g := gett_most (A ++ vput x.1) x.2 (l.flatMap psec ++ B) 8388608 (u64_small (by omega)) (by omega)
    rw [← e2] at g
    have r := secsF_back l (A ++ psec x) B (some x.1) (fun y hy => hl y (by simp [hy])) hu.2
    rw [← e3] at r
    have a1 : (A.length : Int) + (vput x.1).length = ((A ++ vput x.1).length : Nat) := by simp
    have a2 : (((A ++ vput x.1).length : Nat) : Int) + (vput x.2.length ++ x.2).length = ((A ++ psec x).length : Nat) := by simp [psec]; omega
    simp only [List.length_cons, secsF, v]
    rw [if_neg (by simp), if_neg (by rw [low_ok, hu.1]; decide), a1, g]
    dsimp only
    rw [if_neg (by simp), a2, r]
    dsimp only
    rw [if_neg (by simp)]
    simp [psec]; omega
theorem finP_ok {n : Int} {l : List Sec} (h : sizeS l ≤ 8388608) : finP n (l, n, 0) = (l, 0) := by unfold finP; rw [if_neg (by simp), if_neg (by simp), if_neg (by dsimp only; omega)]
/-- what is put is got again -/
theorem pack_back {l : List Sec} (hl : SecsOk l) (h : (putP l).2 = 0) : getP (putP l).1 = (l, 0) := by
  unfold putP at h ⊢
  split at h
  · simp at h
  · rename_i h1
    rw [if_neg h1]
    split at h
    · rename_i h2
      rw [if_pos h2]
      dsimp only
      have h64 : l.length ≤ 64 := by omega
      have hsz : sizeS l ≤ 8388608 := by omega
      obtain ⟨s, hs⟩ : ∃ s, packB l = s := ⟨_, rfl⟩
      have hbody : ∀ x ∈ l, U64 x.1 ∧ x.2.length ≤ 8388608 := fun x hx => by
        refine ⟨(hl x hx).1, ?_⟩
        obtain ⟨a, b, rfl⟩ := List.append_of_mem hx
        rw [sizeS_append] at hsz; simp [sizeS] at hsz; omega
      have hp4 : (put4 (sumOn 0 s)).length = 4 := rfl
      have hs5 : s.take 5 = begB := by rw [← hs]; unfold packB; simp [begB]
      have hlen : 6 ≤ s.length := by
        rw [← hs]; unfold packB; have := vput_pos l.length; simp [begB]; omega
      have hn : (s ++ put4 (sumOn 0 s)).length - 4 = s.length := by rw [List.length_append, hp4]; omega
      rw [hs]
      unfold getP
      rw [hn, List.take_left, List.drop_left, if_neg (by rw [List.length_append, hp4]; omega), if_neg (by rw [List.take_append_of_le_length (by omega)]; simpa using hs5), if_neg (by simp)]
      have hv : vget s 5 = (l.length, (((begB ++ vput l.length).length : Nat) : Int), 0) := by
        have := vget_back begB (l.flatMap psec) l.length (u64_small (by omega))
        rw [← hs]; unfold packB
        rw [show ((5 : Int)) = (begB.length : Nat) from rfl, this]
        simp
      rw [hv]
      dsimp only
      rw [if_neg (by simp), if_neg (by omega)]
      have hr := secsF_back l (begB ++ vput l.length) [] none hbody (by rw [← rises_up]; exact h2)
      rw [List.append_nil] at hr
      have he : begB ++ vput l.length ++ l.flatMap psec = s := hs
      rw [he] at hr
      rw [hr]
      have hz : ((begB ++ vput l.length).length + (l.flatMap psec).length : Nat) = s.length := by rw [← he]; simp; omega
      rw [hz]
      exact finP_ok hsz
    · simp at h
/-- what is read, one section after the other, written again -/
theorem secsF_once (s : List UInt8) : ∀ (m : Nat) (p : Option Nat) (a : Nat), a ≤ s.length → (secsF s m p a).2.2 = 0 →
    (secsF s m p a).1.length = m ∧ upS p (secsF s m p a).1 = true ∧ (∀ x ∈ (secsF s m p a).1, U64 x.1 ∧ x.2.length ≤ 8388608) ∧
    ∃ z : Nat, (secsF s m p a).2.1 = z ∧ a ≤ z ∧ z ≤ s.length ∧ (secsF s m p a).1.flatMap psec = (s.drop a).take (z - a)
  | 0, p, a, ha, _ => by simp only [secsF]; exact ⟨rfl, rfl, fun x hx => by simp at hx, a, rfl, Nat.le_refl _, ha, by simp⟩
  | m + 1, p, a, ha, h => by
    simp only [secsF] at h ⊢
    rcases vget_cases s (a : Int) with ⟨e, hv, he⟩ | ⟨m0, k, n, hm0, hk, hmk, hp, hn, hv⟩
    · rw [hv] at h
      dsimp only at h
      rw [if_pos (by omega)] at h
      simp at h; omega
    obtain rfl : m0 = a := by omega
    rw [hv] at h ⊢
    dsimp only at h ⊢
    rw [if_neg (by simp)] at h ⊢
    split at h
    · simp at h
    rename_i hpr
    rw [if_neg hpr]
    split at h
    · rename_i hne; simp at h; exact absurd h hne
    rename_i hg
    rw [if_neg hg]
    have hg0 : (gett s ((m0 : Int) + k + 1) 8388608).2.2 = 0 := by simpa using hg
    -- the text
    have hgl := gett_len s ((m0 : Int) + k + 1)
    have hgo : ∃ z1 : Nat, (gett s ((m0 : Int) + k + 1) 8388608).2.1 = z1 ∧ m0 + k + 1 ≤ z1 ∧ z1 ≤ s.length ∧ vput (gett s ((m0 : Int) + k + 1) 8388608).1.length ++ (gett s ((m0 : Int) + k + 1) 8388608).1 = (s.drop (m0 + k + 1)).take (z1 - (m0 + k + 1)) := by
      unfold gett at hg0 ⊢
      split at hg0
      · rename_i h1; simp at hg0; exact absurd hg0 h1
      rename_i h1
      rw [if_neg h1]
      split at hg0
      · simp at hg0
      rename_i h2
      rw [if_neg h2]
      split at hg0
      · simp at hg0
      rename_i h3
      rw [if_neg h3]
      rcases vget_cases s ((m0 : Int) + k + 1) with ⟨e, hv', he⟩ | ⟨m1, k1, n1, hm1, hk1, hmk1, hp1, hn1, hv'⟩
      · rw [hv'] at h1; simp at h1; omega
      obtain rfl : m1 = m0 + k + 1 := by omega
      rw [hv'] at h3 ⊢
      dsimp only at h3 ⊢
      have ho := gett_once hp1 hmk1 h3
      rw [show (((m0 + k + 1 : Nat) : Int) + k1 + 1).toNat = m0 + k + 1 + k1 + 1 from by omega, ho]
      exact ⟨m0 + k + 1 + k1 + 1 + n1, by omega, by omega, by omega, by rw [show m0 + k + 1 + k1 + 1 + n1 - (m0 + k + 1) = k1 + 1 + n1 from by omega]⟩
    obtain ⟨z1, hz1, hz2, hz3, hz4⟩ := hgo
    rw [hz1] at h ⊢
    have ih := secsF_once s m (some n) z1 hz3
    split at h
    · rename_i hne; simp at h; exact absurd h hne
    rename_i hr
    rw [if_neg hr]
    obtain ⟨i1, i2, i3, z, i4, i5, i6, i7⟩ := ih (by simpa using hr)
    dsimp only
    refine ⟨by simp [i1], ?_, ?_, z, i4, by omega, i6, ?_⟩
    · rw [upS, i2, Bool.and_true]
      rw [low_ok] at hpr
      simpa using hpr
    · intro x hx
      rcases List.mem_cons.1 hx with rfl | hx
      · exact ⟨hn, hgl⟩
      · exact i3 x hx
    · rw [List.flatMap_cons, i7]
      unfold psec
      dsimp only
      rw [hz4, hp]
      have e1 := join_mid s (a := m0) (b := m0 + k + 1) (c := z1) (by omega) hz2
      have e2 := join_mid s (a := m0) (b := z1) (c := z) (by omega) i5
      rw [show m0 + k + 1 - m0 = k + 1 from by omega] at e1
      rw [e1, e2]
/-- what is got, put again -/
theorem pack_once {t : List UInt8} (h : (getP t).2 = 0) : SecsOk (getP t).1 ∧ putP (getP t).1 = (t, 0) := by
  unfold getP at h ⊢
  split at h
  · simp at h
  rename_i h9
  rw [if_neg h9]
  split at h
  · simp at h
  rename_i h5
  rw [if_neg h5]
  split at h
  · simp at h
  rename_i h4
  rw [if_neg h4]
  have h5' : t.take 5 = begB := by simpa using h5
  have h4' : t.drop (t.length - 4) = put4 (sumOn 0 (t.take (t.length - 4))) := by simpa using h4
  obtain ⟨s, hs⟩ : ∃ s, t.take (t.length - 4) = s := ⟨_, rfl⟩
  have hsl : s.length = t.length - 4 := by rw [← hs, List.length_take]; omega
  have hs5 : s.take 5 = begB := by rw [← h5', ← hs, List.take_take]; congr 1; omega
  rw [hs] at h h4' ⊢
  split at h
  · rename_i hne; simp at h; exact absurd h hne
  rename_i hv0
  rw [if_neg hv0]
  split at h
  · simp at h
  rename_i hm
  rw [if_neg hm]
  rcases vget_cases s 5 with ⟨e, hv, he⟩ | ⟨m0, k, n, hm0, hk, hmk, hp, hn, hv⟩
  · rw [hv] at hv0; simp at hv0; omega
  obtain rfl : m0 = 5 := by omega
  rw [hv] at h hm ⊢
  dsimp only at h hm ⊢
  have e6 : ((5 : Nat) : Int) + k + 1 = ((5 + k + 1 : Nat) : Int) := by omega
  rw [e6] at h ⊢
  have ho := secsF_once s n none (5 + k + 1) (by omega)
  generalize secsF s n none ((5 + k + 1 : Nat) : Int) = r at h ho ⊢
  obtain ⟨r1, r2, r3⟩ := r
  dsimp only at h ho ⊢
  split at h
  · rename_i hne; simp at h; exact absurd h hne
  rename_i hr3
  rw [if_neg hr3]
  have hr3' : r3 = 0 := by simpa using hr3
  split at h
  · simp at h
  rename_i hr2
  rw [if_neg hr2]
  have hr2' : r2 = ((t.length - 4 : Nat) : Int) := by simpa using hr2
  split at h
  · simp at h
  rename_i hsz
  rw [if_neg hsz]
  dsimp only
  obtain ⟨o1, o2, o3, z, o4, o5, o6, o7⟩ := ho hr3'
  have hz : z = s.length := by omega
  refine ⟨fun x hx => ⟨(o3 x hx).1, by have := (o3 x hx).2; omega⟩, ?_⟩
  have hpk : packB r1 = s := by
    unfold packB
    rw [o1, o7, ← hs5, hp]
    have e1 := take_drop_join s 0 5 (k + 1)
    rw [List.drop_zero, Nat.zero_add] at e1
    rw [e1]
    have e2 := take_drop_join s 0 (5 + (k + 1)) (z - (5 + k + 1))
    rw [List.drop_zero, Nat.zero_add] at e2
    rw [show 5 + k + 1 = 5 + (k + 1) from by omega] at *
    rw [e2, List.take_of_length_le (by omega)]
  unfold putP
  rw [if_neg (by omega), rises_up, if_pos o2, hpk, ← h4', ← hs, List.take_append_drop]
end Go.Proofs.Ytbomloodllddaaa
