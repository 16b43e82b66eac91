/- Plain law: what is read of any bytes, written again, is the bytes (P25.4). No conditions; no program. -/
import Derived.Test.YtbomloodllddaaaPk45
import Derived.Test.YtbomloodllddaaaPk38
import Derived.Test.YtbomloodllddaaaPk53
import Derived.Test.YtbomloodllddaaaPk42
namespace Go.Proofs.Ytbomloodllddaaa
open Go.RowKit
theorem errS_zero {len : Nat} {a b : Int} {wd : Bool} (h : errS len a b wd = 0) : b = 0 ∧ a = len ∧ wd = false := by
  unfold errS at h
  by_cases h1 : b ≠ 0
  · rw [if_pos h1] at h; exact absurd h h1
  · rw [if_neg h1] at h
    by_cases h2 : a ≠ len ∨ wd = true
    · rw [if_pos h2] at h; exact absurd h (by decide)
    · refine ⟨by simpa using h1, Classical.byContradiction fun h3 => h2 (.inl h3), ?_⟩
      cases wd
      · rfl
      · exact absurd (.inr rfl) h2
theorem wideL_cut {l : List Nat} (h : wideL l = false) : natsI (cutL l) = l := by
  unfold natsI cutL
  rw [List.map_map]
  have : ∀ x ∈ l, (Int.toNat ∘ cutI) x = x := fun x hx => by
    have h1 := List.any_eq_false.1 h x hx
    simp at h1
    show (cutI x).toNat = x
    unfold cutI
    omega
  rw [List.map_congr_left this, List.map_id']
theorem vputs_all {s : List UInt8} {a most : Int} (ha : a = 0) (h : (geta s a most).2.2 = 0) (he : (geta s a most).2.1 = s.length) : vputs (geta s a most).1 = s := by
  obtain ⟨_, m, m', h1, h2, h3, h4, h5, _⟩ := geta_once h
  have e1 : m = 0 := by omega
  have e2 : m' = s.length := by omega
  rw [h5, e1, e2, List.drop_zero, Nat.sub_zero, List.take_length]
theorem sec1_once {s : List UInt8} (h : err1 s = 0) : vputs (natsI [(cutL (sec1L s)).getD 0 0, (cutL (sec1L s)).getD 1 0, (cutL (sec1L s)).getD 2 0, (cutL (sec1L s)).getD 3 0]) = s := by
  unfold err1 at h
  obtain ⟨h1, h2, h3⟩ := errS_zero h
  unfold sec1B at h1
  have h4 : (geta s 0 4).2.2 = 0 ∧ (sec1L s).length = 4 := by
    by_cases hc : (geta s 0 4).2.2 = 0 ∧ (sec1L s).length ≠ 4
    · rw [if_pos hc] at h1; exact absurd h1 (by decide)
    · rw [if_neg hc] at h1
      exact ⟨h1, Classical.byContradiction fun h5 => hc ⟨h1, h5⟩⟩
  have h5 := vputs_all rfl h4.1 h2
  have h6 := wideL_cut h3
  have h7 : (cutL (sec1L s)).length = 4 := by rw [cutL_len]; exact h4.2
  generalize cutL (sec1L s) = c at h6 h7 ⊢
  match c, h7 with
  | [a, b, c, d], _ =>
    show vputs (natsI [a, b, c, d]) = s
    rw [h6]; exact h5
theorem sec2_once {s : List UInt8} (h : (getI s).1 = 0) : (putI (getI s).2).1 = s := by
  obtain ⟨h1, h2, h3⟩ := getI_once (t := s) (l := (getI s).2) (by rw [← h])
  unfold putI
  rw [if_pos (allI_good (by omega) h2)]
  exact h3
theorem vget_once {s : List UInt8} {m : Nat} (h : (vget s m).2.2 = 0) : ∃ k, (vget s m).2.1 = ((m + k + 1 : Nat) : Int) ∧ m + k < s.length ∧ vput (vget s m).1 = (s.drop m).take (k + 1) ∧ (vget s m).1 < p64 := by
  rcases vget_cases s m with ⟨e, hv, he⟩ | ⟨m', k, n, hm, hk, hmk, hp, hn, hv⟩
  · rw [hv] at h; exact absurd h (show e ≠ 0 by omega)
  · have : m' = m := by omega
    subst this
    rw [hv]
    exact ⟨k, by push_cast; rfl, hmk, hp, hn⟩
theorem rdL_zeroD (s : List UInt8) (a most : Int) : rdL s a 0 most = geta s a most := if_neg (by simp)
theorem tab1_once {s : List UInt8} {m : Nat} (h : (tab1 s m).2.2.1 = 0) (hw : (tab1 s m).2.2.2 = false) : ∃ m' : Nat, (tab1 s m).2.1 = m' ∧ m < m' ∧ m' ≤ s.length ∧ tabB (tab1 s m).1 = (s.drop m).take (m' - m) := by
  unfold tab1 at h hw ⊢
  dsimp only at h hw ⊢
  by_cases h0 : (vget s m).2.2 = 0
  rotate_left
  · unfold rdL at h; rw [if_pos h0] at h; exact absurd h h0
  obtain ⟨k, h1, h2, h3, h4⟩ := vget_once h0
  rw [h0] at h hw ⊢
  rw [rdL_zeroD] at h hw ⊢
  rw [Bool.or_eq_false_iff] at hw
  obtain ⟨_, m1, m', e1, e2, e3, e4, e5, _⟩ := geta_once h
  have e6 : m1 = m + k + 1 := by rw [h1] at e1; omega
  subst e6
  refine ⟨m', e2, by omega, e4, ?_⟩
  unfold tabB
  rw [wideL_cut hw.2, e5]
  have e7 : (cutI (vget s m).1).toNat = (vget s m).1 := by
    have := hw.1
    simp at this
    unfold cutI; omega
  dsimp only
  rw [e7, h3, Nat.add_assoc, take_drop_join]
  congr 1; omega
theorem tabsF_once (s : List UInt8) : ∀ (n m : Nat), m ≤ s.length → (tabsF s n m).2.2.1 = 0 → (tabsF s n m).2.2.2 = false →
    (tabsF s n m).1.length = n ∧ ∃ m' : Nat, (tabsF s n m).2.1 = m' ∧ m ≤ m' ∧ m' ≤ s.length ∧ (tabsF s n m).1.flatMap tabB = (s.drop m).take (m' - m)
  | 0, m, hm, _, _ => ⟨rfl, m, rfl, Nat.le_refl _, hm, by simp [tabsF]⟩
  | n + 1, m, hm, h, hw => by
    unfold tabsF at h hw ⊢
    by_cases h1 : (tab1 s m).2.2.1 ≠ 0
    · rw [if_pos h1] at h; exact absurd h h1
    rw [if_neg h1] at h hw ⊢
    by_cases h2 : (tabsF s n (tab1 s m).2.1).2.2.1 ≠ 0
    · rw [if_pos h2] at h; exact absurd h h2
    rw [if_neg h2] at h hw ⊢
    dsimp only at h hw ⊢
    rw [Bool.or_eq_false_iff] at hw
    obtain ⟨m1, e1, e2, e3, e4⟩ := tab1_once (by simpa using h1) hw.1
    rw [e1] at h2 hw ⊢
    obtain ⟨f1, m', f2, f3, f4, f5⟩ := tabsF_once s n m1 e3 (by simpa using h2) hw.2
    refine ⟨by rw [List.length_cons, f1], m', f2, by omega, f4, ?_⟩
    rw [List.flatMap_cons, e4, f5]
    have e : (s.drop m1) = s.drop (m + (m1 - m)) := by congr 1; omega
    rw [e, take_drop_join]
    congr 1; omega
theorem rdC_once {s : List UInt8} {most : Nat} (h : (rdC s most).2.2 = 0) : (rdC s most).1 ≤ most ∧ ∃ m : Nat, (rdC s most).2.1 = m ∧ m ≤ s.length ∧ vput (rdC s most).1 = s.take m := by
  unfold rdC at h ⊢
  by_cases h1 : (vget s 0).2.2 ≠ 0
  · rw [if_pos h1] at h; dsimp only at h; exact absurd h h1
  rw [if_neg h1] at h ⊢
  by_cases h2 : most < (vget s 0).1
  · rw [if_pos h2] at h; exact absurd h (by decide)
  rw [if_neg h2]
  obtain ⟨k, e1, e2, e3, _⟩ := vget_once (m := 0) (by simpa using h1)
  refine ⟨by omega, k + 1, ?_, by omega, ?_⟩
  · rw [show ((0 : Nat) : Int) = 0 from rfl] at e1; rw [e1]; simp
  · rw [show ((0 : Nat) : Int) = 0 from rfl] at e3; rw [e3, List.drop_zero]
theorem sec3_once {s : List UInt8} (h : err3 s = 0) : vput (sec3F s).1.length ++ (sec3F s).1.flatMap tabB = s := by
  unfold err3 at h
  obtain ⟨h1, h2, h3⟩ := errS_zero h
  unfold sec3F at h1 h2 h3 ⊢
  by_cases hc : (rdC s 16).2.2 ≠ 0
  · rw [if_pos hc] at h1; dsimp only at h1; exact absurd h1 hc
  rw [if_neg hc] at h1 h2 h3 ⊢
  obtain ⟨_, m, e1, e2, e3⟩ := rdC_once (by simpa using hc)
  rw [e1] at h1 h2 h3 ⊢
  obtain ⟨f1, m', f2, f3, f4, f5⟩ := tabsF_once s _ m e2 h1 h3
  have e4 : m' = s.length := by rw [f2] at h2; omega
  rw [f1, e3, f5, e4]
  rw [List.take_of_length_le (l := s.drop m) (by simp), List.take_append_drop]
theorem gettO {s : List UInt8} {m : Nat} {most : Int} (h : (gett s m most).2.2 = 0) : ∃ m' : Nat, (gett s m most).2.1 = m' ∧ m < m' ∧ m' ≤ s.length ∧ txtB (gett s m most).1 = (s.drop m).take (m' - m) := by
  rcases vget_cases s m with ⟨e, hv, he⟩ | ⟨m0, k, n, hm, hk, hmk, hp, hn, hv⟩
  · rw [gett_bad hv (by omega)] at h; exact absurd h (by show e ≠ 0; omega)
  · have : m0 = m := by omega
    subst this
    by_cases h1 : max most 0 < (n : Int)
    · rw [gett_long hv h1] at h; exact absurd h (by decide)
    · by_cases h2 : (s.length : Int) - ((m0 : Int) + k + 1) < n
      · rw [gett_short hv h1 h2] at h; exact absurd h (by decide)
      · have hv' : vget s m0 = (n, ((m0 + k + 1 : Nat) : Int), 0) := by rw [hv]; push_cast; rfl
        rw [gett_ok hv' h1 (by push_cast; omega)]
        refine ⟨m0 + k + 1 + n, by push_cast; rfl, by omega, by omega, ?_⟩
        unfold txtB
        dsimp only
        rw [gett_once hp hmk h2]
        congr 1; omega
theorem textsF_once (s : List UInt8) : ∀ (n m : Nat), m ≤ s.length → (textsF s n m).2.2 = 0 →
    (textsF s n m).1.length = n ∧ ∃ m' : Nat, (textsF s n m).2.1 = m' ∧ m ≤ m' ∧ m' ≤ s.length ∧ (textsF s n m).1.flatMap txtB = (s.drop m).take (m' - m)
  | 0, m, hm, _ => ⟨rfl, m, rfl, Nat.le_refl _, hm, by simp [textsF]⟩
  | n + 1, m, hm, h => by
    unfold textsF at h ⊢
    by_cases h1 : (gett s m 4096).2.2 ≠ 0
    · rw [if_pos h1] at h; exact absurd h h1
    rw [if_neg h1] at h ⊢
    by_cases h2 : (textsF s n (gett s m 4096).2.1).2.2 ≠ 0
    · rw [if_pos h2] at h; exact absurd h h2
    rw [if_neg h2] at h ⊢
    dsimp only at h ⊢
    obtain ⟨m1, e1, e2, e3, e4⟩ := gettO (by simpa using h1)
    rw [e1] at h2 ⊢
    obtain ⟨f1, m', f2, f3, f4, f5⟩ := textsF_once s n m1 e3 (by simpa using h2)
    refine ⟨by rw [List.length_cons, f1], m', f2, by omega, f4, ?_⟩
    rw [List.flatMap_cons, e4, f5]
    have e : (s.drop m1) = s.drop (m + (m1 - m)) := by congr 1; omega
    rw [e, take_drop_join]
    congr 1; omega
theorem sec4_once {s : List UInt8} (h : err4 s = 0) : vput (sec4F s).1.length ++ (sec4F s).1.flatMap txtB = s := by
  unfold err4 at h
  obtain ⟨h1, h2, _⟩ := errS_zero h
  unfold sec4F at h1 h2 ⊢
  by_cases hc : (rdC s 4096).2.2 ≠ 0
  · rw [if_pos hc] at h1; dsimp only at h1; exact absurd h1 hc
  rw [if_neg hc] at h1 h2 ⊢
  obtain ⟨_, m, e1, e2, e3⟩ := rdC_once (by simpa using hc)
  rw [e1] at h1 h2 ⊢
  obtain ⟨f1, m', f2, f3, f4, f5⟩ := textsF_once s _ m e2 h1
  have e4 : m' = s.length := by rw [f2] at h2; omega
  rw [f1, e3, f5, e4]
  rw [List.take_of_length_le (l := s.drop m) (by simp), List.take_append_drop]
theorem wide32_low {l : List Nat} (h : wide32 l = false) : low32 l = l := by
  unfold low32
  have : ∀ x ∈ l, x % 4294967296 = x := fun x hx => by
    have h1 := List.any_eq_false.1 h x hx
    simp at h1
    omega
  rw [List.map_congr_left this, List.map_id']
theorem rdL_ok {s : List UInt8} {a b most : Int} (h : (rdL s a b most).2.2 = 0) : b = 0 ∧ rdL s a b most = geta s a most := by
  unfold rdL at h ⊢
  by_cases h1 : b ≠ 0
  · rw [if_pos h1] at h; exact absurd h h1
  · exact ⟨by simpa using h1, if_neg h1⟩
theorem sec5_once {s : List UInt8} (h : err5 s = 0) : (vputs (low32 (seedF s).1) ++ vputs (keyF s).1) ++ vputs (valF s).1 = s := by
  unfold err5 at h
  obtain ⟨h1, h2, h3⟩ := errS_zero h
  rw [wide32_low h3]
  have hv : valF s = rdL s (keyF s).2.1 (keyF s).2.2 4096 := by unfold valF; rfl
  have hk : keyF s = rdL s (seedF s).2.1 (seedF s).2.2 4096 := by unfold keyF; rfl
  rw [hv] at h1 h2 ⊢
  obtain ⟨k1, e1⟩ := rdL_ok h1
  rw [e1] at h1 h2 ⊢
  rw [hk] at h1 h2 k1 ⊢
  obtain ⟨s1, e2⟩ := rdL_ok k1
  rw [e2] at h1 h2 k1 ⊢
  clear e1 e2 hv hk
  have e0 : seedF s = geta s 0 4096 := by unfold seedF; rfl
  rw [e0] at h1 h2 k1 s1 ⊢
  clear e0 h h3
  obtain ⟨_, a0, a1, b1, b2, b3, b4, b5, _⟩ := geta_once s1
  have z0 : a0 = 0 := by omega
  subst z0
  rw [b2] at h1 h2 k1 ⊢
  obtain ⟨_, a2, a3, c1, c2, c3, c4, c5, _⟩ := geta_once k1
  have z1 : a2 = a1 := by omega
  subst z1
  rw [c2] at h1 h2 ⊢
  obtain ⟨_, a4, a5, d1, d2, d3, d4, d5, _⟩ := geta_once h1
  have z2 : a4 = a3 := by omega
  subst z2
  have z3 : a5 = s.length := by rw [d2] at h2; omega
  subst z3
  rw [b5, c5, d5, List.drop_zero, Nat.sub_zero]
  have e1 := take_drop_join s 0 a2 (a4 - a2)
  rw [List.drop_zero, Nat.zero_add] at e1
  rw [e1, show a2 + (a4 - a2) = a4 from by omega, List.take_of_length_le (l := s.drop a4) (by simp), List.take_append_drop]
theorem errTo_zero {l : List Sec} : ∀ {n : Nat}, errTo l n = 0 → ∀ k, k < n → secE k (bodyS l k) = 0
  | 0, _, k, hk => by omega
  | n + 1, h, k, hk => by
    have h' : (if errTo l n ≠ 0 then errTo l n else secE n (bodyS l n)) = 0 := h
    by_cases h1 : errTo l n ≠ 0
    · rw [if_pos h1] at h'; exact absurd h' h1
    · rw [if_neg h1] at h'
      rcases Nat.lt_or_ge k n with h2 | h2
      · exact errTo_zero (by simpa using h1) k h2
      · obtain rfl : k = n := by omega
        exact h'
theorem list_five {l : List Sec} (h : kindsOk l = true) : l = [(1, bodyS l 0), (2, bodyS l 1), (3, bodyS l 2), (4, bodyS l 3), (5, bodyS l 4)] := by
  unfold kindsOk at h
  rw [Bool.and_eq_true, decide_eq_true_eq] at h
  obtain ⟨h1, h2⟩ := h
  match l, h1 with
  | [a, b, c, d, e], _ =>
    have h3 := fun k hk => of_decide_eq_true (List.all_eq_true.1 h2 k (List.mem_range.2 hk))
    have e0 := h3 0 (by omega)
    have e1 := h3 1 (by omega)
    have e2 := h3 2 (by omega)
    have e3 := h3 3 (by omega)
    have e4 := h3 4 (by omega)
    simp [bodyS] at e0 e1 e2 e3 e4 ⊢
    exact ⟨Prod.ext e0 rfl, Prod.ext e1 rfl, Prod.ext e2 rfl, Prod.ext e3 rfl, Prod.ext e4 rfl⟩
theorem secE_five (s : List UInt8) : secE 0 s = err1 s ∧ secE 1 s = (getI s).1 ∧ secE 2 s = err3 s ∧ secE 3 s = err4 s ∧ secE 4 s = err5 s := ⟨rfl, rfl, rfl, rfl, rfl⟩
theorem prgTo_five (l : List Sec) : prgTo l 5 = ⟨(cutL (sec1L (bodyS l 0))).getD 0 0, (cutL (sec1L (bodyS l 0))).getD 1 0, (cutL (sec1L (bodyS l 0))).getD 2 0, (cutL (sec1L (bodyS l 0))).getD 3 0, (getI (bodyS l 1)).2, (sec3F (bodyS l 2)).1, (sec4F (bodyS l 3)).1, ⟨low32 (seedF (bodyS l 4)).1, (keyF (bodyS l 4)).1, (valF (bodyS l 4)).1⟩⟩ := by
  simp only [prgTo, secP, prg0]
/-- what is decoded of any bytes, encoded again, is the bytes -/
theorem dec_once {t : List UInt8} {P : Prg} (h : decI t = (P, 0)) : encI P = (t, 0) := by
  unfold decI at h
  by_cases h1 : (getP t).2 ≠ 0
  · rw [if_pos h1] at h
    simp only [Prod.mk.injEq] at h
    exact absurd h.2 h1
  rw [if_neg h1] at h
  obtain ⟨q1, q2⟩ := pack_once (t := t) (by simpa using h1)
  generalize (getP t).1 = l at h q1 q2
  unfold decS at h
  by_cases h2 : kindsOk l = false
  · rw [if_pos h2] at h; simp at h
  rw [if_neg h2] at h
  by_cases h3 : errTo l 5 ≠ 0
  · rw [if_pos h3] at h
    simp only [Prod.mk.injEq] at h
    exact absurd h.2 h3
  rw [if_neg h3] at h
  by_cases h4 : writI (prgTo l 5) ≠ 0
  · rw [if_pos h4] at h
    simp only [Prod.mk.injEq] at h
    exact absurd h.2 h4
  rw [if_neg h4] at h
  simp only [Prod.mk.injEq] at h
  obtain ⟨rfl, _⟩ := h
  have hz := errTo_zero (l := l) (n := 5) (by simpa using h3)
  have r1 := sec1_once (s := bodyS l 0) (by rw [← (secE_five _).1]; exact hz 0 (by omega))
  have r2 := sec2_once (s := bodyS l 1) (by rw [← (secE_five _).2.1]; exact hz 1 (by omega))
  have r3 := sec3_once (s := bodyS l 2) (by rw [← (secE_five _).2.2.1]; exact hz 2 (by omega))
  have r4 := sec4_once (s := bodyS l 3) (by rw [← (secE_five _).2.2.2.1]; exact hz 3 (by omega))
  have r5 := sec5_once (s := bodyS l 4) (by rw [← (secE_five _).2.2.2.2]; exact hz 4 (by omega))
  have hf := list_five (l := l) (by simpa using h2)
  have hp := prgTo_five l
  have hl : secsI (prgTo l 5) = l := by
    rw [hp]
    unfold secsI sec1 sec3 sec4 sec5 tabsTo textsTo
    dsimp only
    rw [List.take_length, List.take_length, r1, r2, r3, r4, r5]
    exact hf.symm
  unfold encI
  rw [if_neg h4, hl]
  exact q2
end Go.Proofs.Ytbomloodllddaaa
/- Plain law: what is encoded is decoded again (P25.4). No conditions beyond the numbers' sizes; no program. -/
namespace Go.Proofs.Ytbomloodllddaaa
open Go.RowKit
theorem getn_backD : ∀ (l : List Nat), AllU64 l → ∀ (A B : List UInt8), getn (A ++ l.flatMap vput ++ B) l.length A.length = (l, (A.length : Int) + (l.flatMap vput).length, 0)
  | [], _, A, B => by simp [getn]
  | x :: l, h, A, B => by
    have e : A ++ (x :: l).flatMap vput ++ B = A ++ vput x ++ (l.flatMap vput ++ B) := by simp
    have h1 := vget_back A (l.flatMap vput ++ B) x (h x (by simp))
    rw [← e] at h1
    have ih := getn_backD l (fun n hn => h n (by simp [hn])) (A ++ vput x) B
    have e2 : A ++ vput x ++ l.flatMap vput ++ B = A ++ (x :: l).flatMap vput ++ B := by simp
    rw [e2] at ih
    have e3 : (A.length : Int) + (vput x).length = ((A ++ vput x).length : Nat) := by simp
    rw [List.length_cons, getn, h1, if_neg (by simp)]
    dsimp only
    rw [e3, ih, if_neg (by simp)]
    simp; omega
theorem geta_backM (A B : List UInt8) (l : List Nat) (most : Int) (hu : AllU64 l) (hl : U64 l.length) (hm : (l.length : Int) ≤ most) : geta (A ++ vputs l ++ B) A.length most = (l, (A.length : Int) + (vputs l).length, 0) := by
  have e : A ++ vputs l ++ B = A ++ vput l.length ++ (l.flatMap vput ++ B) := by simp [vputs]
  have h := vget_back A (l.flatMap vput ++ B) l.length hl
  rw [← e] at h
  rw [geta_go h (by omega)]
  have e2 : A ++ vputs l ++ B = (A ++ vput l.length) ++ l.flatMap vput ++ B := by simp [vputs]
  have e3 : (A.length : Int) + (vput l.length).length = ((A ++ vput l.length).length : Nat) := by simp
  rw [e3, e2, getn_backD l hu]
  simp [vputs]; omega
def SmallL (l : List Int) : Prop := ∀ n ∈ l, 0 ≤ n ∧ n ≤ 4611686018427387904
theorem small_cut {l : List Int} (h : SmallL l) : cutL (natsI l) = l ∧ wideL (natsI l) = false := by
  constructor
  · unfold cutL natsI
    rw [List.map_map]
    have : ∀ x ∈ l, (cutI ∘ Int.toNat) x = x := fun x hx => by
      have := h x hx
      show cutI x.toNat = x
      unfold cutI W62; omega
    rw [List.map_congr_left this, List.map_id']
  · unfold wideL natsI
    rw [List.any_eq_false]
    intro x hx
    obtain ⟨n, hn, rfl⟩ := List.mem_map.1 hx
    have := h n hn
    simp [W62]; omega
theorem small_nums {l : List Int} (h : SmallL l) : Nums l := fun n hn => by have := h n hn; omega
theorem errS_ok (len : Nat) : errS len (len : Int) 0 false = 0 := by unfold errS; simp
theorem back1 {a b c d : Int} (h : SmallL [a, b, c, d]) : err1 (vputs (natsI [a, b, c, d])) = 0 ∧ cutL (sec1L (vputs (natsI [a, b, c, d]))) = [a, b, c, d] := by
  have hg := geta_backM [] [] (natsI [a, b, c, d]) 4 (natsI_u64 (small_nums h)) (u64_small (by simp [natsI])) (by simp [natsI])
  simp only [List.nil_append, List.append_nil, List.length_nil] at hg
  rw [show ((0 : Nat) : Int) = 0 from rfl, Int.zero_add] at hg
  have h4 : (natsI [a, b, c, d]).length = 4 := rfl
  obtain ⟨hc, hw⟩ := small_cut h
  generalize natsI [a, b, c, d] = l at hg h4 hc hw ⊢
  have e : sec1L (vputs l) = l := by unfold sec1L; rw [hg]
  constructor
  · unfold err1 sec1B
    rw [e, hw, hg, if_neg (fun hh => hh.2 h4)]
    exact errS_ok _
  · rw [e]; exact hc
theorem tab_small {t : Int × List Int} (h : tabOk t = true) : (1 ≤ t.1 ∧ t.1 ≤ 256) ∧ t.2.length ≤ 400000 ∧ SmallL t.2 := by
  unfold tabOk at h
  simp only [Bool.and_eq_true, decide_eq_true_eq] at h
  refine ⟨⟨h.1.1, h.1.2.1⟩, h.1.2.2.2.1, fun n hn => ?_⟩
  have := List.all_eq_true.1 h.2 n hn
  unfold numOk at this
  simp only [Bool.and_eq_true, decide_eq_true_eq] at this
  omega
theorem tab1_back {t : Int × List Int} (h : tabOk t = true) (A B : List UInt8) : tab1 (A ++ tabB t ++ B) A.length = (t, (A.length : Int) + (tabB t).length, 0, false) := by
  obtain ⟨h1, h2, h3⟩ := tab_small h
  have hx : U64 t.1.toNat := u64_small (by omega)
  have e : A ++ tabB t ++ B = A ++ vput t.1.toNat ++ (vputs (natsI t.2) ++ B) := by simp [tabB]
  have v := vget_back A (vputs (natsI t.2) ++ B) t.1.toNat hx
  rw [← e] at v
  have e2 : A ++ tabB t ++ B = (A ++ vput t.1.toNat) ++ vputs (natsI t.2) ++ B := by simp [tabB]
  have e3 : (A.length : Int) + (vput t.1.toNat).length = ((A ++ vput t.1.toNat).length : Nat) := by simp
  have g := geta_backM (A ++ vput t.1.toNat) B (natsI t.2) 400000 (natsI_u64 (small_nums h3)) (u64_small (by rw [natsI_len]; omega)) (by rw [natsI_len]; omega)
  rw [← e2] at g
  obtain ⟨c1, c2⟩ := small_cut h3
  have ec : cutI t.1.toNat = t.1 := by unfold cutI W62; omega
  have ed : decide (W62 < t.1.toNat) = false := by unfold W62; simp; omega
  unfold tab1
  rw [v]
  dsimp only
  rw [rdL_zeroD, e3, g]
  dsimp only
  rw [c1, c2, ec, ed]
  refine Prod.ext rfl (Prod.ext ?_ rfl)
  simp [tabB]; omega
theorem tabsF_back : ∀ (l : List (Int × List Int)), (∀ t ∈ l, tabOk t = true) → ∀ (A B : List UInt8), tabsF (A ++ l.flatMap tabB ++ B) l.length A.length = (l, (A.length : Int) + (l.flatMap tabB).length, 0, false)
  | [], _, A, B => by simp [tabsF]
  | t :: l, h, A, B => by
    have e : A ++ (t :: l).flatMap tabB ++ B = A ++ tabB t ++ (l.flatMap tabB ++ B) := by simp
    have h1 := tab1_back (h t (by simp)) A (l.flatMap tabB ++ B)
    rw [← e] at h1
    have ih := tabsF_back l (fun n hn => h n (by simp [hn])) (A ++ tabB t) B
    have e2 : A ++ tabB t ++ l.flatMap tabB ++ B = A ++ (t :: l).flatMap tabB ++ B := by simp
    rw [e2] at ih
    have e3 : (A.length : Int) + (tabB t).length = ((A ++ tabB t).length : Nat) := by simp
    rw [List.length_cons, tabsF, h1, if_neg (by simp)]
    dsimp only
    rw [e3, ih, if_neg (by simp)]
    simp; omega
theorem rdC_back (n most : Nat) (B : List UInt8) (hn : U64 n) (hm : n ≤ most) : rdC (vput n ++ B) most = (n, ((vput n).length : Int), 0) := by
  have v := vget_back [] B n hn
  simp only [List.nil_append, List.length_nil] at v
  rw [show ((0 : Nat) : Int) = 0 from rfl, Int.zero_add] at v
  unfold rdC
  rw [v, if_neg (by simp), if_neg (by dsimp only; omega)]
theorem back3 {l : List (Int × List Int)} (h : ∀ t ∈ l, tabOk t = true) (hl : l.length ≤ 16) : err3 (vput l.length ++ l.flatMap tabB) = 0 ∧ (sec3F (vput l.length ++ l.flatMap tabB)).1 = l := by
  have e : sec3F (vput l.length ++ l.flatMap tabB) = (l, (((vput l.length ++ l.flatMap tabB).length : Nat) : Int), 0, false) := by
    unfold sec3F
    rw [rdC_back _ 16 _ (u64_small (by omega)) hl, if_neg (by simp)]
    dsimp only
    have := tabsF_back l h (vput l.length) []
    rw [List.append_nil] at this
    rw [this]; simp
  unfold err3
  rw [e]
  exact ⟨errS_ok _, rfl⟩
theorem textsF_back : ∀ (l : List (List UInt8)), (∀ x ∈ l, x.length ≤ 4096) → ∀ (A B : List UInt8), textsF (A ++ l.flatMap txtB ++ B) l.length A.length = (l, (A.length : Int) + (l.flatMap txtB).length, 0)
  | [], _, A, B => by simp [textsF]
  | t :: l, h, A, B => by
    have e : A ++ (t :: l).flatMap txtB ++ B = A ++ (vput t.length ++ t) ++ (l.flatMap txtB ++ B) := by simp [txtB]
    have h1 := gett_most A t (l.flatMap txtB ++ B) 4096 (u64_small (by have := h t (by simp); omega)) (by have := h t (by simp); omega)
    rw [← e] at h1
    have ih := textsF_back l (fun n hn => h n (by simp [hn])) (A ++ txtB t) B
    have e2 : A ++ txtB t ++ l.flatMap txtB ++ B = A ++ (t :: l).flatMap txtB ++ B := by simp
    rw [e2] at ih
    have e3 : (A.length : Int) + (vput t.length ++ t).length = ((A ++ txtB t).length : Nat) := by simp [txtB]
    rw [List.length_cons, textsF, h1, if_neg (by simp)]
    dsimp only
    rw [e3, ih, if_neg (by simp)]
    simp; omega
theorem back4 {l : List (List UInt8)} (h : ∀ x ∈ l, x.length ≤ 4096) (hl : l.length ≤ 4096) : err4 (vput l.length ++ l.flatMap txtB) = 0 ∧ (sec4F (vput l.length ++ l.flatMap txtB)).1 = l := by
  have e : sec4F (vput l.length ++ l.flatMap txtB) = (l, (((vput l.length ++ l.flatMap txtB).length : Nat) : Int), 0) := by
    unfold sec4F
    rw [rdC_back _ 4096 _ (u64_small (by omega)) hl, if_neg (by simp)]
    dsimp only
    have := textsF_back l h (vput l.length) []
    rw [List.append_nil] at this
    rw [this]; simp
  unfold err4
  rw [e]
  exact ⟨errS_ok _, rfl⟩
theorem back5 {a b c : List Nat} (ha : AllU64 a) (hb : AllU64 b) (hc : AllU64 c) (h32 : ∀ x ∈ a, x < 4294967296) (la : a.length ≤ 4096) (lb : b.length ≤ 4096) (lc : c.length ≤ 4096) :
    err5 ((vputs a ++ vputs b) ++ vputs c) = 0 ∧ low32 (seedF ((vputs a ++ vputs b) ++ vputs c)).1 = a ∧ (keyF ((vputs a ++ vputs b) ++ vputs c)).1 = b ∧ (valF ((vputs a ++ vputs b) ++ vputs c)).1 = c := by
  obtain ⟨s, hs⟩ : ∃ s, (vputs a ++ vputs b) ++ vputs c = s := ⟨_, rfl⟩
  have g1 := geta_backM [] (vputs b ++ vputs c) a 4096 ha (u64_small (by omega)) (by omega)
  rw [List.nil_append, ← List.append_assoc, hs, List.length_nil, show ((0 : Nat) : Int) = 0 from rfl, Int.zero_add] at g1
  have g2 := geta_backM (vputs a) (vputs c) b 4096 hb (u64_small (by omega)) (by omega)
  rw [hs] at g2
  have g3 := geta_backM (vputs a ++ vputs b) [] c 4096 hc (u64_small (by omega)) (by omega)
  rw [List.append_nil, hs] at g3
  have e1 : seedF s = (a, ((vputs a).length : Int), 0) := by unfold seedF; exact g1
  have e2 : keyF s = (b, (((vputs a ++ vputs b).length : Nat) : Int), 0) := by
    unfold keyF; rw [e1]; dsimp only; rw [rdL_zeroD, g2]; simp
  have e3 : valF s = (c, (s.length : Int), 0) := by
    have hl : s.length = (vputs a ++ vputs b).length + (vputs c).length := by rw [← hs, List.length_append]
    unfold valF; rw [e2]; dsimp only; rw [rdL_zeroD, g3, hl, Int.natCast_add]
  have hlow : low32 a = a := by
    unfold low32
    have : ∀ x ∈ a, x % 4294967296 = x := fun x hx => Nat.mod_eq_of_lt (h32 x hx)
    rw [List.map_congr_left this, List.map_id']
  have hw : wide32 a = false := by
    unfold wide32
    rw [List.any_eq_false]
    intro x hx
    have := h32 x hx
    simp; omega
  rw [hs]
  unfold err5
  rw [e1, e2, e3]
  dsimp only
  rw [hw, hlow]
  exact ⟨errS_ok _, rfl, rfl, rfl⟩
theorem writ_agr {p : Prg} {c : List (Nat → Int)} (h : agrL p.code c) (hw : writI p = 0) : writI { p with code := c } = 0 := by
  obtain ⟨h1, h2, h3⟩ := writ_zero hw
  have hall := (data_wrt h1 h2.2 h3).all
  have hall' := h.all hall
  have hd : dataOk { p with code := c } = true := h1
  have hb : ∀ i, i < c.length → badOp { p with code := c } i = false := fun i hi => by
    unfold badOp codeAt
    have := List.all_eq_true.1 hall' c[i] (List.getElem_mem hi)
    show (!okI (c.getD i fun _ => 0)) = false
    rw [List.getD_eq_getElem?_getD, List.getElem?_eq_getElem hi]
    simpa using this
  unfold writI
  rw [if_neg]
  intro hor
  have hl := h.1
  have hsh : (shapeI { p with code := c }).1 ≠ 232 ∧ (shapeI { p with code := c }).1 ≠ 210 := by
    unfold shapeI
    rw [if_neg (by rw [hd]; decide), if_neg (show ¬ (c.length < 1 ∨ 4096 < c.length) by omega)]
    rw [List.find?_range_eq_none.2 (fun i hi => by simpa using hb i hi)]
    dsimp only
    split
    · exact ⟨by dsimp only; decide, by dsimp only; decide⟩
    · split <;> exact ⟨by dsimp only; decide, by dsimp only; decide⟩
  exact hor.elim hsh.1 hsh.2
theorem enc_back {p : Prg} (h : (encI p).2 = 0) (hk : AllU64 p.hash.seeds ∧ AllU64 p.hash.keys ∧ AllU64 p.hash.vals) (hsb : ∀ x ∈ p.hash.seeds, x < 4294967296) :
    ∃ c, agrL p.code c ∧ decI (encI p).1 = ({ p with code := c }, 0) := by
  unfold encI at h ⊢
  by_cases hw : writI p ≠ 0
  · rw [if_pos hw] at h; exact absurd h hw
  rw [if_neg hw] at h ⊢
  have hw0 : writI p = 0 := by simpa using hw
  obtain ⟨d1, d2, d3⟩ := writ_zero hw0
  have HW := data_wrt d1 d2.2 d3
  have hb := pack_back (secs_ok HW hk) h
  obtain ⟨c, hc1, hc2⟩ := getI_back HW.all HW.clen
  refine ⟨c, hc2, ?_⟩
  obtain ⟨q1, q2, q3, q4, q5, q6, q7, q8⟩ := (data_iff p).1 d1
  unfold smallN at q1 q2 q3
  unfold linOk at q4
  simp only [Bool.and_eq_true, decide_eq_true_eq] at q1 q2 q3
  have hs1 : SmallL [p.grow, p.rest, p.extra, p.signs] := by
    intro n hn
    simp only [List.mem_cons, List.not_mem_nil, or_false] at hn
    rcases hn with rfl | rfl | rfl | rfl <;> omega
  obtain ⟨r1, r1'⟩ := back1 hs1
  have hput : (putI p.code).1 = putTo p.code p.code.length := by unfold putI; rw [if_pos (allI_good (by have := HW.clen; omega) HW.all)]
  obtain ⟨r3, r3'⟩ := back3 (l := p.tabs) (fun t ht => List.all_eq_true.1 q6 t ht) q4.2.2.1
  obtain ⟨r4, r4'⟩ := back4 (l := p.texts) (fun x hx => by simpa using List.all_eq_true.1 q7 x hx) q4.2.2.2
  obtain ⟨r5, r51, r52, r53⟩ := back5 hk.1 hk.2.1 hk.2.2 hsb HW.nk.1 HW.nk.2.1 HW.nk.2.2
  have b0 : bodyS (secsI p) 0 = vputs (natsI [p.grow, p.rest, p.extra, p.signs]) := rfl
  have b1 : bodyS (secsI p) 1 = putTo p.code p.code.length := hput
  have b2 : bodyS (secsI p) 2 = vput p.tabs.length ++ p.tabs.flatMap tabB := by show sec3 p = _; unfold sec3 tabsTo; rw [List.take_length]
  have b3 : bodyS (secsI p) 3 = vput p.texts.length ++ p.texts.flatMap txtB := by show sec4 p = _; unfold sec4 textsTo; rw [List.take_length]
  have b4 : bodyS (secsI p) 4 = (vputs p.hash.seeds ++ vputs p.hash.keys) ++ vputs p.hash.vals := rfl
  have hkd : kindsOk (secsI p) = true := rfl
  generalize secsI p = l at hb b0 b1 b2 b3 b4 hkd
  have z : ∀ k, k < 5 → secE k (bodyS l k) = 0 := fun k hk => by
    rcases (show k = 0 ∨ k = 1 ∨ k = 2 ∨ k = 3 ∨ k = 4 from by omega) with rfl | rfl | rfl | rfl | rfl
    · rw [(secE_five _).1, b0]; exact r1
    · rw [(secE_five _).2.1, b1, hc1]
    · rw [(secE_five _).2.2.1, b2]; exact r3
    · rw [(secE_five _).2.2.2.1, b3]; exact r4
    · rw [(secE_five _).2.2.2.2, b4]; exact r5
  have zt : ∀ n, n ≤ 5 → errTo l n = 0 := fun n => by
    induction n with
    | zero => intro _; rfl
    | succ n ih =>
      intro hn
      show (if errTo l n ≠ 0 then errTo l n else secE n (bodyS l n)) = 0
      rw [if_neg (by rw [ih (by omega)]; simp)]
      exact z n (by omega)
  have hp : prgTo l 5 = { p with code := c } := by
    rw [prgTo_five, b0, b1, b2, b3, b4, r1', hc1, r3', r4', r51, r52, r53]
    rfl
  unfold decI
  rw [hb]
  dsimp only
  rw [if_neg (by simp)]
  unfold decS
  rw [hkd, if_neg (by simp), zt 5 (by omega), if_neg (by simp), hp, writ_agr hc2 hw0, if_neg (by simp)]
end Go.Proofs.Ytbomloodllddaaa
