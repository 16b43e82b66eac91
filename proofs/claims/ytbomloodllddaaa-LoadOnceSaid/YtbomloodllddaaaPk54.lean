/- Plain law: what is read of any bytes, written again, is the bytes (P25.4). No conditions; no program. -/
import Derived.Test.YtbomloodllddaaaPk45
import Derived.Test.YtbomloodllddaaaPk52
import Derived.Test.YtbomloodllddaaaPk53
import Derived.Test.YtbomloodllddaaaPk43
namespace Go.Proofs.Ytbomloodllddaaa
open Go.RowKit
theorem errS_zero {len : Nat} {a b : Int} {wd : Bool} (h : errS len a b wd = 0) : b = 0 ∧ a = len ∧ wd = false := by
  unfold errS at h
  by_cases h1 : b ≠ 0
  · rw [if_pos h1] at h; exact absurd h h1
  · rw [if_neg h1] at h
    by_cases h2 : a ≠ len ∨ wd = true
    · rw [if_pos h2] at h; exact absurd h (by decide)
    · refine ⟨by simpa using h1, Classical.byContradiction fun h3 => h2 (.inl h3), ?_⟩
      cases wd
      · rfl
      · exact absurd (.inr rfl) h2
theorem wideL_cut {l : List Nat} (h : wideL l = false) : natsI (cutL l) = l := by
  unfold natsI cutL
  rw [List.map_map]
  have : ∀ x ∈ l, (Int.toNat ∘ cutI) x = x := fun x hx => by
    have h1 := List.any_eq_false.1 h x hx
    simp at h1
    show (cutI x).toNat = x
    unfold cutI
    omega
  rw [List.map_congr_left this, List.map_id']
theorem vputs_all {s : List UInt8} {a most : Int} (ha : a = 0) (h : (geta s a most).2.2 = 0) (he : (geta s a most).2.1 = s.length) : vputs (geta s a most).1 = s := by
  obtain ⟨_, m, m', h1, h2, h3, h4, h5, _⟩ := geta_once h
  have e1 : m = 0 := by omega
  have e2 : m' = s.length := by omega
  rw [h5, e1, e2, List.drop_zero, Nat.sub_zero, List.take_length]
theorem sec1_once {s : List UInt8} (h : err1 s = 0) : vputs (natsI [(cutL (sec1L s)).getD 0 0, (cutL (sec1L s)).getD 1 0, (cutL (sec1L s)).getD 2 0, (cutL (sec1L s)).getD 3 0]) = s := by
  unfold err1 at h
  obtain ⟨h1, h2, h3⟩ := errS_zero h
  unfold sec1B at h1
  have h4 : (geta s 0 4).2.2 = 0 ∧ (sec1L s).length = 4 := by
    by_cases hc : (geta s 0 4).2.2 = 0 ∧ (sec1L s).length ≠ 4
    · rw [if_pos hc] at h1; exact absurd h1 (by decide)
    · rw [if_neg hc] at h1
      exact ⟨h1, Classical.byContradiction fun h5 => hc ⟨h1, h5⟩⟩
  have h5 := vputs_all rfl h4.1 h2
  have h6 := wideL_cut h3
  have h7 : (cutL (sec1L s)).length = 4 := by rw [cutL_len]; exact h4.2
  generalize cutL (sec1L s) = c at h6 h7 ⊢
  match c, h7 with
  | [a, b, c, d], _ =>
    show vputs (natsI [a, b, c, d]) = s
    rw [h6]; exact h5
theorem sec2_once {s : List UInt8} (h : (getI s).1 = 0) : (putI (getI s).2).1 = s := by
  obtain ⟨h1, h2, h3⟩ := getI_once (t := s) (l := (getI s).2) (by rw [← h])
  unfold putI
  rw [if_pos (allI_good (by omega) h2)]
  exact h3
theorem vget_once {s : List UInt8} {m : Nat} (h : (vget s m).2.2 = 0) : ∃ k, (vget s m).2.1 = ((m + k + 1 : Nat) : Int) ∧ m + k < s.length ∧ vput (vget s m).1 = (s.drop m).take (k + 1) ∧ (vget s m).1 < p64 := by
  rcases vget_cases s m with ⟨e, hv, he⟩ | ⟨m', k, n, hm, hk, hmk, hp, hn, hv⟩
  · rw [hv] at h; exact absurd h (show e ≠ 0 by omega)
  · have : m' = m := by omega
    subst this
    rw [hv]
    exact ⟨k, by push_cast; rfl, hmk, hp, hn⟩
theorem rdL_zeroD (s : List UInt8) (a most : Int) : rdL s a 0 most = geta s a most := if_neg (by simp)
theorem tab1_once {s : List UInt8} {m : Nat} (h : (tab1 s m).2.2.1 = 0) (hw : (tab1 s m).2.2.2 = false) : ∃ m' : Nat, (tab1 s m).2.1 = m' ∧ m < m' ∧ m' ≤ s.length ∧ tabB (tab1 s m).1 = (s.drop m).take (m' - m) := by
  unfold tab1 at h hw ⊢
  dsimp only at h hw ⊢
  by_cases h0 : (vget s m).2.2 = 0
  rotate_left
  · unfold rdL at h; rw [if_pos h0] at h; exact absurd h h0
  obtain ⟨k, h1, h2, h3, h4⟩ := vget_once h0
  rw [h0] at h hw ⊢
  rw [rdL_zeroD] at h hw ⊢
  rw [Bool.or_eq_false_iff] at hw
  obtain ⟨_, m1, m', e1, e2, e3, e4, e5, _⟩ := geta_once h
  have e6 : m1 = m + k + 1 := by rw [h1] at e1; omega
  subst e6
  refine ⟨m', e2, by omega, e4, ?_⟩
  unfold tabB
  rw [wideL_cut hw.2, e5]
  have e7 : (cutI (vget s m).1).toNat = (vget s m).1 := by
    have := hw.1
    simp at this
    unfold cutI; omega
  dsimp only
  rw [e7, h3, Nat.add_assoc, take_drop_join]
  congr 1; omega
theorem tabsF_once (s : List UInt8) : ∀ (n m : Nat), m ≤ s.length → (tabsF s n m).2.2.1 = 0 → (tabsF s n m).2.2.2 = false →
    (tabsF s n m).1.length = n ∧ ∃ m' : Nat, (tabsF s n m).2.1 = m' ∧ m ≤ m' ∧ m' ≤ s.length ∧ (tabsF s n m).1.flatMap tabB = (s.drop m).take (m' - m)
  | 0, m, hm, _, _ => ⟨rfl, m, rfl, Nat.le_refl _, hm, by simp [tabsF]⟩
  | n + 1, m, hm, h, hw => by
    unfold tabsF at h hw ⊢
    by_cases h1 : (tab1 s m).2.2.1 ≠ 0
    · rw [if_pos h1] at h; exact absurd h h1
    rw [if_neg h1] at h hw ⊢
    by_cases h2 : (tabsF s n (tab1 s m).2.1).2.2.1 ≠ 0
    · rw [if_pos h2] at h; exact absurd h h2
    rw [if_neg h2] at h hw ⊢
    dsimp only at h hw ⊢
    rw [Bool.or_eq_false_iff] at hw
    obtain ⟨m1, e1, e2, e3, e4⟩ := tab1_once (by simpa using h1) hw.1
    rw [e1] at h2 hw ⊢
    obtain ⟨f1, m', f2, f3, f4, f5⟩ := tabsF_once s n m1 e3 (by simpa using h2) hw.2
    refine ⟨by rw [List.length_cons, f1], m', f2, by omega, f4, ?_⟩
    rw [List.flatMap_cons, e4, f5]
    have e : (s.drop m1) = s.drop (m + (m1 - m)) := by congr 1; omega
    rw [e, take_drop_join]
    congr 1; omega
theorem rdC_once {s : List UInt8} {most : Nat} (h : (rdC s most).2.2 = 0) : (rdC s most).1 ≤ most ∧ ∃ m : Nat, (rdC s most).2.1 = m ∧ m ≤ s.length ∧ vput (rdC s most).1 = s.take m := by
  unfold rdC at h ⊢
  by_cases h1 : (vget s 0).2.2 ≠ 0
  · rw [if_pos h1] at h; dsimp only at h; exact absurd h h1
  rw [if_neg h1] at h ⊢
  by_cases h2 : most < (vget s 0).1
  · rw [if_pos h2] at h; exact absurd h (by decide)
  rw [if_neg h2]
  obtain ⟨k, e1, e2, e3, _⟩ := vget_once (m := 0) (by simpa using h1)
  refine ⟨by omega, k + 1, ?_, by omega, ?_⟩
  · rw [show ((0 : Nat) : Int) = 0 from rfl] at e1; rw [e1]; simp
  · rw [show ((0 : Nat) : Int) = 0 from rfl] at e3; rw [e3, List.drop_zero]
theorem sec3_once {s : List UInt8} (h : err3 s = 0) : vput (sec3F s).1.length ++ (sec3F s).1.flatMap tabB = s := by
  unfold err3 at h
  obtain ⟨h1, h2, h3⟩ := errS_zero h
  unfold sec3F at h1 h2 h3 ⊢
  by_cases hc : (rdC s 16).2.2 ≠ 0
  · rw [if_pos hc] at h1; dsimp only at h1; exact absurd h1 hc
  rw [if_neg hc] at h1 h2 h3 ⊢
  obtain ⟨_, m, e1, e2, e3⟩ := rdC_once (by simpa using hc)
  rw [e1] at h1 h2 h3 ⊢
  obtain ⟨f1, m', f2, f3, f4, f5⟩ := tabsF_once s _ m e2 h1 h3
  have e4 : m' = s.length := by rw [f2] at h2; omega
  rw [f1, e3, f5, e4]
  rw [List.take_of_length_le (l := s.drop m) (by simp), List.take_append_drop]
theorem gettO {s : List UInt8} {m : Nat} {most : Int} (h : (gett s m most).2.2 = 0) : ∃ m' : Nat, (gett s m most).2.1 = m' ∧ m < m' ∧ m' ≤ s.length ∧ txtB (gett s m most).1 = (s.drop m).take (m' - m) := by
  rcases vget_cases s m with ⟨e, hv, he⟩ | ⟨m0, k, n, hm, hk, hmk, hp, hn, hv⟩
  · rw [gett_bad hv (by omega)] at h; exact absurd h (by show e ≠ 0; omega)
  · have : m0 = m := by omega
    subst this
    by_cases h1 : max most 0 < (n : Int)
    · rw [gett_long hv h1] at h; exact absurd h (by decide)
    · by_cases h2 : (s.length : Int) - ((m0 : Int) + k + 1) < n
      · rw [gett_short hv h1 h2] at h; exact absurd h (by decide)
      · have hv' : vget s m0 = (n, ((m0 + k + 1 : Nat) : Int), 0) := by rw [hv]; push_cast; rfl
        rw [gett_ok hv' h1 (by push_cast; omega)]
        refine ⟨m0 + k + 1 + n, by push_cast; rfl, by omega, by omega, ?_⟩
        unfold txtB
        dsimp only
        rw [gett_once hp hmk h2]
        congr 1; omega
theorem textsF_once (s : List UInt8) : ∀ (n m : Nat), m ≤ s.length → (textsF s n m).2.2 = 0 →
    (textsF s n m).1.length = n ∧ ∃ m' : Nat, (textsF s n m).2.1 = m' ∧ m ≤ m' ∧ m' ≤ s.length ∧ (textsF s n m).1.flatMap txtB = (s.drop m).take (m' - m)
  | 0, m, hm, _ => ⟨rfl, m, rfl, Nat.le_refl _, hm, by simp [textsF]⟩
  | n + 1, m, hm, h => by
    unfold textsF at h ⊢
    by_cases h1 : (gett s m 4096).2.2 ≠ 0
    · rw [if_pos h1] at h; exact absurd h h1
    rw [if_neg h1] at h ⊢
    by_cases h2 : (textsF s n (gett s m 4096).2.1).2.2 ≠ 0
    · rw [if_pos h2] at h; exact absurd h h2
    rw [if_neg h2] at h ⊢
    dsimp only at h ⊢
    obtain ⟨m1, e1, e2, e3, e4⟩ := gettO (by simpa using h1)
    rw [e1] at h2 ⊢
    obtain ⟨f1, m', f2, f3, f4, f5⟩ := textsF_once s n m1 e3 (by simpa using h2)
    refine ⟨by rw [List.length_cons, f1], m', f2, by omega, f4, ?_⟩
    rw [List.flatMap_cons, e4, f5]
    have e : (s.drop m1) = s.drop (m + (m1 - m)) := by congr 1; omega
    rw [e, take_drop_join]
    congr 1; omega
theorem sec4_once {s : List UInt8} (h : err4 s = 0) : vput (sec4F s).1.length ++ (sec4F s).1.flatMap txtB = s := by
  unfold err4 at h
  obtain ⟨h1, h2, _⟩ := errS_zero h
  unfold sec4F at h1 h2 ⊢
  by_cases hc : (rdC s 4096).2.2 ≠ 0
  · rw [if_pos hc] at h1; dsimp only at h1; exact absurd h1 hc
  rw [if_neg hc] at h1 h2 ⊢
  obtain ⟨_, m, e1, e2, e3⟩ := rdC_once (by simpa using hc)
  rw [e1] at h1 h2 ⊢
  obtain ⟨f1, m', f2, f3, f4, f5⟩ := textsF_once s _ m e2 h1
  have e4 : m' = s.length := by rw [f2] at h2; omega
  rw [f1, e3, f5, e4]
  rw [List.take_of_length_le (l := s.drop m) (by simp), List.take_append_drop]
theorem wide32_low {l : List Nat} (h : wide32 l = false) : low32 l = l := by
  unfold low32
  have : ∀ x ∈ l, x % 4294967296 = x := fun x hx => by
    have h1 := List.any_eq_false.1 h x hx
    simp at h1
    omega
  rw [List.map_congr_left this, List.map_id']
theorem rdL_ok {s : List UInt8} {a b most : Int} (h : (rdL s a b most).2.2 = 0) : b = 0 ∧ rdL s a b most = geta s a most := by
  unfold rdL at h ⊢
  by_cases h1 : b ≠ 0
  · rw [if_pos h1] at h; exact absurd h h1
  · exact ⟨by simpa using h1, if_neg h1⟩
theorem sec5_once {s : List UInt8} (h : err5 s = 0) : (vputs (low32 (seedF s).1) ++ vputs (keyF s).1) ++ vputs (valF s).1 = s := by
  unfold err5 at h
  obtain ⟨h1, h2, h3⟩ := errS_zero h
  rw [wide32_low h3]
  have hv : valF s = rdL s (keyF s).2.1 (keyF s).2.2 4096 := by unfold valF; rfl
  have hk : keyF s = rdL s (seedF s).2.1 (seedF s).2.2 4096 := by unfold keyF; rfl
  rw [hv] at h1 h2 ⊢
  obtain ⟨k1, e1⟩ := rdL_ok h1
  rw [e1] at h1 h2 ⊢
  rw [hk] at h1 h2 k1 ⊢
  obtain ⟨s1, e2⟩ := rdL_ok k1
  rw [e2] at h1 h2 k1 ⊢
  clear e1 e2 hv hk
  have e0 : seedF s = geta s 0 4096 := by unfold seedF; rfl
  rw [e0] at h1 h2 k1 s1 ⊢
  clear e0 h h3
  obtain ⟨_, a0, a1, b1, b2, b3, b4, b5, _⟩ := geta_once s1
  have z0 : a0 = 0 := by omega
  subst z0
  rw [b2] at h1 h2 k1 ⊢
  obtain ⟨_, a2, a3, c1, c2, c3, c4, c5, _⟩ := geta_once k1
  have z1 : a2 = a1 := by omega
  subst z1
  rw [c2] at h1 h2 ⊢
  obtain ⟨_, a4, a5, d1, d2, d3, d4, d5, _⟩ := geta_once h1
  have z2 : a4 = a3 := by omega
  subst z2
  have z3 : a5 = s.length := by rw [d2] at h2; omega
  subst z3
  rw [b5, c5, d5, List.drop_zero, Nat.sub_zero]
  have e1 := take_drop_join s 0 a2 (a4 - a2)
  rw [List.drop_zero, Nat.zero_add] at e1
  rw [e1, show a2 + (a4 - a2) = a4 from by omega, List.take_of_length_le (l := s.drop a4) (by simp), List.take_append_drop]
theorem errTo_zero {l : List Sec} : ∀ {n : Nat}, errTo l n = 0 → ∀ k, k < n → secE k (bodyS l k) = 0
  | 0, _, k, hk => by omega
  | n + 1, h, k, hk => by
    have h' : (if errTo l n ≠ 0 then errTo l n else secE n (bodyS l n)) = 0 := h
    by_cases h1 : errTo l n ≠ 0
    · rw [if_pos h1] at h'; exact absurd h' h1
    · rw [if_neg h1] at h'
      rcases Nat.lt_or_ge k n with h2 | h2
      · exact errTo_zero (by simpa using h1) k h2
      · obtain rfl : k = n := by omega
        exact h'
theorem list_five {l : List Sec} (h : kindsOk l = true) : l = [(1, bodyS l 0), (2, bodyS l 1), (3, bodyS l 2), (4, bodyS l 3), (5, bodyS l 4)] := by
  unfold kindsOk at h
  rw [Bool.and_eq_true, decide_eq_true_eq] at h
  obtain ⟨h1, h2⟩ := h
  match l, h1 with
  | [a, b, c, d, e], _ =>
    have h3 := fun k hk => of_decide_eq_true (List.all_eq_true.1 h2 k (List.mem_range.2 hk))
    have e0 := h3 0 (by omega)
    have e1 := h3 1 (by omega)
    have e2 := h3 2 (by omega)
    have e3 := h3 3 (by omega)
    have e4 := h3 4 (by omega)
    simp [bodyS] at e0 e1 e2 e3 e4 ⊢
    exact ⟨Prod.ext e0 rfl, Prod.ext e1 rfl, Prod.ext e2 rfl, Prod.ext e3 rfl, Prod.ext e4 rfl⟩
theorem secE_five (s : List UInt8) : secE 0 s = err1 s ∧ secE 1 s = (getI s).1 ∧ secE 2 s = err3 s ∧ secE 3 s = err4 s ∧ secE 4 s = err5 s := ⟨rfl, rfl, rfl, rfl, rfl⟩
theorem prgTo_five (l : List Sec) : prgTo l 5 = ⟨(cutL (sec1L (bodyS l 0))).getD 0 0, (cutL (sec1L (bodyS l 0))).getD 1 0, (cutL (sec1L (bodyS l 0))).getD 2 0, (cutL (sec1L (bodyS l 0))).getD 3 0, (getI (bodyS l 1)).2, (sec3F (bodyS l 2)).1, (sec4F (bodyS l 3)).1, ⟨low32 (seedF (bodyS l 4)).1, (keyF (bodyS l 4)).1, (valF (bodyS l 4)).1⟩⟩ := by
  simp only [prgTo, secP, prg0]
/-- what is decoded of any bytes, encoded again, is the bytes -/
theorem dec_once {t : List UInt8} {P : Prg} (h : decI t = (P, 0)) : encI P = (t, 0) := by
  unfold decI at h
  by_cases h1 : (getP t).2 ≠ 0
  · rw [if_pos h1] at h
    simp only [Prod.mk.injEq] at h
    exact absurd h.2 h1
  rw [if_neg h1] at h
  obtain ⟨q1, q2⟩ := pack_once (t := t) (by simpa using h1)
  generalize (getP t).1 = l at h q1 q2
  unfold decS at h
  by_cases h2 : kindsOk l = false
  · rw [if_pos h2] at h; simp at h
  rw [if_neg h2] at h
  by_cases h3 : errTo l 5 ≠ 0
  · rw [if_pos h3] at h
    simp only [Prod.mk.injEq] at h
    exact absurd h.2 h3
  rw [if_neg h3] at h
  by_cases h4 : writI (prgTo l 5) ≠ 0
  · rw [if_pos h4] at h
    simp only [Prod.mk.injEq] at h
    exact absurd h.2 h4
  rw [if_neg h4] at h
  simp only [Prod.mk.injEq] at h
  obtain ⟨rfl, _⟩ := h
  have hz := errTo_zero (l := l) (n := 5) (by simpa using h3)
  have r1 := sec1_once (s := bodyS l 0) (by rw [← (secE_five _).1]; exact hz 0 (by omega))
  have r2 := sec2_once (s := bodyS l 1) (by rw [← (secE_five _).2.1]; exact hz 1 (by omega))
  have r3 := sec3_once (s := bodyS l 2) (by rw [← (secE_five _).2.2.1]; exact hz 2 (by omega))
  have r4 := sec4_once (s := bodyS l 3) (by rw [← (secE_five _).2.2.2.1]; exact hz 3 (by omega))
  have r5 := sec5_once (s := bodyS l 4) (by rw [← (secE_five _).2.2.2.2]; exact hz 4 (by omega))
  have hf := list_five (l := l) (by simpa using h2)
  have hp := prgTo_five l
  have hl : secsI (prgTo l 5) = l := by
    rw [hp]
    unfold secsI sec1 sec3 sec4 sec5 tabsTo textsTo
    dsimp only
    rw [List.take_length, List.take_length, r1, r2, r3, r4, r5]
    exact hf.symm
  unfold encI
  rw [if_neg h4, hl]
  exact q2
end Go.Proofs.Ytbomloodllddaaa
