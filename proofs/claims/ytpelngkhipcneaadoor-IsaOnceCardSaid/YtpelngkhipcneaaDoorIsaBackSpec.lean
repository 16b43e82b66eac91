/- Plain laws: instructions written as bytes are read again, and what was read, written (P21.5). No conditions; no program. -/
import Derived.Test.YtpelngkhipcneaaDoorIsaParseSpec
import Derived.Test.YtpelngkhipcneaaDoorWireLaws
namespace Go.Proofs.YtpelngkhipcneaaDoor
open Go.RowKit
/-- fields set one after the other -/
def setL (x : Nat → Int) : List Nat → (Nat → Int) → Nat → Int
  | [], u => u
  | y :: l, u => setL x l (upd u (pos y) (x (pos y)))
theorem setL_at (x : Nat → Int) : ∀ (l : List Nat) (u : Nat → Int) (j : Nat), setL x l u j = if j ∈ l.map pos then x j else u j
  | [], u, j => by simp [setL]
  | y :: l, u, j => by
    rw [setL, setL_at x l]
    by_cases h : j ∈ l.map pos
    · rw [if_pos h, if_pos (by simp only [List.map_cons, List.mem_cons]; exact .inr h)]
    · rw [if_neg h]
      unfold upd
      by_cases e : j = pos y
      · rw [if_pos e, if_pos (by simp only [List.map_cons, List.mem_cons]; exact .inl e), e]
      · rw [if_neg e, if_neg (by simp only [List.map_cons, List.mem_cons, not_or]; exact ⟨e, h⟩)]
abbrev fB (x : Nat → Int) (y : Nat) : List UInt8 := vput (x (pos y)).toNat
theorem flds_back (x : Nat → Int) (B : List UInt8) : ∀ (l : List Nat) (u : Nat → Int) (A : List UInt8), (∀ y ∈ l, 0 ≤ x (pos y) ∧ x (pos y) ≤ (mst y : Int)) →
    flds (A ++ l.flatMap (fB x) ++ B) l u A.length = (0, setL x l u, (A.length : Int) + (l.flatMap (fB x)).length)
  | [], u, A, _ => by simp [flds, setL]
  | y :: l, u, A, h => by
    have hy := h y (by simp)
    have hm := mst_le y
    have ih := flds_back x B l (upd u (pos y) (x (pos y))) (A ++ fB x y) (fun z hz => h z (by simp [hz]))
    have e : A ++ (y :: l).flatMap (fB x) ++ B = A ++ fB x y ++ (l.flatMap (fB x) ++ B) := by rw [List.flatMap_cons]; simp
    have hv := vget_back A (l.flatMap (fB x) ++ B) (x (pos y)).toNat (u64_small (by omega))
    have e2 : A ++ fB x y ++ l.flatMap (fB x) ++ B = A ++ fB x y ++ (l.flatMap (fB x) ++ B) := by simp
    rw [e2] at ih
    rw [e, flds_on (by rw [hv]) (by rw [hv]; dsimp only; omega), hv]
    dsimp only
    rw [show (((x (pos y)).toNat : Nat) : Int) = x (pos y) from by omega]
    rw [List.length_append] at ih
    rw [show (A.length : Int) + ((vput (x (pos y)).toNat).length : Int) = ((A.length + (fB x y).length : Nat) : Int) from by simp, ih, setL, List.flatMap_cons, List.length_append]
    refine Prod.ext rfl (Prod.ext rfl ?_)
    dsimp only
    omega
theorem ins1_back {x : Nat → Int} (hx : okI x = true) (A B : List UInt8) : ∃ u, ins1 (A ++ insB x ++ B) A.length = (0, u, (A.length : Int) + (insB x).length) ∧ agr x u := by
  have h0 := okI_op hx
  have hx2 := (okI_iff x).1 hx
  have e : A ++ insB x ++ B = A ++ vput (x 0).toNat ++ ((letr (x 0).toNat).flatMap (fB x) ++ B) := by unfold insB; simp
  have hv := vget_back A ((letr (x 0).toNat).flatMap (fB x) ++ B) (x 0).toNat (u64_small (by omega))
  have hf := flds_back x B (letr (x 0).toNat) (opI (x 0)) (A ++ vput (x 0).toNat) hx2.2.1
  have e2 : A ++ vput (x 0).toNat ++ (letr (x 0).toNat).flatMap (fB x) ++ B = A ++ vput (x 0).toNat ++ ((letr (x 0).toNat).flatMap (fB x) ++ B) := by simp
  rw [e2, List.length_append] at hf
  refine ⟨setL x (letr (x 0).toNat) (opI (x 0)), ?_, agr_of fun j hj => ?_⟩
  · rw [e, ins1_on (by rw [hv]) (by rw [hv]; dsimp only; omega) (by rw [hv]; dsimp only; omega), hv]
    dsimp only
    rw [show (((x 0).toNat : Nat) : Int) = x 0 from by omega, show (A.length : Int) + ((vput (x 0).toNat).length : Int) = ((A.length + (vput (x 0).toNat).length : Nat) : Int) from by simp, hf]
    refine Prod.ext rfl (Prod.ext rfl ?_)
    dsimp only
    have e3 : ((letr (x 0).toNat).flatMap (fB x)).length = ((letr (x 0).toNat).flatMap fun z => vput (x (pos z)).toNat).length := rfl
    unfold insB
    rw [List.length_append]
    omega
  · rw [setL_at]
    by_cases hm : j ∈ (letr (x 0).toNat).map pos
    · rw [if_pos hm]
    · rw [if_neg hm]
      unfold opI
      by_cases h : j = 0
      · rw [if_pos h, h]
      · rw [if_neg h]; exact hx2.2.2 j (by omega) (by omega) hm
theorem many_back (B : List UInt8) : ∀ (l acc : List (Nat → Int)) (A : List UInt8), l.all okI = true → ∃ l', many (A ++ l.flatMap insB ++ B) l.length A.length acc = (0, acc ++ l', (A.length : Int) + (l.flatMap insB).length) ∧ agrL l l'
  | [], acc, A, _ => ⟨[], by simp [many], agrL.nil⟩
  | x :: l, acc, A, h => by
    simp only [List.all_cons, Bool.and_eq_true] at h
    obtain ⟨u, hu, hxu⟩ := ins1_back h.1 A (l.flatMap insB ++ B)
    obtain ⟨l', h1, h2⟩ := many_back B l (acc ++ [u]) (A ++ insB x) h.2
    have e : A ++ (x :: l).flatMap insB ++ B = A ++ insB x ++ (l.flatMap insB ++ B) := by rw [List.flatMap_cons]; simp
    have e2 : A ++ insB x ++ l.flatMap insB ++ B = A ++ insB x ++ (l.flatMap insB ++ B) := by simp
    rw [e2, List.length_append] at h1
    refine ⟨u :: l', ?_, agrL.cons hxu h2⟩
    rw [e, List.length_cons, many_on (by rw [hu]), hu]
    dsimp only
    rw [show (A.length : Int) + ((insB x).length : Int) = ((A.length + (insB x).length : Nat) : Int) from by simp, h1, List.flatMap_cons, List.length_append]
    refine Prod.ext rfl (Prod.ext (by simp) ?_)
    dsimp only
    omega
theorem getI_back {l : List (Nat → Int)} (h : l.all okI = true) (hl : l.length ≤ 4096) : ∃ l', getI (putTo l l.length) = (0, l') ∧ agrL l l' := by
  have hp : putTo l l.length = [] ++ vput l.length ++ l.flatMap insB := by unfold putTo; rw [List.take_length]; rfl
  have hv := vget_back [] (l.flatMap insB) l.length (u64_small (by omega))
  obtain ⟨l', h1, h2⟩ := many_back [] l [] ([] ++ vput l.length) h
  rw [List.append_nil] at h1
  rw [← hp] at hv h1
  refine ⟨l', ?_, h2⟩
  have hv' : vget (putTo l l.length) 0 = (l.length, ((vput l.length).length : Int), 0) := by
    have := hv
    simp only [List.length_nil] at this
    rw [show ((0 : Nat) : Int) = 0 from rfl] at this
    rw [this]; simp
  rw [getI_end (n := l.length) (a := ((vput l.length).length : Int)) (by rw [hv']) (by omega) (by rw [hv']) (by rw [hv']) (by simpa using h1)]
  rw [if_neg]
  rw [hp]; simp
/-! ### what was read, written -/
theorem take_join (t : List UInt8) (a i j : Nat) : (t.drop a).take i ++ (t.drop (a + i)).take j = (t.drop a).take (i + j) := take_drop_join t a i j
theorem flds_once (t : List UInt8) : ∀ (l : List Nat) (u v : Nat → Int) (m : Nat) (b : Int), m ≤ t.length → (l.map pos).Nodup → flds t l u m = (0, v, b) →
    ∃ k : Nat, b = (m : Int) + k ∧ m + k ≤ t.length ∧ l.flatMap (fB v) = (t.drop m).take k ∧ (∀ y ∈ l, 0 ≤ v (pos y) ∧ v (pos y) ≤ (mst y : Int)) ∧ ∀ j, j ∉ l.map pos → v j = u j
  | [], u, v, m, b, hm, _, h => by
    simp only [flds, Prod.mk.injEq, true_and] at h
    obtain ⟨rfl, rfl⟩ := h
    exact ⟨0, by simp, by omega, by simp, by simp, fun _ _ => rfl⟩
  | y :: l, u, v, m, b, hm, hn, h => by
    simp only [List.map_cons, List.nodup_cons] at hn
    rcases vget_cases t m with ⟨e, he, h3⟩ | ⟨m', k, n, hm', hk, hmk, hp, hn64, he⟩
    · have := flds_bad (x := y) (l := l) (v := u) (a := (m : Int)) (t := t) (e := e) (by rw [he]) (by omega)
      rw [h] at this; simp at this; omega
    · obtain rfl : m = m' := by omega
      by_cases hgt : mst y < n
      · have := flds_most (x := y) (l := l) (v := u) (a := (m : Int)) (t := t) (by rw [he]) (by rw [he]; exact hgt)
        rw [h] at this; simp at this
      · rw [flds_on (by rw [he]) (by rw [he]; exact hgt), he] at h
        dsimp only at h
        rw [show (m : Int) + k + 1 = ((m + (k + 1) : Nat) : Int) from by omega] at h
        obtain ⟨k2, h1, h2, h3, h4, h5⟩ := flds_once t l _ v _ b (by omega) hn.2 h
        have hvy : v (pos y) = n := by rw [h5 _ hn.1]; unfold upd; rw [if_pos rfl]
        refine ⟨k + 1 + k2, by omega, by omega, ?_, fun z hz => ?_, fun j hj => ?_⟩
        · rw [List.flatMap_cons, h3, ← take_join, ← hp]
          unfold fB; rw [hvy, Int.toNat_natCast]
        · rcases List.mem_cons.1 hz with rfl | hz
          · rw [hvy]; omega
          · exact h4 z hz
        · simp only [List.map_cons, List.mem_cons, not_or] at hj
          rw [h5 j hj.2]; unfold upd; rw [if_neg hj.1]
theorem ins1_once {t : List UInt8} {m : Nat} {v : Nat → Int} {b : Int} (hm : m ≤ t.length) (h : ins1 t m = (0, v, b)) : okI v = true ∧ ∃ k : Nat, b = (m : Int) + k ∧ m + k ≤ t.length ∧ insB v = (t.drop m).take k := by
  rcases vget_cases t m with ⟨e, he, h3⟩ | ⟨m', k, n, hm', hk, hmk, hp, hn64, he⟩
  · have := ins1_bad (a := (m : Int)) (t := t) (e := e) (by rw [he]) (by omega)
    rw [h] at this; simp at this; omega
  · obtain rfl : m = m' := by omega
    by_cases ho : n < 1 ∨ 17 < n
    · have := ins1_op (a := (m : Int)) (t := t) (by rw [he]) (by rw [he]; exact ho)
      rw [h] at this; simp at this
    · rw [ins1_on (by rw [he]) (by rw [he]; dsimp only; omega) (by rw [he]; dsimp only; omega), he] at h
      dsimp only at h
      rw [show (m : Int) + k + 1 = ((m + (k + 1) : Nat) : Int) from by omega] at h
      obtain ⟨k2, h1, h2, h3, h4, h5⟩ := flds_once t _ _ v _ b (by omega) (letr_nodup n) h
      have hv0 : v 0 = n := by
        rw [h5 0 (fun hm => by obtain ⟨z, _, hz⟩ := List.mem_map.1 hm; have := pos_ge z; omega)]; simp [opI]
      have hvn : (v 0).toNat = n := by omega
      refine ⟨?_, k + 1 + k2, by omega, by omega, ?_⟩
      · rw [okI_iff, hvn]
        exact ⟨by omega, h4, fun j hj _ hn => by rw [h5 j hn]; simp [opI]; omega⟩
      · unfold insB
        rw [hvn, ← take_join, ← hp, h3]
theorem many_once (t : List UInt8) : ∀ (n : Nat) (m : Nat) (acc l : List (Nat → Int)) (b : Int), m ≤ t.length → many t n m acc = (0, l, b) →
    ∃ l' k, l = acc ++ l' ∧ l'.length = n ∧ l'.all okI = true ∧ b = (m : Int) + (k : Nat) ∧ m + k ≤ t.length ∧ l'.flatMap insB = (t.drop m).take k
  | 0, m, acc, l, b, hm, h => by
    have _ := hm
    simp only [many, Prod.mk.injEq, true_and] at h
    obtain ⟨rfl, rfl⟩ := h
    exact ⟨[], 0, by simp, rfl, rfl, by simp, by omega, by simp⟩
  | n + 1, m, acc, l, b, hm, h => by
    by_cases he : (ins1 t m).1 = 0
    · rw [many_on he] at h
      obtain ⟨v, b1, hi⟩ : ∃ v b1, ins1 t m = (0, v, b1) := ⟨_, _, Prod.ext he rfl⟩
      rw [hi] at h
      dsimp only at h
      obtain ⟨hok, k1, rfl, hk1, hb1⟩ := ins1_once hm hi
      rw [show (m : Int) + k1 = ((m + k1 : Nat) : Int) from by omega] at h
      obtain ⟨l', k, h1, h2, h3, h4, h5, h6⟩ := many_once t n (m + k1) _ l b hk1 h
      refine ⟨v :: l', k1 + k, by rw [h1]; simp, by simp [h2], by simp [hok, h3], by omega, by omega, ?_⟩
      rw [List.flatMap_cons, hb1, h6, take_join]
    · have := many_bad (n := n) (acc := acc) (t := t) (a := (m : Int)) rfl he
      rw [h] at this; exact absurd this.symm he
theorem getI_once {t : List UInt8} {l : List (Nat → Int)} (h : getI t = (0, l)) : l.length ≤ 4096 ∧ l.all okI = true ∧ putTo l l.length = t := by
  rcases vget_cases t 0 with ⟨e, he, h3⟩ | ⟨m', k, n, hm', hk, hmk, hp, hn64, he⟩
  · have := getI_bad (t := t) (e := e) (by rw [he]) (by omega)
    rw [h] at this; simp at this; omega
  · obtain rfl : m' = 0 := by omega
    by_cases hbig : 4096 < n
    · have := getI_long (t := t) (by rw [he]) (by rw [he]; exact hbig)
      rw [h] at this; simp at this
    · by_cases hm : (many t n ((k + 1 : Nat) : Int) []).1 = 0
      · obtain ⟨l0, b, hmm⟩ : ∃ l0 b, many t n ((k + 1 : Nat) : Int) [] = (0, l0, b) := ⟨_, _, Prod.ext hm rfl⟩
        have hend := getI_end (t := t) (n := n) (a := ((k + 1 : Nat) : Int)) (by rw [he]) hbig (by rw [he]) (by rw [he]; simp) hmm
        rw [h] at hend
        by_cases hb : b = (t.length : Int)
        · rw [if_neg (by simp [hb])] at hend
          simp only [Prod.mk.injEq, true_and] at hend
          subst hend
          obtain ⟨l', k2, h1, h2, h3, h4, h5, h6⟩ := many_once t n (k + 1) [] l b (by omega) hmm
          simp only [List.nil_append] at h1
          subst h1
          refine ⟨by omega, h3, ?_⟩
          unfold putTo
          rw [List.take_length, h2, hp, h6]
          have := take_join t 0 (k + 1) k2
          rw [Nat.zero_add] at this
          rw [this, List.drop_zero, List.take_of_length_le (by omega)]
        · rw [if_pos hb] at hend; simp at hend
      · have := getI_many (t := t) (n := n) (a := ((k + 1 : Nat) : Int)) (e := (many t n ((k + 1 : Nat) : Int) []).1) (by rw [he]) hbig (by rw [he]) (by rw [he]; simp) rfl hm
        rw [h] at this
        simp only [Prod.mk.injEq] at this
        exact absurd this.1.symm hm
theorem getI_err {t : List UInt8} {e : Int} {l : List (Nat → Int)} (h : getI t = (e, l)) (he : e ≠ 0) : l = [] := by
  unfold getI getI2 at h
  split at h
  · simp only [Prod.mk.injEq] at h; exact h.2.symm
  · split at h
    · simp only [Prod.mk.injEq] at h; exact h.2.symm
    · split at h
      · simp only [Prod.mk.injEq] at h; exact h.2.symm
      · split at h
        · simp only [Prod.mk.injEq] at h; exact h.2.symm
        · simp only [Prod.mk.injEq] at h; exact absurd h.1.symm he
end Go.Proofs.YtpelngkhipcneaaDoor
