/- Walk: the law RegexPlaces. Conditions: texts of at most 2^47 bytes. -/
import Derived.Test.YtnbfifmnigeolaaPrsParse
import Derived.Test.YtnbfifmnigeolaaPrsSim
import Derived.Test.YtnbfifmnigeolaaCount
namespace Go.Proofs.Ytnbfifmnigeolaa
open Go.RowKit Go.Lib
set_option maxRecDepth 100000 in
theorem law_aliveR (w : World) : Calls Try.prog 4 #[] w fun e w' => e = .returned (.bool true) ∧ Below w.heap.size w w' := by
  have h1 := utf_Count ⟨#[97]⟩ (by show 1 ≤ _; omega)
  rw [count_a] at h1
  go_enter Try.func4, Try.ntmps4
  repeat' (first | go_values | go_skip | go_guarded | go_step | go_upon)
  refine Calls.mono (h1 _) ?_
  rintro _ w1 ⟨rfl, hb1⟩
  dsimp only
  repeat' (first | go_values | go_skip | go_guarded | go_step | go_upon)
  go_ret
  exact ⟨rfl, hb1⟩
theorem ParsP.reg {s : List UInt8} {r : RN} {at' : Int} {w : World} (h : ParsP s r 60 at' w) : ∃ k : Nat, at' = k ∧ prsA s = .bad 60 k := by
  unfold ParsP at h
  cases hx : prsA s with
  | bad e0 j => rw [hx] at h; obtain ⟨h1, h2, _⟩ := h; exact ⟨j, h2, by rw [show e0 = 60 by omega]⟩
  | ok t j => rw [hx] at h; obtain ⟨_, h1 | h1⟩ := h <;> omega
  | out => rw [hx] at h; exact h.elim
theorem ParsP.bad {s : List UInt8} {r : RN} {er at' : Int} {w : World} (h : ParsP s r er at' w) {e0 j : Nat} (hx : prsA s = .bad e0 j) : er = e0 ∧ at' = j := by
  unfold ParsP at h; rw [hx] at h; exact ⟨h.1, h.2.1⟩
theorem cut_list (S more : ByteArray) (k : Nat) : ((S.extract 0 k) ++ more).data.toList = S.data.toList.take k ++ more.data.toList := by simp
theorem ReOk {s : List UInt8} {r : RN} {er at' : Int} {w : World} (h : ParsP s r er at' w) : r.v.oneCell' = true := by
  unfold ParsP at h
  cases hx : prsA s with
  | bad e0 j => rw [hx] at h; rw [h.2.2]; rfl
  | ok t j =>
    rw [hx] at h
    obtain ⟨_, ⟨_, n, h1, _⟩ | ⟨_, h1, _⟩⟩ := h
    · exact h1.one
    · rw [h1]; rfl
  | out => rw [hx] at h; exact h.elim
set_option maxRecDepth 100000 in
set_option maxHeartbeats 4000000 in
theorem law_RegexPlaces (S : ByteArray) (hS : S.size ≤ 140737488351232) (M : ByteArray) (hM : M.size ≤ 140737488351232) (w : World) :
    Calls Try.prog 3 #[.string S, .string M] w fun e w' => e = .returned (.bool true) ∧ Below w.heap.size w w' := by
  go_enter Try.func3, Try.ntmps3
  repeat' (first | go_values | go_skip | go_guarded | go_step | go_upon)
  refine Calls.mono ((law_aliveR _)) ?_
  rintro _ w1 ⟨rfl, hb1⟩
  dsimp only
  repeat' (first | go_values | go_skip | go_guarded | go_step | go_upon)
  refine Calls.mono ((rx_parse S w1)) ?_
  rintro _ w2 ⟨r, er, at', rfl, hb2, hp⟩
  dsimp only
  have hone := ReOk hp
  have HB := Lib.hid (hb1.trans (hb2.mono hb1.size))
  have HP := Lib.hid hp
  clear hb1 hb2 hp
  by_cases he : er = 60
  · subst he
    obtain ⟨k, rfl, hk⟩ := HP.out.reg
    by_cases hlt : k < S.size
    · have hlt' : ¬ (k : Int) ≥ S.size := by omega
      have hw : IntKind.i64.wrap ((k : Int) + 1) = ((k + 1 : Nat) : Int) := by rw [wi64 (by unfold I64; omega)]; omega
      have HT := Lib.hid (cut_list S M (k + 1))
      have hle : k + 1 ≤ S.size := hlt
      obtain ⟨k1, hk1⟩ : ∃ k1, k + 1 = k1 := ⟨_, rfl⟩
      rw [hk1] at hw HT hle
      repeat' (first | (refine store_re (r := r) hone _ _ rfl rfl rfl rfl ?_; dsimp only [Act.put]) | go_values | go_skip | go_guarded | go_step | go_upon)
      have hsz2 : (S.extract 0 k1 ++ M).size ≤ 281474976710656 := by rw [ByteArray.size_append, ByteArray.size_extract]; omega
      have hby := byte_is S k hlt
      have hbl := bt_lt S.data.toList k
      have Hpl := Lib.hid (fun hd hb h2 => prsA_places (s := S.data.toList) (k := k) M.data.toList hk (by rw [ba_len]; exact hlt) hd hb h2)
      rw [hk1] at Hpl
      obtain ⟨x, hx⟩ : ∃ x, bt S.data.toList k = x := ⟨_, rfl⟩
      rw [hx] at hby hbl Hpl
      generalize S.extract 0 k1 ++ M = T at HT hsz2 ⊢
      rw [← HT.out] at Hpl
      have hk0 := Lib.hid (And.intro hk hx)
      clear hk hx hk1 hw hle HP
      refine Calls.mono ((rx_parse T _)) ?_
      rintro _ w3 ⟨r2, er2, at2, rfl, hb3, hp3⟩
      dsimp only
      have hone2 := ReOk hp3
      have HP3 := Lib.hid hp3
      have HB3 := Lib.hid (HB.out.trans (((Below.refl _ w2).alloc (Nat.le_refl _) (.cells (reC r).toArray 29)).mono HB.out.size |>.trans (hb3.mono (Nat.le_trans HB.out.size (by simp)))))
      have HB4 := Lib.hid (HB3.out.trans (((Below.refl _ w3).alloc (Nat.le_refl _) (.cells (reC r2).toArray 29)).mono HB3.out.size))
      clear hb3 hp3 HB HB3
      by_cases hl : 512 < T.size
      · have hl' : (T.size : Int) > 512 := by omega
        have hbd : prsA T.data.toList = .bad 2 0 := by unfold prsA; rw [ba_len, if_pos hl]
        obtain ⟨h1, h2⟩ := HP3.out.bad hbd
        subst h1 h2
        clear hbd hl Hpl HP3
        repeat' (first | (refine store_re (r := r2) hone2 _ _ rfl rfl rfl rfl ?_; dsimp only [Act.put]) | go_values | go_skip | go_guarded | go_step | go_upon)
        go_ret
        exact ⟨rfl, HB4.out⟩
      have hl' : ¬ (T.size : Int) > 512 := by omega
      by_cases hful : er2 = 60 ∧ at2 = k
      · obtain ⟨rfl, rfl⟩ := hful
        clear Hpl HP3 hl
        repeat' (go_not_at_region 10; first | (refine store_re (r := r2) hone2 _ _ rfl rfl rfl rfl ?_; dsimp only [Act.put]) | go_values | go_skip | go_guarded | go_step | go_upon)
        generalize w3.alloc (.cells (reC r2).toArray 29) = w5 at HB4 ⊢
        repeat' (first | go_values | go_skip | go_guarded | go_step | go_upon)
        go_ret
        exact ⟨rfl, HB4.out⟩
      have hdb : (48 ≤ x ∧ x ≤ 57) ∨ x = 92 := by
        by_cases hd : 48 ≤ x ∧ x ≤ 57
        · exact .inl hd
        by_cases hb : x = 92
        · exact .inr hb
        exact absurd (HP3.out.bad (Hpl.out hd hb (by rw [ba_len]; omega))) (fun q => hful ⟨by omega, q.2⟩)
      have hcase : (er2 == 60) = false ∨ ((er2 == 60) = true ∧ (at2 == (k : Int)) = false) := by
        by_cases h1 : er2 = 60
        · exact .inr ⟨by rw [beq_iff_eq]; exact h1, beq_false_of_ne fun h2 => hful ⟨h1, h2⟩⟩
        · exact .inl (beq_false_of_ne h1)
      clear Hpl HP3 hl hful
      rcases hcase with h1 | ⟨h1, h2⟩
      all_goals
        rcases hdb with ⟨d1, d2⟩ | rfl
        · have g1 : (x : Int) ≥ 48 := by omega
          have g2 : (x : Int) ≤ 57 := by omega
          clear d1 d2
          repeat' (go_not_at_region 10; first | (refine store_re (r := r2) hone2 _ _ rfl rfl rfl rfl ?_; dsimp only [Act.put]) | go_values | go_skip | go_guarded | go_step | go_upon)
          generalize w3.alloc (.cells (reC r2).toArray 29) = w5 at HB4 ⊢
          repeat' (first | go_values | go_skip | go_guarded | go_step | go_upon)
          go_ret
          exact ⟨rfl, HB4.out⟩
        · repeat' (go_not_at_region 10; first | (refine store_re (r := r2) hone2 _ _ rfl rfl rfl rfl ?_; dsimp only [Act.put]) | go_values | go_skip | go_guarded | go_step | go_upon)
          generalize w3.alloc (.cells (reC r2).toArray 29) = w5 at HB4 ⊢
          repeat' (first | go_values | go_skip | go_guarded | go_step | go_upon)
          go_ret
          exact ⟨rfl, HB4.out⟩
    · have hlt' : (k : Int) ≥ S.size := by omega
      have HB4 := Lib.hid (HB.out.trans (((Below.refl _ w2).alloc (Nat.le_refl _) (.cells (reC r).toArray 29)).mono HB.out.size))
      clear hlt
      repeat' (first | (refine store_re (r := r) hone _ _ rfl rfl rfl rfl ?_; dsimp only [Act.put]) | go_values | go_skip | go_guarded | go_step | go_upon)
      go_ret
      exact ⟨rfl, HB4.out⟩
  · have he' : (er != 60) = true := bne_iff_ne.2 he
    have HB4 := Lib.hid (HB.out.trans (((Below.refl _ w2).alloc (Nat.le_refl _) (.cells (reC r).toArray 29)).mono HB.out.size))
    clear he
    repeat' (first | (refine store_re (r := r) hone _ _ rfl rfl rfl rfl ?_; dsimp only [Act.put]) | go_values | go_skip | go_guarded | go_step | go_upon)
    go_ret
    exact ⟨rfl, HB4.out⟩
end Go.Proofs.Ytnbfifmnigeolaa
