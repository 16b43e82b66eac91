/- Walk: the statement IsaBack. Conditions: a row of instructions; the library's variables are as they are laid. -/
import Derived.Test.YtpelngkhipcneaaDoorIsaParse
import Derived.Test.YtpelngkhipcneaaDoorIsaBackSpec
import Derived.Test.YtpelngkhipcneaaDoorIsaLike
import Derived.Test.YtpelngkhipcneaaDoorIsaRefAll
import Derived.Test.YtpelngkhipcneaaDoorIsaText
namespace Go.Proofs.YtpelngkhipcneaaDoor
open Go.RowKit
/-- what the program tells of at most a thousand instructions, or of too many -/
theorem back_case (l : List (Nat → Int)) (hl : l.length ≤ 1000 ∨ 4096 < l.length) : (allI l = allI l ∧ putI l = ([], allI l) ∧ textI l = ([], allI l) ∧ allI l ≠ 0) ∨
    (allI l = 0 ∧ ∃ P X l1 l2, putI l = (P, 0) ∧ textI l = (X, 0) ∧ getI P = (0, l1) ∧ parseI X = (l2, 0, 0) ∧ agrL l l1 ∧ agrL l l2 ∧ P.length ≤ 1000000000000000 ∧ X.length ≤ 1000000000000000) := by
  by_cases h : allI l = 0
  · obtain ⟨h4, hall⟩ := allI_zero h
    obtain ⟨l1, hg, hg1⟩ := getI_back hall h4
    obtain ⟨l2, hp, hp1⟩ := parseI_back hall (by omega)
    have h5 := putTo_len hall h4 l.length
    have h6 := textTo_len hall h4 l.length
    exact .inr ⟨h, putTo l l.length, textTo l l.length, l1, l2, by unfold putI; rw [if_pos h], by unfold textI; rw [if_pos h], hg, hp, hg1, hp1, by omega, by omega⟩
  · exact .inl ⟨rfl, by unfold putI; rw [if_neg h], by unfold textI; rw [if_neg h], h⟩
set_option maxRecDepth 100000 in
set_option maxHeartbeats 4000000 in
theorem walk_IsaBack (v : Value) (l : List (Nat → Int)) (w : World) (h : RowOf icL 5 w v l) (hT : TabR w) :
    Calls Tryd.prog 5 #[v] w fun e w' => e = .returned (.bool true) ∧ Below w.heap.size w w' := by
  obtain ⟨a, cap, hv, hcap, hmx, _⟩ := h.open icL_len
  subst hv
  have HT := Lib.hid hT
  unfold maxLen at hmx
  have Htk := Lib.hid fun k (hk : k ≤ l.length) => row_take h k hk
  by_cases hmid : 1000 < l.length ∧ l.length ≤ 4096
  · obtain ⟨l', hl'⟩ : ∃ l', l' = l.take 1000 := ⟨_, rfl⟩
    have Hr : Hid (RowOf icL 5 w (.slice a 1000 cap) l') := Lib.hid (by rw [hl']; exact Htk.out 1000 (by omega))
    have hcase := back_case l' (.inl (by rw [hl', List.length_take]; omega))
    obtain ⟨n, hn⟩ : ∃ n, n = l.length := ⟨_, rfl⟩
    rw [← hn] at hmid hcap ⊢
    obtain ⟨hm1, hm2⟩ := hmid
    have hm3 : (1000 : Int) < n := by omega
    have hm4 : (n : Int) ≤ 4096 := by omega
    have hc5 : 1000 ≤ cap := by omega
    clear Htk hl' h hT hn hm1 hm2
    go_enter Tryd.func5, Tryd.ntmps5
    repeat' (first | go_values | go_skip | go_guarded | go_step | go_upon)
    refine Calls.mono (isa_Put _ l' w Hr.out) ?_
    rintro _ w1 ⟨rfl, hb1⟩
    dsimp only
    have Hr1 := Lib.hid (Hr.out.keep hb1)
    have Hb1 := Lib.hid hb1
    clear hb1
    repeat' (first | go_values | go_skip | go_guarded | go_step | go_upon)
    refine Calls.mono (isa_Text _ l' w1 Hr1.out (HT.out.keep Hb1.out).ten) ?_
    rintro _ w2 ⟨rfl, hb2⟩
    dsimp only
    have Hr2 := Lib.hid (Hr1.out.keep hb2)
    have Hb2 := Lib.hid (Hb1.out.trans (hb2.mono Hb1.out.size))
    clear hb2 Hr1 Hb1
    repeat' (first | go_values | go_skip | go_guarded | go_step | go_upon)
    refine Calls.mono (rg_All _ l' w2 Hr2.out) ?_
    rintro _ w3 ⟨rfl, hb3⟩
    dsimp only
    have Hr3 := Lib.hid (Hr2.out.keep hb3)
    have Hb3 := Lib.hid (Hb2.out.trans (hb3.mono Hb2.out.size))
    clear hb3 Hr2 Hb2
    rcases hcase with ⟨hE, hP, hX, hne⟩ | ⟨hE, P, X, l1, l2, hP, hX, hG, hY, hg1, hg2, hpl, hxl⟩
    · rw [hP, hX, hE]
      generalize allI l' = e1 at hne
      have hq : (e1 == e1) = true := by simp
      have hq2 : (e1 != 0) = true := by simpa using hne
      clear hne hE hP hX
      repeat' (first | go_values | go_skip | go_guarded | go_step | go_upon)
      go_ret
      exact ⟨rfl, Hb3.out⟩
    · rw [hP, hX, hE]
      have HG := Lib.hid fun w => isa_Get P hpl w
      rw [hG] at HG
      have HY := Lib.hid fun w hT => isa_Parse X hxl w hT
      rw [hY] at HY
      have Hg1 := Lib.hid hg1
      have Hg2 := Lib.hid hg2
      have hz1 := sz_arr P
      have hz2 := sz_arr X
      clear hG hY hE hP hX hg1 hg2
      repeat' (first | go_values | go_skip | go_guarded | go_step | go_upon)
      refine Calls.mono (HG.out _) ?_
      rintro _ w4 ⟨v1, rfl, hr4, hb4⟩
      dsimp only
      have R1 := Lib.hid (Hg1.out.symm.row hr4)
      have Hr4 := Lib.hid (Hr3.out.keep hb4)
      have Hb4 := Lib.hid (Hb3.out.trans (hb4.mono Hb3.out.size))
      clear hb4 hr4 Hr3 Hb3
      repeat' (first | go_values | go_skip | go_guarded | go_step | go_upon)
      refine Calls.mono (HY.out _ (HT.out.keep Hb4.out)) ?_
      rintro _ w5 ⟨v2, rfl, hr5, hb5⟩
      dsimp only
      have R2 := Lib.hid (Hg2.out.symm.row hr5)
      have R1' := Lib.hid (R1.out.keep hb5)
      have Hr5 := Lib.hid (Hr4.out.keep hb5)
      have Hb5 := Lib.hid (Hb4.out.trans (hb5.mono Hb4.out.size))
      clear hb5 hr5 Hr4 Hb4 R1
      repeat' (first | go_values | go_skip | go_guarded | go_step | go_upon)
      refine Calls.mono (rg_Like _ _ l' w5 R1'.out Hr5.out) ?_
      rintro _ w6 ⟨rfl, hb6⟩
      dsimp only
      have R2' := Lib.hid (R2.out.keep hb6)
      have Hr6 := Lib.hid (Hr5.out.keep hb6)
      have Hb6 := Lib.hid (Hb5.out.trans (hb6.mono Hb5.out.size))
      clear hb6 Hr5 Hb5 R2
      repeat' (first | go_values | go_skip | go_guarded | go_step | go_upon)
      refine Calls.mono (rg_Like _ _ l' w6 R2'.out Hr6.out) ?_
      rintro _ w7 ⟨rfl, hb7⟩
      dsimp only
      repeat' (first | go_values | go_skip | go_guarded | go_step | go_upon)
      go_ret
      exact ⟨rfl, Hb6.out.trans (hb7.mono Hb6.out.size)⟩
  · have Hr := Lib.hid h
    obtain ⟨l', hl'⟩ : ∃ l', l' = l := ⟨_, rfl⟩
    have hcase := back_case l' (by rw [hl']; omega)
    obtain ⟨n, hn⟩ : ∃ n, n = l.length := ⟨_, rfl⟩
    rw [← hn] at hmid hcap Hr ⊢
    have hsm : n ≤ 1000 ∨ 4096 < n := by omega
    rw [← hl'] at Hr
    clear Htk h hT hn hmid hl'
    rcases hsm with hsm | hsm
    · have hm3 : (n : Int) ≤ 1000 := by omega
      clear hsm
      go_enter Tryd.func5, Tryd.ntmps5
      repeat' (first | go_values | go_skip | go_guarded | go_step | go_upon)
      refine Calls.mono (isa_Put _ l' w Hr.out) ?_
      rintro _ w1 ⟨rfl, hb1⟩
      dsimp only
      have Hr1 := Lib.hid (Hr.out.keep hb1)
      have Hb1 := Lib.hid hb1
      clear hb1
      repeat' (first | go_values | go_skip | go_guarded | go_step | go_upon)
      refine Calls.mono (isa_Text _ l' w1 Hr1.out (HT.out.keep Hb1.out).ten) ?_
      rintro _ w2 ⟨rfl, hb2⟩
      dsimp only
      have Hr2 := Lib.hid (Hr1.out.keep hb2)
      have Hb2 := Lib.hid (Hb1.out.trans (hb2.mono Hb1.out.size))
      clear hb2 Hr1 Hb1
      repeat' (first | go_values | go_skip | go_guarded | go_step | go_upon)
      refine Calls.mono (rg_All _ l' w2 Hr2.out) ?_
      rintro _ w3 ⟨rfl, hb3⟩
      dsimp only
      have Hr3 := Lib.hid (Hr2.out.keep hb3)
      have Hb3 := Lib.hid (Hb2.out.trans (hb3.mono Hb2.out.size))
      clear hb3 Hr2 Hb2
      rcases hcase with ⟨hE, hP, hX, hne⟩ | ⟨hE, P, X, l1, l2, hP, hX, hG, hY, hg1, hg2, hpl, hxl⟩
      · rw [hP, hX, hE]
        generalize allI l' = e1 at hne
        have hq : (e1 == e1) = true := by simp
        have hq2 : (e1 != 0) = true := by simpa using hne
        clear hne hE hP hX
        repeat' (first | go_values | go_skip | go_guarded | go_step | go_upon)
        go_ret
        exact ⟨rfl, Hb3.out⟩
      · rw [hP, hX, hE]
        have HG := Lib.hid fun w => isa_Get P hpl w
        rw [hG] at HG
        have HY := Lib.hid fun w hT => isa_Parse X hxl w hT
        rw [hY] at HY
        have Hg1 := Lib.hid hg1
        have Hg2 := Lib.hid hg2
        have hz1 := sz_arr P
        have hz2 := sz_arr X
        clear hG hY hE hP hX hg1 hg2
        repeat' (first | go_values | go_skip | go_guarded | go_step | go_upon)
        refine Calls.mono (HG.out _) ?_
        rintro _ w4 ⟨v1, rfl, hr4, hb4⟩
        dsimp only
        have R1 := Lib.hid (Hg1.out.symm.row hr4)
        have Hr4 := Lib.hid (Hr3.out.keep hb4)
        have Hb4 := Lib.hid (Hb3.out.trans (hb4.mono Hb3.out.size))
        clear hb4 hr4 Hr3 Hb3
        repeat' (first | go_values | go_skip | go_guarded | go_step | go_upon)
        refine Calls.mono (HY.out _ (HT.out.keep Hb4.out)) ?_
        rintro _ w5 ⟨v2, rfl, hr5, hb5⟩
        dsimp only
        have R2 := Lib.hid (Hg2.out.symm.row hr5)
        have R1' := Lib.hid (R1.out.keep hb5)
        have Hr5 := Lib.hid (Hr4.out.keep hb5)
        have Hb5 := Lib.hid (Hb4.out.trans (hb5.mono Hb4.out.size))
        clear hb5 hr5 Hr4 Hb4 R1
        repeat' (first | go_values | go_skip | go_guarded | go_step | go_upon)
        refine Calls.mono (rg_Like _ _ l' w5 R1'.out Hr5.out) ?_
        rintro _ w6 ⟨rfl, hb6⟩
        dsimp only
        have R2' := Lib.hid (R2.out.keep hb6)
        have Hr6 := Lib.hid (Hr5.out.keep hb6)
        have Hb6 := Lib.hid (Hb5.out.trans (hb6.mono Hb5.out.size))
        clear hb6 Hr5 Hb5 R2
        repeat' (first | go_values | go_skip | go_guarded | go_step | go_upon)
        refine Calls.mono (rg_Like _ _ l' w6 R2'.out Hr6.out) ?_
        rintro _ w7 ⟨rfl, hb7⟩
        dsimp only
        repeat' (first | go_values | go_skip | go_guarded | go_step | go_upon)
        go_ret
        exact ⟨rfl, Hb6.out.trans (hb7.mono Hb6.out.size)⟩
    · have hm3 : (1000 : Int) < n := by omega
      have hm4 : (4096 : Int) < n := by omega
      clear hsm
      go_enter Tryd.func5, Tryd.ntmps5
      repeat' (first | go_values | go_skip | go_guarded | go_step | go_upon)
      refine Calls.mono (isa_Put _ l' w Hr.out) ?_
      rintro _ w1 ⟨rfl, hb1⟩
      dsimp only
      have Hr1 := Lib.hid (Hr.out.keep hb1)
      have Hb1 := Lib.hid hb1
      clear hb1
      repeat' (first | go_values | go_skip | go_guarded | go_step | go_upon)
      refine Calls.mono (isa_Text _ l' w1 Hr1.out (HT.out.keep Hb1.out).ten) ?_
      rintro _ w2 ⟨rfl, hb2⟩
      dsimp only
      have Hr2 := Lib.hid (Hr1.out.keep hb2)
      have Hb2 := Lib.hid (Hb1.out.trans (hb2.mono Hb1.out.size))
      clear hb2 Hr1 Hb1
      repeat' (first | go_values | go_skip | go_guarded | go_step | go_upon)
      refine Calls.mono (rg_All _ l' w2 Hr2.out) ?_
      rintro _ w3 ⟨rfl, hb3⟩
      dsimp only
      have Hr3 := Lib.hid (Hr2.out.keep hb3)
      have Hb3 := Lib.hid (Hb2.out.trans (hb3.mono Hb2.out.size))
      clear hb3 Hr2 Hb2
      rcases hcase with ⟨hE, hP, hX, hne⟩ | ⟨hE, P, X, l1, l2, hP, hX, hG, hY, hg1, hg2, hpl, hxl⟩
      · rw [hP, hX, hE]
        generalize allI l' = e1 at hne
        have hq : (e1 == e1) = true := by simp
        have hq2 : (e1 != 0) = true := by simpa using hne
        clear hne hE hP hX
        repeat' (first | go_values | go_skip | go_guarded | go_step | go_upon)
        go_ret
        exact ⟨rfl, Hb3.out⟩
      · rw [hP, hX, hE]
        have HG := Lib.hid fun w => isa_Get P hpl w
        rw [hG] at HG
        have HY := Lib.hid fun w hT => isa_Parse X hxl w hT
        rw [hY] at HY
        have Hg1 := Lib.hid hg1
        have Hg2 := Lib.hid hg2
        have hz1 := sz_arr P
        have hz2 := sz_arr X
        clear hG hY hE hP hX hg1 hg2
        repeat' (first | go_values | go_skip | go_guarded | go_step | go_upon)
        refine Calls.mono (HG.out _) ?_
        rintro _ w4 ⟨v1, rfl, hr4, hb4⟩
        dsimp only
        have R1 := Lib.hid (Hg1.out.symm.row hr4)
        have Hr4 := Lib.hid (Hr3.out.keep hb4)
        have Hb4 := Lib.hid (Hb3.out.trans (hb4.mono Hb3.out.size))
        clear hb4 hr4 Hr3 Hb3
        repeat' (first | go_values | go_skip | go_guarded | go_step | go_upon)
        refine Calls.mono (HY.out _ (HT.out.keep Hb4.out)) ?_
        rintro _ w5 ⟨v2, rfl, hr5, hb5⟩
        dsimp only
        have R2 := Lib.hid (Hg2.out.symm.row hr5)
        have R1' := Lib.hid (R1.out.keep hb5)
        have Hr5 := Lib.hid (Hr4.out.keep hb5)
        have Hb5 := Lib.hid (Hb4.out.trans (hb5.mono Hb4.out.size))
        clear hb5 hr5 Hr4 Hb4 R1
        repeat' (first | go_values | go_skip | go_guarded | go_step | go_upon)
        refine Calls.mono (rg_Like _ _ l' w5 R1'.out Hr5.out) ?_
        rintro _ w6 ⟨rfl, hb6⟩
        dsimp only
        have R2' := Lib.hid (R2.out.keep hb6)
        have Hr6 := Lib.hid (Hr5.out.keep hb6)
        have Hb6 := Lib.hid (Hb5.out.trans (hb6.mono Hb5.out.size))
        clear hb6 Hr5 Hb5 R2
        repeat' (first | go_values | go_skip | go_guarded | go_step | go_upon)
        refine Calls.mono (rg_Like _ _ l' w6 R2'.out Hr6.out) ?_
        rintro _ w7 ⟨rfl, hb7⟩
        dsimp only
        repeat' (first | go_values | go_skip | go_guarded | go_step | go_upon)
        go_ret
        exact ⟨rfl, Hb6.out.trans (hb7.mono Hb6.out.size)⟩
theorem law_IsaBack (w : World) (v : Value) (n : Nat) (xs : List Value) (h : RdC w.heap.size 5 w v n xs) (_ : n * 40 ≤ 140737488351232) (hf : ∀ i, i < n → FlatOk [.int .i64, .int .i64, .int .i64, .int .i64, .int .i64] ((xs.drop (i * 5)).take 5)) (hT : TabR w) :
    Calls Tryd.prog 5 #[v] w fun e w' => e = .returned (.bool true) ∧ Below w.heap.size w w' := by
  have hx : xs.length = n * 5 := by obtain ⟨_, _, _, _, _, h, _⟩ := h; exact h
  obtain ⟨l, rfl, rfl⟩ := inss_of hx hf
  exact walk_IsaBack v l w h hT
end Go.Proofs.YtpelngkhipcneaaDoor
