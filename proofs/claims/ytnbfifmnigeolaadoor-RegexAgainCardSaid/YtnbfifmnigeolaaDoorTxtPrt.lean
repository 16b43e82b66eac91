/- Walk: bytes that rise, written as a class (fretsawref06.parts). Conditions: bytes, at most 256 of them. -/
import Derived.Test.YtnbfifmnigeolaaDoorTxtByte
namespace Go.Proofs.YtnbfifmnigeolaaDoor
open Go.RowKit
theorem genC06 {P : Program} {md : Region.Mode} {ops : Array Oper} {C : World → Prop} {Q : Exit → Act → World → Prop} {fuel : Nat} {listed : Array Bool} {a : Act} {w : World} (F : World → Prop) (hF : F w) (h : ∀ w', F w' → wpAnyC P md ops C Q fuel listed a w') : wpAnyC P md ops C Q fuel listed a w := h w hF
theorem str_at (L : List Nat) (hL : ∀ x ∈ L, x < 256) (i : Nat) (hi : i < L.length) (w : World) : (Instr.index 9 (.string ⟨(L.map u8).toArray⟩) (.int .i64 (i : Int))).run Tryd.prog w = .ok (.int .u8 ((L.getD i 0 : Nat) : Int)) w := by
  have hx : L.getD i 0 = L[i] := by rw [List.getD_eq_getElem?_getD, List.getElem?_eq_getElem hi]; rfl
  have hlt := hL _ (List.getElem_mem hi)
  have hs : (⟨(L.map u8).toArray⟩ : ByteArray).size = L.length := by simp [ByteArray.size]
  have hin : i < (⟨(L.map u8).toArray⟩ : ByteArray).size := by rw [hs]; exact hi
  have hg : ((⟨(L.map u8).toArray⟩ : ByteArray)[i]'hin).toNat = L[i] := by
    have e : (⟨(L.map u8).toArray⟩ : ByteArray)[i]'hin = (L.map u8).toArray[i]'(by simpa using hi) := rfl
    rw [e, List.getElem_toArray, List.getElem_map, u8_toNat_lt hlt]
  have hi' : 0 ≤ (i : Int) ∧ (i : Int) < ((⟨(L.map u8).toArray⟩ : ByteArray).size : Int) := by rw [hs]; omega
  rw [run_index_string w _ _ _ _ Tryd.underlying9, dif_pos hi', hx, ← hg]
  rfl
set_option maxRecDepth 100000 in
set_option maxHeartbeats 4000000 in
theorem ref_parts (L : List Nat) (hL : ∀ x ∈ L, x < 256) (hn : L.length ≤ 256) (w : World) : Calls Tryd.prog 41 #[.string ⟨(L.map u8).toArray⟩] w fun e w' => e = .returned (.string ⟨(prt L).toArray⟩) ∧ Below w.heap.size w w' := by
  obtain ⟨S, hS⟩ : ∃ S : ByteArray, S = ⟨(L.map u8).toArray⟩ := ⟨_, rfl⟩
  obtain ⟨n, hnn⟩ : ∃ n, n = L.length := ⟨_, rfl⟩
  have hsz : S.size = n := by rw [hS, hnn]; simp [ByteArray.size]
  have Hix : Hid (∀ i, i < n → ∀ w, (Instr.index 9 (.string S) (.int .i64 (i : Int))).run Tryd.prog w = .ok (.int .u8 ((L.getD i 0 : Nat) : Int)) w) := Lib.hid fun i hi w => by rw [hS]; exact str_at L hL i (by rw [← hnn]; exact hi) w
  have Hlt : Hid (∀ i, L.getD i 0 < 256) := Lib.hid fun i => by
    by_cases h : i < L.length
    · rw [List.getD_eq_getElem?_getD, List.getElem?_eq_getElem h]; exact hL _ (List.getElem_mem h)
    · rw [List.getD_eq_getElem?_getD, List.getElem?_eq_none (by omega)]; decide
  have Hn := Lib.hid hnn
  have hn256 : n ≤ 256 := by rw [hnn]; exact hn
  rw [← hS]
  have H0 : Hid (prt L = [] ++ prtF L n 0 ∧ n - 0 ≤ n) := Lib.hid ⟨by rw [hnn]; rfl, by omega⟩
  clear hS hnn hL hn
  go_enter Tryd.func41, Tryd.ntmps41
  repeat' (first | go_values | go_skip | go_guarded | go_step | go_upon)
  go_loopg [3, 4] n (fun gk s3 s4 wr => ∃ (i f : Nat) (s : List UInt8), s4 = .int .i64 i ∧ s3 = .string ⟨s.toArray⟩ ∧ n - i ≤ gk ∧ i ≤ n ∧ s.length ≤ 9 * i ∧ Hid (prt L = s ++ prtF L f i ∧ n - i ≤ f) ∧ Hid (Below w.heap.size w wr))
  case atStart => exact ⟨0, n, [], rfl, rfl, by omega, Nat.zero_le _, Nat.zero_le _, H0, Lib.hid (Below.refl _ _)⟩
  case round =>
    clear H0
    obtain ⟨i, f, s, rfl, rfl, hg, hi, hsl, HP, HB⟩ := hrel
    by_cases hin : i < n
    · have hin' : (i : Int) < n := by omega
      have HG0 : Hid (runF L i (n - i) 1 = runN L i ∧ n - i < n - i + 1) := Lib.hid ⟨by unfold runN; rw [← Hn.out], by omega⟩
      have hN := runN_b (l := L) (i := i) (by rw [← Hn.out]; exact hin)
      rw [← Hn.out] at hN
      obtain ⟨N, hNe⟩ : ∃ N, runN L i = N := ⟨_, rfl⟩
      rw [hNe] at HG0 hN
      have HN := Lib.hid hNe
      clear hNe
      repeat' (first | go_values | go_skip | go_guarded | go_step | go_upon)
      go_loopg [5] (n - i) (fun gj s5 wi => ∃ (j f' : Nat), s5 = .int .i64 j ∧ i ≤ j ∧ j < n ∧ n - j ≤ gj ∧ Hid (L.getD j 0 = L.getD i 0 + (j - i) ∧ runF L i f' (j - i + 1) = N ∧ n - i < f' + (j - i + 1)) ∧ Hid (Below w.heap.size w wi))
      case atStart => exact ⟨i, n - i, rfl, Nat.le_refl _, hin, Nat.le_refl _, Lib.hid ⟨by omega, by rw [Nat.sub_self]; exact HG0.out.1, by omega⟩, HB⟩
      case round =>
        clear HB HG0
        obtain ⟨j, f', rfl, hj1, hj2, hgj, HJ, HB⟩ := hrel
        have hw1 : IntKind.i64.wrap ((j : Int) + 1) = (j : Int) + 1 := wi64 (by unfold I64; omega)
        -- the run goes on?
        by_cases hgo : j + 1 < n ∧ L.getD (j + 1) 0 = L.getD j 0 + 1
        · obtain ⟨hg1, hg2⟩ := hgo
          have hstep := runF_go (l := L) (i := i) (f := f') (n := j - i + 1) (by rw [← Hn.out]; exact HJ.out.2.2) ⟨by rw [← Hn.out]; omega, by
            rw [show i + (j - i + 1) = j + 1 by omega, hg2, HJ.out.1]; omega⟩
          obtain ⟨f2, _, hf2⟩ := hstep
          have HJ2 : Hid (L.getD (j + 1) 0 = L.getD i 0 + (j + 1 - i) ∧ runF L i f2 (j + 1 - i + 1) = N ∧ n - i < f2 + (j + 1 - i + 1)) := Lib.hid ⟨by rw [hg2, HJ.out.1]; omega, by rw [show j + 1 - i + 1 = j - i + 1 + 1 by omega, ← hf2]; exact HJ.out.2.1, by have := HJ.out.2.2; omega⟩
          have i1 := Hix.out (j + 1) hg1
          have i2 := Hix.out j hj2
          rw [Int.natCast_add] at i1
          change ∀ w, (Instr.index 9 (.string S) (.int .i64 ((j : Int) + 1))).run Tryd.prog w = _ at i1
          rw [hg2] at i1
          have hx := Hlt.out j
          generalize L.getD j 0 = x at i1 i2 hx
          rw [Int.natCast_add] at i1
          change ∀ w, (Instr.index 9 (.string S) (.int .i64 ((j : Int) + 1))).run Tryd.prog w = Result.ok (.int .u8 ((x : Int) + 1)) w at i1
          have hw2 : IntKind.i64.wrap ((x : Int) + 1) = (x : Int) + 1 := wi64 (by unfold I64; omega)
          have hw3 : IntKind.i64.wrap (x : Int) = (x : Int) := wi64 (by unfold I64; omega)
          have hl1 : (j : Int) + 1 < (n : Int) := by omega
          clear hf2 hg2 HJ hx
          repeat' (go_not_at_region 5; first | go_values | go_skip | go_guarded | go_step | go_upon)
          refine wp_region_anyC (by kernel_rfl) wr ?_
          refine wpAnyC_take (i := 0) (v := _) rfl (by kernel_rfl) (by kernel_rfl) (by kernel_rfl) (fun _ _ _ h => h) (Or.inl ⟨by rfl, fun w ⟨nq, hw⟩ => by (subst hw; go_simp <;> with_reducible rfl)⟩) (by go_simp <;> with_reducible rfl) ?_
          refine wpAnyC_take (i := 1) (v := _) rfl (by kernel_rfl) (by kernel_rfl) (by kernel_rfl) (fun _ _ _ h => h) (Or.inl ⟨by rfl, fun w ⟨nq, hw⟩ => by (subst hw; go_simp <;> with_reducible rfl)⟩) (by go_simp <;> with_reducible rfl) ?_
          refine wpAnyC_take (i := 2) (v := _) rfl (by kernel_rfl) (by kernel_rfl) (by kernel_rfl) (fun _ _ _ h => h) (Or.inl ⟨by rfl, fun w ⟨nq, hw⟩ => by (subst hw; go_simp <;> with_reducible rfl)⟩) (by go_simp <;> with_reducible rfl) ?_
          refine wpAnyC_take (i := 3) (v := _) rfl (by kernel_rfl) (by kernel_rfl) (by kernel_rfl) (fun _ _ _ h => h) (Or.inl ⟨by rfl, fun w ⟨nq, hw⟩ => by (subst hw; go_simp <;> with_reducible rfl)⟩) (by go_simp <;> with_reducible rfl) ?_
          refine wpAnyC_take (i := 4) (v := _) rfl (by kernel_rfl) (by kernel_rfl) (by kernel_rfl) (fun _ _ _ h => h) (Or.inl ⟨by rfl, fun w ⟨nq, hw⟩ => by (subst hw; go_simp <;> with_reducible rfl)⟩) (by go_simp <;> with_reducible rfl) ?_
          refine wpAnyC_take (i := 5) (v := _) rfl (by kernel_rfl) (by kernel_rfl) (by kernel_rfl) (fun _ _ _ h => h) (Or.inl ⟨by rfl, fun w ⟨nq, hw⟩ => by (subst hw; go_simp <;> with_reducible rfl)⟩) (by go_simp <;> with_reducible rfl) ?_
          refine wpAnyC_take (i := 6) (v := _) rfl (by kernel_rfl) (by kernel_rfl) (by kernel_rfl) (fun _ _ _ h => h) (Or.inl ⟨by rfl, fun w ⟨nq, hw⟩ => by (subst hw; go_simp <;> with_reducible rfl)⟩) (by go_simp <;> with_reducible rfl) ?_
          refine wpAnyC_take (i := 7) (v := _) rfl (by kernel_rfl) (by kernel_rfl) (by kernel_rfl) (fun _ _ _ h => h) (Or.inl ⟨by rfl, fun w ⟨nq, hw⟩ => by (subst hw; go_simp <;> with_reducible rfl)⟩) (by go_simp <;> with_reducible rfl) ?_
          refine wpAnyC_take (i := 8) (v := _) rfl (by kernel_rfl) (by kernel_rfl) (by kernel_rfl) (fun _ _ _ h => h) (Or.inl ⟨by rfl, fun w ⟨nq, hw⟩ => by (subst hw; go_simp <;> with_reducible rfl)⟩) (by go_simp <;> with_reducible rfl) ?_
          refine wpAnyC_take (i := 9) (v := _) rfl (by kernel_rfl) (by kernel_rfl) (by kernel_rfl) (fun _ _ _ h => h) (Or.inl ⟨by rfl, fun w ⟨nq, hw⟩ => by (subst hw; go_simp <;> with_reducible rfl)⟩) (by go_simp <;> with_reducible rfl) ?_
          refine wpAnyC_take (i := 10) (v := _) rfl (by kernel_rfl) (by kernel_rfl) (by kernel_rfl) (fun _ _ _ h => h) (Or.inl ⟨by rfl, fun w ⟨nq, hw⟩ => by (subst hw; go_simp <;> with_reducible rfl)⟩) (by go_simp <;> with_reducible rfl) ?_
          refine wpAnyC_take (i := 11) (v := _) rfl (by kernel_rfl) (by kernel_rfl) (by kernel_rfl) (fun _ _ _ h => h) (Or.inl ⟨by rfl, fun w ⟨nq, hw⟩ => by (subst hw; go_simp <;> with_reducible rfl)⟩) (by go_simp <;> with_reducible rfl) ?_
          refine wpAnyC_take (i := 12) (v := _) rfl (by kernel_rfl) (by kernel_rfl) (by kernel_rfl) (fun _ _ _ h => h) (Or.inl ⟨by rfl, fun w ⟨nq, hw⟩ => by (subst hw; go_simp <;> with_reducible rfl)⟩) (by go_simp <;> with_reducible rfl) ?_
          refine wpAnyC_take (i := 13) (v := _) rfl (by kernel_rfl) (by kernel_rfl) (by kernel_rfl) (fun _ _ _ h => h) (Or.inl ⟨by rfl, fun w ⟨nq, hw⟩ => by (subst hw; go_simp <;> with_reducible rfl)⟩) (by go_simp <;> with_reducible rfl) ?_
          refine wpAnyC_take (i := 14) (v := _) rfl (by kernel_rfl) (by kernel_rfl) (by kernel_rfl) (fun _ _ _ h => h) (Or.inl ⟨by rfl, fun w ⟨nq, hw⟩ => by (subst hw; go_simp <;> with_reducible rfl)⟩) (by go_simp <;> with_reducible rfl) ?_
          refine wpAnyC_take (i := 15) (v := _) rfl (by kernel_rfl) (by kernel_rfl) (by kernel_rfl) (fun _ _ _ h => h) (Or.inl ⟨by rfl, fun w ⟨nq, hw⟩ => by (subst hw; go_simp <;> with_reducible rfl)⟩) (by go_simp <;> with_reducible rfl) ?_
          refine wpAnyC_take (i := 16) (v := _) rfl (by kernel_rfl) (by kernel_rfl) (by kernel_rfl) (fun _ _ _ h => h) (Or.inl ⟨by rfl, fun w ⟨nq, hw⟩ => by (subst hw; go_simp <;> with_reducible rfl)⟩) (by go_simp <;> with_reducible rfl) ?_
          refine wpAnyC_take (i := 17) (v := _) rfl (by kernel_rfl) (by kernel_rfl) (by kernel_rfl) (fun _ _ _ h => h) (Or.inl ⟨by rfl, fun w ⟨nq, hw⟩ => by (subst hw; go_simp <;> with_reducible rfl)⟩) (by go_simp <;> with_reducible rfl) ?_
          refine wpAnyC_done (by kernel_rfl) (CW.of ((Below.refl _ _).drew)) (by go_simp <;> with_reducible rfl) ?_
          clear i1 i2 hw2 hw3
          repeat' (first | go_values | go_skip | go_guarded | go_step | go_upon)
          go_roundg (gk - 1)
          case rel => exact ⟨j + 1, f2, by go_num, by omega, hg1, by omega, HJ2, Lib.hid (HB.out.trans ((Below.refl _ _).drew))⟩
          case measure => omega
        · have hstop : N = j - i + 1 := by
            rw [← HJ.out.2.1]
            exact runF_stop (fun h => hgo ⟨by rw [Hn.out]; omega, by
              have := h.2
              rw [show i + (j - i + 1) = j + 1 by omega] at this
              rw [this, HJ.out.1]; omega⟩)
          have Hj : Hid (L.getD j 0 = L.getD i 0 + (j - i)) := Lib.hid HJ.out.1
          have hj0 := Hix.out j hj2
          have hi0 := Hix.out i hin
          have hxi := Hlt.out i
          have hxj := Hlt.out j
          have hdec : (¬ j + 1 < n) ∨ (j + 1 < n ∧ L.getD (j + 1) 0 ≠ L.getD j 0 + 1) := by
            by_cases h : j + 1 < n
            · exact .inr ⟨h, fun e => hgo ⟨h, e⟩⟩
            · exact .inl h
          have hsub : IntKind.i64.wrap ((j : Int) - (i : Int)) = (j : Int) - (i : Int) := wi64 (by unfold I64; omega)
          clear HJ hgo
          rcases hdec with hd | ⟨hd, hd2⟩
          · have hl1 : ¬ (j : Int) + 1 < (n : Int) := by omega
            repeat' (go_not_at_region 5; first | go_values | go_skip | go_guarded | go_step | go_upon)
            refine wp_region_anyC (by kernel_rfl) wr ?_
            refine wpAnyC_take (i := 0) (v := _) rfl (by kernel_rfl) (by kernel_rfl) (by kernel_rfl) (fun _ _ _ h => h) (Or.inl ⟨by rfl, fun w ⟨nq, hw⟩ => by (subst hw; go_simp <;> with_reducible rfl)⟩) (by go_simp <;> with_reducible rfl) ?_
            refine wpAnyC_take (i := 1) (v := _) rfl (by kernel_rfl) (by kernel_rfl) (by kernel_rfl) (fun _ _ _ h => h) (Or.inl ⟨by rfl, fun w ⟨nq, hw⟩ => by (subst hw; go_simp <;> with_reducible rfl)⟩) (by go_simp <;> with_reducible rfl) ?_
            refine wpAnyC_take (i := 2) (v := _) rfl (by kernel_rfl) (by kernel_rfl) (by kernel_rfl) (fun _ _ _ h => h) (Or.inl ⟨by rfl, fun w ⟨nq, hw⟩ => by (subst hw; go_simp <;> with_reducible rfl)⟩) (by go_simp <;> with_reducible rfl) ?_
            refine wpAnyC_take (i := 3) (v := _) rfl (by kernel_rfl) (by kernel_rfl) (by kernel_rfl) (fun _ _ _ h => h) (Or.inl ⟨by rfl, fun w ⟨nq, hw⟩ => by (subst hw; go_simp <;> with_reducible rfl)⟩) (by go_simp <;> with_reducible rfl) ?_
            refine wpAnyC_take (i := 4) (v := _) rfl (by kernel_rfl) (by kernel_rfl) (by kernel_rfl) (fun _ _ _ h => h) (Or.inl ⟨by rfl, fun w ⟨nq, hw⟩ => by (subst hw; go_simp <;> with_reducible rfl)⟩) (by go_simp <;> with_reducible rfl) ?_
            refine wpAnyC_take (i := 5) (v := _) rfl (by kernel_rfl) (by kernel_rfl) (by kernel_rfl) (fun _ _ _ h => h) (Or.inl ⟨by rfl, fun w ⟨nq, hw⟩ => by (subst hw; go_simp <;> with_reducible rfl)⟩) (by go_simp <;> with_reducible rfl) ?_
            refine wpAnyC_take (i := 6) (v := undef) rfl (by kernel_rfl) (by kernel_rfl) (by kernel_rfl) (fun _ _ _ h => h) (Or.inr ⟨by rfl, rfl⟩) (by go_simp <;> with_reducible rfl) ?_
            refine wpAnyC_take (i := 7) (v := undef) rfl (by kernel_rfl) (by kernel_rfl) (by kernel_rfl) (fun _ _ _ h => h) (Or.inr ⟨by rfl, rfl⟩) (by go_simp <;> with_reducible rfl) ?_
            refine wpAnyC_take (i := 8) (v := undef) rfl (by kernel_rfl) (by kernel_rfl) (by kernel_rfl) (fun _ _ _ h => h) (Or.inr ⟨by rfl, rfl⟩) (by go_simp <;> with_reducible rfl) ?_
            refine wpAnyC_take (i := 9) (v := undef) rfl (by kernel_rfl) (by kernel_rfl) (by kernel_rfl) (fun _ _ _ h => h) (Or.inr ⟨by rfl, rfl⟩) (by go_simp <;> with_reducible rfl) ?_
            refine wpAnyC_take (i := 10) (v := undef) rfl (by kernel_rfl) (by kernel_rfl) (by kernel_rfl) (fun _ _ _ h => h) (Or.inr ⟨by rfl, rfl⟩) (by go_simp <;> with_reducible rfl) ?_
            refine wpAnyC_take (i := 11) (v := undef) rfl (by kernel_rfl) (by kernel_rfl) (by kernel_rfl) (fun _ _ _ h => h) (Or.inr ⟨by rfl, rfl⟩) (by go_simp <;> with_reducible rfl) ?_
            refine wpAnyC_take (i := 12) (v := undef) rfl (by kernel_rfl) (by kernel_rfl) (by kernel_rfl) (fun _ _ _ h => h) (Or.inr ⟨by rfl, rfl⟩) (by go_simp <;> with_reducible rfl) ?_
            refine wpAnyC_take (i := 13) (v := undef) rfl (by kernel_rfl) (by kernel_rfl) (by kernel_rfl) (fun _ _ _ h => h) (Or.inr ⟨by rfl, rfl⟩) (by go_simp <;> with_reducible rfl) ?_
            refine wpAnyC_take (i := 14) (v := undef) rfl (by kernel_rfl) (by kernel_rfl) (by kernel_rfl) (fun _ _ _ h => h) (Or.inr ⟨by rfl, rfl⟩) (by go_simp <;> with_reducible rfl) ?_
            refine wpAnyC_take (i := 15) (v := undef) rfl (by kernel_rfl) (by kernel_rfl) (by kernel_rfl) (fun _ _ _ h => h) (Or.inr ⟨by rfl, rfl⟩) (by go_simp <;> with_reducible rfl) ?_
            refine wpAnyC_take (i := 16) (v := undef) rfl (by kernel_rfl) (by kernel_rfl) (by kernel_rfl) (fun _ _ _ h => h) (Or.inr ⟨by rfl, rfl⟩) (by go_simp <;> with_reducible rfl) ?_
            refine wpAnyC_take (i := 17) (v := _) rfl (by kernel_rfl) (by kernel_rfl) (by kernel_rfl) (fun _ _ _ h => h) (Or.inl ⟨by rfl, fun w ⟨nq, hw⟩ => by (subst hw; go_simp <;> with_reducible rfl)⟩) (by go_simp <;> with_reducible rfl) ?_
            refine wpAnyC_done (by kernel_rfl) (CW.of ((Below.refl _ _).drew)) (by go_simp <;> with_reducible rfl) ?_
            clear hl1 hd
            have HBd : Hid (Below w.heap.size w wr.drew) := Lib.hid (HB.out.trans ((Below.refl _ _).drew))
            obtain ⟨f0, rfl⟩ : ∃ g, f = g + 1 := ⟨f - 1, by have := HP.out.2; omega⟩
            have HP1 := Lib.hid HP.out.1
            have HPf := Lib.hid HP.out.2
            have hiL : i < L.length := by rw [← Hn.out]; exact hin
            have hw1l := wrt_len (L.getD i 0) true
            have hw2l := wrt_len (L.getD j 0) true
            have hsl2 : s.length ≤ 2304 := by omega
            by_cases h4 : 4 ≤ N
            · have hjN : j = i + N - 1 := by omega
              have H2 := prtF_run (f := f0) hiL (by rw [HN.out]; exact h4)
              rw [HN.out, ← hjN] at H2
              have hs3 : ¬ (j : Int) - (i : Int) < 3 := by omega
              obtain ⟨t1, ht1⟩ : ∃ t, s ++ wrt (L.getD i 0) true = t := ⟨_, rfl⟩
              obtain ⟨t2, ht2⟩ : ∃ t, t1 ++ [45] = t := ⟨_, rfl⟩
              obtain ⟨t3, ht3⟩ : ∃ t, t2 ++ wrt (L.getD j 0) true = t := ⟨_, rfl⟩
              have hl1 : t1.length ≤ s.length + 4 := by rw [← ht1, List.length_append]; omega
              have hl2 : t2.length ≤ s.length + 5 := by rw [← ht2, List.length_append, List.length_cons, List.length_nil]; omega
              have hl3 : t3.length ≤ s.length + 9 := by rw [← ht3, List.length_append]; omega
              have HPn : Hid (prt L = t3 ++ prtF L f0 (j + 1) ∧ n - (j + 1) ≤ f0) := Lib.hid ⟨by rw [HP1.out, H2, ← ht3, ← ht2, ← ht1, show i + N = j + 1 by omega]; simp only [List.append_assoc], by have := HPf.out; omega⟩
              have hc1 := ba_lits s (wrt (L.getD i 0) true)
              have hc2 : (⟨t1.toArray⟩ : ByteArray) ++ ⟨#[45]⟩ = ⟨(t1 ++ [45]).toArray⟩ := ba_lits t1 [45]
              have hc3 := ba_lits t2 (wrt (L.getD j 0) true)
              rw [ht1] at hc1
              rw [ht2] at hc2
              rw [ht3] at hc3
              have hR1 := fun W => ref_written (L.getD i 0) hxi true W
              have hR2 := fun W => ref_written (L.getD j 0) hxj true W
              clear ht1 ht2 ht3 H2 Hj hjN hstop
              generalize wrt (L.getD i 0) true = W1 at hc1 hR1 hw1l
              generalize wrt (L.getD j 0) true = W2 at hc3 hR2 hw2l
              generalize L.getD i 0 = xi at hi0 hR1
              generalize L.getD j 0 = xj at hj0 hR2
              have hif1 : ¬ 9223372036854775807 < s.length + W1.length := by omega
              have hif2 : ¬ 9223372036854775807 < t1.length + 1 := by omega
              have hif3 : ¬ 9223372036854775807 < t2.length + W2.length := by omega
              repeat' (go_not_at_region 10; first | go_values | go_skip | go_guarded | go_step | go_upon)
              refine gen_wd (fun W => Below w.heap.size w W) HBd.out ?_
              intro w5 hb5
              have HB5 := Lib.hid hb5
              clear hb5 HBd HB
              refine wp_region_anyC (by kernel_rfl) w5 ?_
              refine wpAnyC_take (i := 0) (v := _) rfl (by kernel_rfl) (by kernel_rfl) (by kernel_rfl) (fun _ _ _ h => h) (Or.inl ⟨by rfl, fun w ⟨nq, hw⟩ => by (subst hw; go_simp <;> with_reducible rfl)⟩) (by go_simp <;> with_reducible rfl) ?_
              refine wpAnyC_take (i := 1) (v := _) rfl (by kernel_rfl) (by kernel_rfl) (by kernel_rfl) (fun _ _ _ h => h) (Or.inl ⟨by rfl, fun w ⟨nq, hw⟩ => by (subst hw; go_simp <;> with_reducible rfl)⟩) (by go_simp <;> with_reducible rfl) ?_
              refine wpAnyC_take (i := 2) (v := _) rfl (by kernel_rfl) (by kernel_rfl) (by kernel_rfl) (fun _ _ _ h => h) (Or.inl ⟨by rfl, fun w ⟨nq, hw⟩ => by (subst hw; go_simp <;> with_reducible rfl)⟩) (by go_simp <;> with_reducible rfl) ?_
              refine wpAnyC_take (i := 3) (v := _) rfl (by kernel_rfl) (by kernel_rfl) (by kernel_rfl) (fun _ _ _ h => h) (Or.inl ⟨by rfl, fun w ⟨nq, hw⟩ => by (subst hw; go_simp <;> with_reducible rfl)⟩) (by go_simp <;> with_reducible rfl) ?_
              refine wpAnyC_take (i := 7) (v := _) rfl (by kernel_rfl) (by kernel_rfl) (by kernel_rfl) (fun _ _ _ h => h) (Or.inl ⟨by rfl, fun w ⟨nq, hw⟩ => by (subst hw; go_simp <;> with_reducible rfl)⟩) (by go_simp <;> with_reducible rfl) ?_
              refine wpAnyC_take (i := 8) (v := _) rfl (by kernel_rfl) (by kernel_rfl) (by kernel_rfl) (fun _ _ _ h => h) (Or.inl ⟨by rfl, fun w ⟨nq, hw⟩ => by (subst hw; go_simp <;> with_reducible rfl)⟩) (by go_simp <;> with_reducible rfl) ?_
              refine wpAnyC_take (i := 9) (v := _) rfl (by kernel_rfl) (by kernel_rfl) (by kernel_rfl) (fun _ _ _ h => h) (Or.inl ⟨by rfl, fun w ⟨nq, hw⟩ => by (subst hw; go_simp <;> with_reducible rfl)⟩) (by go_simp <;> with_reducible rfl) ?_
              refine genC06 (fun W => Below w5.heap.size w5 W) (Below.refl _ _).drew ?_
              intro w6 hb6
              refine wpAnyC_ready (CW.of (hb6)) (rs := [4]) (by kernel_rfl) (by simp) ?_
              refine (AllReadyC.cons rfl (fun K hK => ?_) AllReadyC.nil)
              go_simp
              refine Calls.mono (hR1 w6) ?_
              rintro _ w7 ⟨rfl, hb7⟩
              dsimp only
              refine hK _ _ ?_
              clear hK K
              have hb8 := hb6.trans (hb7.mono hb6.size)
              clear hb6 hb7
              refine wpAnyC_take (i := 5) (v := _) rfl (by kernel_rfl) (by kernel_rfl) (by kernel_rfl) (fun _ _ _ h => h) (Or.inl ⟨by rfl, fun w ⟨nq, hw⟩ => by (subst hw; go_simp <;> with_reducible rfl)⟩) (by go_simp <;> with_reducible rfl) ?_
              refine wpAnyC_take (i := 6) (v := _) rfl (by kernel_rfl) (by kernel_rfl) (by kernel_rfl) (fun _ _ _ h => h) (Or.inl ⟨by rfl, fun w ⟨nq, hw⟩ => by (subst hw; go_simp <;> with_reducible rfl)⟩) (by go_simp <;> with_reducible rfl) ?_
              refine wpAnyC_ready (CW.of (hb8)) (rs := [10]) (by kernel_rfl) (by simp) ?_
              refine (AllReadyC.cons rfl (fun K hK => ?_) AllReadyC.nil)
              go_simp
              refine Calls.mono (hR2 w7) ?_
              rintro _ w9 ⟨rfl, hb9⟩
              dsimp only
              refine hK _ _ ?_
              clear hK K
              have hb10 := hb8.trans (hb9.mono hb8.size)
              clear hb8 hb9
              refine wpAnyC_take (i := 11) (v := _) rfl (by kernel_rfl) (by kernel_rfl) (by kernel_rfl) (fun _ _ _ h => h) (Or.inl ⟨by rfl, fun w ⟨nq, hw⟩ => by (subst hw; go_simp <;> with_reducible rfl)⟩) (by go_simp <;> with_reducible rfl) ?_
              refine wpAnyC_take (i := 12) (v := _) rfl (by kernel_rfl) (by kernel_rfl) (by kernel_rfl) (fun _ _ _ h => h) (Or.inl ⟨by rfl, fun w ⟨nq, hw⟩ => by (subst hw; go_simp <;> with_reducible rfl)⟩) (by go_simp <;> with_reducible rfl) ?_
              refine wpAnyC_done (by kernel_rfl) (CW.of (hb10)) (by go_simp <;> with_reducible rfl) ?_
              have HB10 := Lib.hid (HB5.out.trans (hb10.mono HB5.out.size))
              clear hb10 HB5 hR1 hR2 hc1 hc2 hc3 hif1 hif2 hif3 hi0 hj0
              repeat' (first | go_values | go_skip | go_guarded | go_step | go_upon)
              go_roundg (n - (j + 1))
              case rel => exact ⟨j + 1, f0, t3, by go_num, rfl, Nat.le_refl _, by omega, by omega, HPn, HB10⟩
              case measure => omega
            · have H2 := prtF_one (f := f0) hiL (by rw [HN.out]; exact h4)
              have hs3 : (j : Int) - (i : Int) < 3 := by omega
              obtain ⟨t1, ht1⟩ : ∃ t, s ++ wrt (L.getD i 0) true = t := ⟨_, rfl⟩
              have hl1 : t1.length ≤ s.length + 4 := by rw [← ht1, List.length_append]; omega
              have HPn : Hid (prt L = t1 ++ prtF L f0 (i + 1) ∧ n - (i + 1) ≤ f0) := Lib.hid ⟨by rw [HP1.out, H2, ← ht1]; simp only [List.append_assoc], by have := HPf.out; omega⟩
              have hc1 := ba_lits s (wrt (L.getD i 0) true)
              rw [ht1] at hc1
              have hR1 := fun W => ref_written (L.getD i 0) hxi true W
              clear ht1 H2 Hj hstop
              generalize wrt (L.getD i 0) true = W1 at hc1 hR1 hw1l
              generalize L.getD i 0 = xi at hi0 hR1
              have hif1 : ¬ 9223372036854775807 < s.length + W1.length := by omega
              repeat' (go_not_at_region 9; first | go_values | go_skip | go_guarded | go_step | go_upon)
              refine gen_wd (fun W => Below w.heap.size w W) HBd.out ?_
              intro w5 hb5
              have HB5 := Lib.hid hb5
              clear hb5 HBd HB
              repeat' (first | go_values | go_skip | go_guarded | go_step | go_upon)
              refine Calls.mono (hR1 _) ?_
              rintro _ w6 ⟨rfl, hb6⟩
              dsimp only
              have HB6 := Lib.hid (HB5.out.trans (hb6.mono HB5.out.size))
              clear hb6 HB5 hR1
              repeat' (first | go_values | go_skip | go_guarded | go_step | go_upon)
              go_roundg (n - (i + 1))
              case rel => exact ⟨i + 1, f0, t1, by go_num, rfl, Nat.le_refl _, by omega, by omega, HPn, HB6⟩
              case measure => omega
          · have hl1 : (j : Int) + 1 < (n : Int) := by omega
            have i1 := Hix.out (j + 1) hd
            rw [Int.natCast_add] at i1
            change ∀ w, (Instr.index 9 (.string S) (.int .i64 ((j : Int) + 1))).run Tryd.prog w = _ at i1
            have hxk := Hlt.out (j + 1)
            obtain ⟨y, hy⟩ : ∃ y, L.getD (j + 1) 0 = y := ⟨_, rfl⟩
            obtain ⟨x, hx⟩ : ∃ x, L.getD j 0 = x := ⟨_, rfl⟩
            have hj1 := hj0
            rw [hx] at hj1 hd2 hxj
            rw [hy] at i1 hd2 hxk
            have hw2 : IntKind.i64.wrap ((x : Int) + 1) = (x : Int) + 1 := wi64 (by unfold I64; omega)
            have hw3 : IntKind.i64.wrap (x : Int) = (x : Int) := wi64 (by unfold I64; omega)
            have hw4 : IntKind.i64.wrap (y : Int) = (y : Int) := wi64 (by unfold I64; omega)
            have hne : ((y : Int) == (x : Int) + 1) = false := beq_false_of_ne (by omega)
            have Hx := Lib.hid hx
            clear hx hy hd2
            have Hj0 := Lib.hid hj0
            clear hj0
            repeat' (go_not_at_region 5; first | go_values | go_skip | go_guarded | go_step | go_upon)
            refine wp_region_anyC (by kernel_rfl) wr ?_
            refine wpAnyC_take (i := 0) (v := _) rfl (by kernel_rfl) (by kernel_rfl) (by kernel_rfl) (fun _ _ _ h => h) (Or.inl ⟨by rfl, fun w ⟨nq, hw⟩ => by (subst hw; go_simp <;> with_reducible rfl)⟩) (by go_simp <;> with_reducible rfl) ?_
            refine wpAnyC_take (i := 1) (v := _) rfl (by kernel_rfl) (by kernel_rfl) (by kernel_rfl) (fun _ _ _ h => h) (Or.inl ⟨by rfl, fun w ⟨nq, hw⟩ => by (subst hw; go_simp <;> with_reducible rfl)⟩) (by go_simp <;> with_reducible rfl) ?_
            refine wpAnyC_take (i := 2) (v := _) rfl (by kernel_rfl) (by kernel_rfl) (by kernel_rfl) (fun _ _ _ h => h) (Or.inl ⟨by rfl, fun w ⟨nq, hw⟩ => by (subst hw; go_simp <;> with_reducible rfl)⟩) (by go_simp <;> with_reducible rfl) ?_
            refine wpAnyC_take (i := 3) (v := _) rfl (by kernel_rfl) (by kernel_rfl) (by kernel_rfl) (fun _ _ _ h => h) (Or.inl ⟨by rfl, fun w ⟨nq, hw⟩ => by (subst hw; go_simp <;> with_reducible rfl)⟩) (by go_simp <;> with_reducible rfl) ?_
            refine wpAnyC_take (i := 4) (v := _) rfl (by kernel_rfl) (by kernel_rfl) (by kernel_rfl) (fun _ _ _ h => h) (Or.inl ⟨by rfl, fun w ⟨nq, hw⟩ => by (subst hw; go_simp <;> with_reducible rfl)⟩) (by go_simp <;> with_reducible rfl) ?_
            refine wpAnyC_take (i := 5) (v := _) rfl (by kernel_rfl) (by kernel_rfl) (by kernel_rfl) (fun _ _ _ h => h) (Or.inl ⟨by rfl, fun w ⟨nq, hw⟩ => by (subst hw; go_simp <;> with_reducible rfl)⟩) (by go_simp <;> with_reducible rfl) ?_
            refine wpAnyC_take (i := 6) (v := _) rfl (by kernel_rfl) (by kernel_rfl) (by kernel_rfl) (fun _ _ _ h => h) (Or.inl ⟨by rfl, fun w ⟨nq, hw⟩ => by (subst hw; go_simp <;> with_reducible rfl)⟩) (by go_simp <;> with_reducible rfl) ?_
            refine wpAnyC_take (i := 7) (v := _) rfl (by kernel_rfl) (by kernel_rfl) (by kernel_rfl) (fun _ _ _ h => h) (Or.inl ⟨by rfl, fun w ⟨nq, hw⟩ => by (subst hw; go_simp <;> with_reducible rfl)⟩) (by go_simp <;> with_reducible rfl) ?_
            refine wpAnyC_take (i := 8) (v := _) rfl (by kernel_rfl) (by kernel_rfl) (by kernel_rfl) (fun _ _ _ h => h) (Or.inl ⟨by rfl, fun w ⟨nq, hw⟩ => by (subst hw; go_simp <;> with_reducible rfl)⟩) (by go_simp <;> with_reducible rfl) ?_
            refine wpAnyC_take (i := 9) (v := _) rfl (by kernel_rfl) (by kernel_rfl) (by kernel_rfl) (fun _ _ _ h => h) (Or.inl ⟨by rfl, fun w ⟨nq, hw⟩ => by (subst hw; go_simp <;> with_reducible rfl)⟩) (by go_simp <;> with_reducible rfl) ?_
            refine wpAnyC_take (i := 10) (v := _) rfl (by kernel_rfl) (by kernel_rfl) (by kernel_rfl) (fun _ _ _ h => h) (Or.inl ⟨by rfl, fun w ⟨nq, hw⟩ => by (subst hw; go_simp <;> with_reducible rfl)⟩) (by go_simp <;> with_reducible rfl) ?_
            refine wpAnyC_take (i := 11) (v := _) rfl (by kernel_rfl) (by kernel_rfl) (by kernel_rfl) (fun _ _ _ h => h) (Or.inl ⟨by rfl, fun w ⟨nq, hw⟩ => by (subst hw; go_simp <;> with_reducible rfl)⟩) (by go_simp <;> with_reducible rfl) ?_
            refine wpAnyC_take (i := 12) (v := _) rfl (by kernel_rfl) (by kernel_rfl) (by kernel_rfl) (fun _ _ _ h => h) (Or.inl ⟨by rfl, fun w ⟨nq, hw⟩ => by (subst hw; go_simp <;> with_reducible rfl)⟩) (by go_simp <;> with_reducible rfl) ?_
            refine wpAnyC_take (i := 13) (v := _) rfl (by kernel_rfl) (by kernel_rfl) (by kernel_rfl) (fun _ _ _ h => h) (Or.inl ⟨by rfl, fun w ⟨nq, hw⟩ => by (subst hw; go_simp <;> with_reducible rfl)⟩) (by go_simp <;> with_reducible rfl) ?_
            refine wpAnyC_take (i := 14) (v := _) rfl (by kernel_rfl) (by kernel_rfl) (by kernel_rfl) (fun _ _ _ h => h) (Or.inl ⟨by rfl, fun w ⟨nq, hw⟩ => by (subst hw; go_simp <;> with_reducible rfl)⟩) (by go_simp <;> with_reducible rfl) ?_
            refine wpAnyC_take (i := 15) (v := _) rfl (by kernel_rfl) (by kernel_rfl) (by kernel_rfl) (fun _ _ _ h => h) (Or.inl ⟨by rfl, fun w ⟨nq, hw⟩ => by (subst hw; go_simp <;> with_reducible rfl)⟩) (by go_simp <;> with_reducible rfl) ?_
            refine wpAnyC_take (i := 16) (v := _) rfl (by kernel_rfl) (by kernel_rfl) (by kernel_rfl) (fun _ _ _ h => h) (Or.inl ⟨by rfl, fun w ⟨nq, hw⟩ => by (subst hw; go_simp <;> with_reducible rfl)⟩) (by go_simp <;> with_reducible rfl) ?_
            refine wpAnyC_take (i := 17) (v := _) rfl (by kernel_rfl) (by kernel_rfl) (by kernel_rfl) (fun _ _ _ h => h) (Or.inl ⟨by rfl, fun w ⟨nq, hw⟩ => by (subst hw; go_simp <;> with_reducible rfl)⟩) (by go_simp <;> with_reducible rfl) ?_
            refine wpAnyC_done (by kernel_rfl) (CW.of ((Below.refl _ _).drew)) (by go_simp <;> with_reducible rfl) ?_
            have hj0 := Hj0.out
            rw [← Hx.out] at hxj
            clear i1 hw2 hw3 hw4 hne hj1 hl1 hd hxk Hx Hj0
            have HBd : Hid (Below w.heap.size w wr.drew) := Lib.hid (HB.out.trans ((Below.refl _ _).drew))
            obtain ⟨f0, rfl⟩ : ∃ g, f = g + 1 := ⟨f - 1, by have := HP.out.2; omega⟩
            have HP1 := Lib.hid HP.out.1
            have HPf := Lib.hid HP.out.2
            have hiL : i < L.length := by rw [← Hn.out]; exact hin
            have hw1l := wrt_len (L.getD i 0) true
            have hw2l := wrt_len (L.getD j 0) true
            have hsl2 : s.length ≤ 2304 := by omega
            by_cases h4 : 4 ≤ N
            · have hjN : j = i + N - 1 := by omega
              have H2 := prtF_run (f := f0) hiL (by rw [HN.out]; exact h4)
              rw [HN.out, ← hjN] at H2
              have hs3 : ¬ (j : Int) - (i : Int) < 3 := by omega
              obtain ⟨t1, ht1⟩ : ∃ t, s ++ wrt (L.getD i 0) true = t := ⟨_, rfl⟩
              obtain ⟨t2, ht2⟩ : ∃ t, t1 ++ [45] = t := ⟨_, rfl⟩
              obtain ⟨t3, ht3⟩ : ∃ t, t2 ++ wrt (L.getD j 0) true = t := ⟨_, rfl⟩
              have hl1 : t1.length ≤ s.length + 4 := by rw [← ht1, List.length_append]; omega
              have hl2 : t2.length ≤ s.length + 5 := by rw [← ht2, List.length_append, List.length_cons, List.length_nil]; omega
              have hl3 : t3.length ≤ s.length + 9 := by rw [← ht3, List.length_append]; omega
              have HPn : Hid (prt L = t3 ++ prtF L f0 (j + 1) ∧ n - (j + 1) ≤ f0) := Lib.hid ⟨by rw [HP1.out, H2, ← ht3, ← ht2, ← ht1, show i + N = j + 1 by omega]; simp only [List.append_assoc], by have := HPf.out; omega⟩
              have hc1 := ba_lits s (wrt (L.getD i 0) true)
              have hc2 : (⟨t1.toArray⟩ : ByteArray) ++ ⟨#[45]⟩ = ⟨(t1 ++ [45]).toArray⟩ := ba_lits t1 [45]
              have hc3 := ba_lits t2 (wrt (L.getD j 0) true)
              rw [ht1] at hc1
              rw [ht2] at hc2
              rw [ht3] at hc3
              have hR1 := fun W => ref_written (L.getD i 0) hxi true W
              have hR2 := fun W => ref_written (L.getD j 0) hxj true W
              clear ht1 ht2 ht3 H2 Hj hjN hstop
              generalize wrt (L.getD i 0) true = W1 at hc1 hR1 hw1l
              generalize wrt (L.getD j 0) true = W2 at hc3 hR2 hw2l
              generalize L.getD i 0 = xi at hi0 hR1
              generalize L.getD j 0 = xj at hj0 hR2
              have hif1 : ¬ 9223372036854775807 < s.length + W1.length := by omega
              have hif2 : ¬ 9223372036854775807 < t1.length + 1 := by omega
              have hif3 : ¬ 9223372036854775807 < t2.length + W2.length := by omega
              repeat' (go_not_at_region 10; first | go_values | go_skip | go_guarded | go_step | go_upon)
              refine gen_wd (fun W => Below w.heap.size w W) HBd.out ?_
              intro w5 hb5
              have HB5 := Lib.hid hb5
              clear hb5 HBd HB
              refine wp_region_anyC (by kernel_rfl) w5 ?_
              refine wpAnyC_take (i := 0) (v := _) rfl (by kernel_rfl) (by kernel_rfl) (by kernel_rfl) (fun _ _ _ h => h) (Or.inl ⟨by rfl, fun w ⟨nq, hw⟩ => by (subst hw; go_simp <;> with_reducible rfl)⟩) (by go_simp <;> with_reducible rfl) ?_
              refine wpAnyC_take (i := 1) (v := _) rfl (by kernel_rfl) (by kernel_rfl) (by kernel_rfl) (fun _ _ _ h => h) (Or.inl ⟨by rfl, fun w ⟨nq, hw⟩ => by (subst hw; go_simp <;> with_reducible rfl)⟩) (by go_simp <;> with_reducible rfl) ?_
              refine wpAnyC_take (i := 2) (v := _) rfl (by kernel_rfl) (by kernel_rfl) (by kernel_rfl) (fun _ _ _ h => h) (Or.inl ⟨by rfl, fun w ⟨nq, hw⟩ => by (subst hw; go_simp <;> with_reducible rfl)⟩) (by go_simp <;> with_reducible rfl) ?_
              refine wpAnyC_take (i := 3) (v := _) rfl (by kernel_rfl) (by kernel_rfl) (by kernel_rfl) (fun _ _ _ h => h) (Or.inl ⟨by rfl, fun w ⟨nq, hw⟩ => by (subst hw; go_simp <;> with_reducible rfl)⟩) (by go_simp <;> with_reducible rfl) ?_
              refine wpAnyC_take (i := 7) (v := _) rfl (by kernel_rfl) (by kernel_rfl) (by kernel_rfl) (fun _ _ _ h => h) (Or.inl ⟨by rfl, fun w ⟨nq, hw⟩ => by (subst hw; go_simp <;> with_reducible rfl)⟩) (by go_simp <;> with_reducible rfl) ?_
              refine wpAnyC_take (i := 8) (v := _) rfl (by kernel_rfl) (by kernel_rfl) (by kernel_rfl) (fun _ _ _ h => h) (Or.inl ⟨by rfl, fun w ⟨nq, hw⟩ => by (subst hw; go_simp <;> with_reducible rfl)⟩) (by go_simp <;> with_reducible rfl) ?_
              refine wpAnyC_take (i := 9) (v := _) rfl (by kernel_rfl) (by kernel_rfl) (by kernel_rfl) (fun _ _ _ h => h) (Or.inl ⟨by rfl, fun w ⟨nq, hw⟩ => by (subst hw; go_simp <;> with_reducible rfl)⟩) (by go_simp <;> with_reducible rfl) ?_
              refine genC06 (fun W => Below w5.heap.size w5 W) (Below.refl _ _).drew ?_
              intro w6 hb6
              refine wpAnyC_ready (CW.of (hb6)) (rs := [4]) (by kernel_rfl) (by simp) ?_
              refine (AllReadyC.cons rfl (fun K hK => ?_) AllReadyC.nil)
              go_simp
              refine Calls.mono (hR1 w6) ?_
              rintro _ w7 ⟨rfl, hb7⟩
              dsimp only
              refine hK _ _ ?_
              clear hK K
              have hb8 := hb6.trans (hb7.mono hb6.size)
              clear hb6 hb7
              refine wpAnyC_take (i := 5) (v := _) rfl (by kernel_rfl) (by kernel_rfl) (by kernel_rfl) (fun _ _ _ h => h) (Or.inl ⟨by rfl, fun w ⟨nq, hw⟩ => by (subst hw; go_simp <;> with_reducible rfl)⟩) (by go_simp <;> with_reducible rfl) ?_
              refine wpAnyC_take (i := 6) (v := _) rfl (by kernel_rfl) (by kernel_rfl) (by kernel_rfl) (fun _ _ _ h => h) (Or.inl ⟨by rfl, fun w ⟨nq, hw⟩ => by (subst hw; go_simp <;> with_reducible rfl)⟩) (by go_simp <;> with_reducible rfl) ?_
              refine wpAnyC_ready (CW.of (hb8)) (rs := [10]) (by kernel_rfl) (by simp) ?_
              refine (AllReadyC.cons rfl (fun K hK => ?_) AllReadyC.nil)
              go_simp
              refine Calls.mono (hR2 w7) ?_
              rintro _ w9 ⟨rfl, hb9⟩
              dsimp only
              refine hK _ _ ?_
              clear hK K
              have hb10 := hb8.trans (hb9.mono hb8.size)
              clear hb8 hb9
              refine wpAnyC_take (i := 11) (v := _) rfl (by kernel_rfl) (by kernel_rfl) (by kernel_rfl) (fun _ _ _ h => h) (Or.inl ⟨by rfl, fun w ⟨nq, hw⟩ => by (subst hw; go_simp <;> with_reducible rfl)⟩) (by go_simp <;> with_reducible rfl) ?_
              refine wpAnyC_take (i := 12) (v := _) rfl (by kernel_rfl) (by kernel_rfl) (by kernel_rfl) (fun _ _ _ h => h) (Or.inl ⟨by rfl, fun w ⟨nq, hw⟩ => by (subst hw; go_simp <;> with_reducible rfl)⟩) (by go_simp <;> with_reducible rfl) ?_
              refine wpAnyC_done (by kernel_rfl) (CW.of (hb10)) (by go_simp <;> with_reducible rfl) ?_
              have HB10 := Lib.hid (HB5.out.trans (hb10.mono HB5.out.size))
              clear hb10 HB5 hR1 hR2 hc1 hc2 hc3 hif1 hif2 hif3 hi0 hj0
              repeat' (first | go_values | go_skip | go_guarded | go_step | go_upon)
              go_roundg (n - (j + 1))
              case rel => exact ⟨j + 1, f0, t3, by go_num, rfl, Nat.le_refl _, by omega, by omega, HPn, HB10⟩
              case measure => omega
            · have H2 := prtF_one (f := f0) hiL (by rw [HN.out]; exact h4)
              have hs3 : (j : Int) - (i : Int) < 3 := by omega
              obtain ⟨t1, ht1⟩ : ∃ t, s ++ wrt (L.getD i 0) true = t := ⟨_, rfl⟩
              have hl1 : t1.length ≤ s.length + 4 := by rw [← ht1, List.length_append]; omega
              have HPn : Hid (prt L = t1 ++ prtF L f0 (i + 1) ∧ n - (i + 1) ≤ f0) := Lib.hid ⟨by rw [HP1.out, H2, ← ht1]; simp only [List.append_assoc], by have := HPf.out; omega⟩
              have hc1 := ba_lits s (wrt (L.getD i 0) true)
              rw [ht1] at hc1
              have hR1 := fun W => ref_written (L.getD i 0) hxi true W
              clear ht1 H2 Hj hstop
              generalize wrt (L.getD i 0) true = W1 at hc1 hR1 hw1l
              generalize L.getD i 0 = xi at hi0 hR1
              have hif1 : ¬ 9223372036854775807 < s.length + W1.length := by omega
              repeat' (go_not_at_region 9; first | go_values | go_skip | go_guarded | go_step | go_upon)
              refine gen_wd (fun W => Below w.heap.size w W) HBd.out ?_
              intro w5 hb5
              have HB5 := Lib.hid hb5
              clear hb5 HBd HB
              repeat' (first | go_values | go_skip | go_guarded | go_step | go_upon)
              refine Calls.mono (hR1 _) ?_
              rintro _ w6 ⟨rfl, hb6⟩
              dsimp only
              have HB6 := Lib.hid (HB5.out.trans (hb6.mono HB5.out.size))
              clear hb6 HB5 hR1
              repeat' (first | go_values | go_skip | go_guarded | go_step | go_upon)
              go_roundg (n - (i + 1))
              case rel => exact ⟨i + 1, f0, t1, by go_num, rfl, Nat.le_refl _, by omega, by omega, HPn, HB6⟩
              case measure => omega
    · obtain rfl : i = n := by omega
      have e : prt L = s := by rw [HP.out.1, prtF_end (by rw [← Hn.out]; omega), List.append_nil]
      subst e
      repeat' (first | go_values | go_skip | go_guarded | go_step | go_upon)
      go_ret
      exact ⟨rfl, HB.out⟩
end Go.Proofs.YtnbfifmnigeolaaDoor
