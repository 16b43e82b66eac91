/- Walks: one behind the other (cat). Conditions: a text of at most 512 bytes; a place within it. -/
import Derived.Test.YtnbfifmnigeolaaPrsAlt
namespace Go.Proofs.Ytnbfifmnigeolaa
open Go.RowKit Go.Lib
set_option maxRecDepth 100000 in
set_option maxHeartbeats 4000000 in
theorem ps_cat (g : Nat) (S : ByteArray) (f : Nat) (hS : S.size ≤ 512) (IH : ∀ f', f' < f → CT g S 18 .item f') : CT g S 12 (.cat []) f := by
  intro d i w hi hd h hn
  obtain ⟨X0, hX0⟩ : ∃ X0, prs S.data.toList f (.cat []) d i = X0 := ⟨_, rfl⟩
  rw [hX0] at hn ⊢
  have HX0 := Lib.hid hX0
  have HN := Lib.hid hn
  clear hn hX0
  have HA := Lib.hid (AX.start h)
  clear h
  go_enter Try.func12, Try.ntmps12
  repeat' (go_not_at_region 1; first | go_values | go_skip | go_guarded | go_step | go_upon)
  generalize hZ : w.heap.size = Z at HA ⊢
  refine gen_wd (fun W => AX w Z g S d i W) HA.out ?_
  clear HA
  rintro w1 hj
  have HA := Lib.hid hj
  clear hj hZ
  repeat' (first | go_values | go_skip | go_guarded | go_step | go_upon)
  go_loopg [3] f (fun gk s3 wr => ∃ (l : List Re) (i' : Nat), i' ≤ S.size ∧ gk ≤ f ∧ Re.szL l ≤ 2 * i' ∧ Hid (prs S.data.toList gk (.cat l) d i' = X0) ∧ Hid (LsAt (Z + 1) wr s3 l) ∧ Hid (AX w Z g S d i' wr))
  case atStart => exact ⟨[], i, hi, Nat.le_refl _, Nat.zero_le _, HX0, Lib.hid (LsAt.nil _ _), HA⟩
  case round =>
    clear HX0 HA hi
    obtain ⟨l, i', hi', hgf, hsl, HC, HL, HA⟩ := hrel
    cases gk with
    | zero => exact absurd (by rw [← HC.out, prs]) HN.out
    | succ gk =>
      have hC := HC.out
      rw [prs, ba_len] at hC
      clear HC
      by_cases hlt : i' < S.size
      · have hlt' : (i' : Int) < S.size := by omega
        have hC' : ∀ c, isC S.data.toList i' c ↔ bt S.data.toList i' = c := fun c => ⟨fun q => q.2, fun q => ⟨by rw [ba_len]; exact hlt, q⟩⟩
        by_cases h124 : isC S.data.toList i' 124
        · rw [if_neg (fun q => q.2.1 ((hC' 124).1 h124))] at hC
          have HC := Lib.hid hC
          have HI := Lib.hid h124
          clear hC hC' h124 hlt
          have q0 : ∀ nq : WB wr, nq.1.cell? ⟨g, 0, none⟩ = some (.string S) := fun nq => (HA.out.ps.keep nq.2).c0
          have q1 : ∀ nq : WB wr, nq.1.cell? ⟨g, 1, none⟩ = some (.int .i64 (i' : Int)) := fun nq => (HA.out.ps.keep nq.2).c1
          have k124 : ∀ n : WB wr, Calls Try.prog 17 #[.pointer (some ⟨g, 0, none⟩), .int .u8 124] n.1 (fun e w' => e = .returned (.bool true) ∧ Below n.1.heap.size n.1 w') := fun n => ps_is_y g S i' d 124 n.1 (HA.out.ps.keep n.2) HI.out
          skip
          repeat' (first | go_values | go_skip | go_guarded | go_step | go_upon)
          refine wp_region_wb (by kernel_rfl) (by kernel_rfl) wr (Below.refl _ _) ?_
          repeat (go_big_quiet_step ((go_at_call 17; exact calls_wb (k124 _))))
          refine wpQuiet_nil ?_
          rintro _ ⟨nr, rfl⟩
          have HA := Lib.hid (HA.out.keep nr.2)
          have HL := Lib.hid (HL.out.keepB nr.2)
          clear q0 q1
          clear k124
          obtain ⟨rs, hrow, hz⟩ := HL.out.zp (g := g) (by have := HA.out.lt; omega)
          have hj := re_join 2 (by unfold I64; omega) (Z + 1) g _ rs l nr.1 hrow hz HA.out.bx.lt (by have := HA.out.lt; omega) (by omega)
          clear hrow hz HL
          repeat' (first | go_values | go_skip | go_guarded | go_step | go_upon)
          refine Calls.mono (hj) ?_
          rintro _ wj ⟨rj, rfl, hxj, hbj⟩
          dsimp only
          have HA := Lib.hid (HA.out.keep hbj)
          have hone := hxj.one
          have HD := Lib.hid (HA.out.done hxj)
          have HM := Lib.hid HA.out.bx
          clear hj hxj hbj
          repeat' (first | (refine store_box HM.out rj hone _ _ rfl rfl rfl ?_; dsimp only [Act.put]) | go_values | go_skip | go_guarded | go_step | go_upon)
          refine bodyPost_ret (results_re rfl _ _ _ _ rfl (HM.out.set _)) rfl ?_
          exact TPost.okI HC.out.symm ⟨⟨_, rfl, HD.out.1⟩, HD.out.2.1, HD.out.2.2⟩
        by_cases h41 : isC S.data.toList i' 41
        · rw [if_neg (fun q => q.2.2 ((hC' 41).1 h41))] at hC
          have HC := Lib.hid hC
          have HI := Lib.hid h124
          have HJ := Lib.hid h41
          clear hC hC' h124 h41 hlt
          have q0 : ∀ nq : WB wr, nq.1.cell? ⟨g, 0, none⟩ = some (.string S) := fun nq => (HA.out.ps.keep nq.2).c0
          have q1 : ∀ nq : WB wr, nq.1.cell? ⟨g, 1, none⟩ = some (.int .i64 (i' : Int)) := fun nq => (HA.out.ps.keep nq.2).c1
          have k124 : ∀ n : WB wr, Calls Try.prog 17 #[.pointer (some ⟨g, 0, none⟩), .int .u8 124] n.1 (fun e w' => e = .returned (.bool false) ∧ Below n.1.heap.size n.1 w') := fun n => ps_is_n g S i' d 124 n.1 (HA.out.ps.keep n.2) HI.out
          have k41 : ∀ n : WB wr, Calls Try.prog 17 #[.pointer (some ⟨g, 0, none⟩), .int .u8 41] n.1 (fun e w' => e = .returned (.bool true) ∧ Below n.1.heap.size n.1 w') := fun n => ps_is_y g S i' d 41 n.1 (HA.out.ps.keep n.2) HJ.out
          repeat' (first | go_values | go_skip | go_guarded | go_step | go_upon)
          refine wp_region_wb (by kernel_rfl) (by kernel_rfl) wr (Below.refl _ _) ?_
          repeat (go_big_quiet_step ((go_at_call 17; first|with_reducible exact calls_wb (k124 _)|with_reducible exact calls_wb (k41 _))))
          refine wpQuiet_nil ?_
          rintro _ ⟨nr, rfl⟩
          have HA := Lib.hid (HA.out.keep nr.2)
          have HL := Lib.hid (HL.out.keepB nr.2)
          clear q0 q1
          clear k124 k41
          obtain ⟨rs, hrow, hz⟩ := HL.out.zp (g := g) (by have := HA.out.lt; omega)
          have hj := re_join 2 (by unfold I64; omega) (Z + 1) g _ rs l nr.1 hrow hz HA.out.bx.lt (by have := HA.out.lt; omega) (by omega)
          clear hrow hz HL
          repeat' (first | go_values | go_skip | go_guarded | go_step | go_upon)
          refine Calls.mono (hj) ?_
          rintro _ wj ⟨rj, rfl, hxj, hbj⟩
          dsimp only
          have HA := Lib.hid (HA.out.keep hbj)
          have hone := hxj.one
          have HD := Lib.hid (HA.out.done hxj)
          have HM := Lib.hid HA.out.bx
          clear hj hxj hbj
          repeat' (first | (refine store_box HM.out rj hone _ _ rfl rfl rfl ?_; dsimp only [Act.put]) | go_values | go_skip | go_guarded | go_step | go_upon)
          refine bodyPost_ret (results_re rfl _ _ _ _ rfl (HM.out.set _)) rfl ?_
          exact TPost.okI HC.out.symm ⟨⟨_, rfl, HD.out.1⟩, HD.out.2.1, HD.out.2.2⟩
        · rw [if_pos ⟨hlt, fun q => h124 ((hC' 124).2 q), fun q => h41 ((hC' 41).2 q)⟩] at hC
          have HI := Lib.hid h124
          have HJ := Lib.hid h41
          have hitem := fun W hp hne => IH gk (by omega) d i' W hi' hd hp hne
          have hin := prs_in (s := S.data.toList) gk .item d i' (by rw [ba_len]; exact hi')
          have hsz := prs_sz (s := S.data.toList) gk .item d i' (by rw [ba_len]; exact hi')
          clear hC' h124 h41 hlt
          have q0 : ∀ nq : WB wr, nq.1.cell? ⟨g, 0, none⟩ = some (.string S) := fun nq => (HA.out.ps.keep nq.2).c0
          have q1 : ∀ nq : WB wr, nq.1.cell? ⟨g, 1, none⟩ = some (.int .i64 (i' : Int)) := fun nq => (HA.out.ps.keep nq.2).c1
          have k124 : ∀ n : WB wr, Calls Try.prog 17 #[.pointer (some ⟨g, 0, none⟩), .int .u8 124] n.1 (fun e w' => e = .returned (.bool false) ∧ Below n.1.heap.size n.1 w') := fun n => ps_is_n g S i' d 124 n.1 (HA.out.ps.keep n.2) HI.out
          have k41 : ∀ n : WB wr, Calls Try.prog 17 #[.pointer (some ⟨g, 0, none⟩), .int .u8 41] n.1 (fun e w' => e = .returned (.bool false) ∧ Below n.1.heap.size n.1 w') := fun n => ps_is_n g S i' d 41 n.1 (HA.out.ps.keep n.2) HJ.out
          repeat' (first | go_values | go_skip | go_guarded | go_step | go_upon)
          refine wp_region_wb (by kernel_rfl) (by kernel_rfl) wr (Below.refl _ _) ?_
          repeat (go_big_quiet_step ((go_at_call 17; first|with_reducible exact calls_wb (k124 _)|with_reducible exact calls_wb (k41 _))))
          refine wpQuiet_nil ?_
          rintro _ ⟨nr, rfl⟩
          have HA := Lib.hid (HA.out.keep nr.2)
          have HL := Lib.hid (HL.out.keepB nr.2)
          clear q0 q1
          clear k124 k41 HI HJ
          repeat' (first | go_values | go_skip | go_guarded | go_step | go_upon)
          cases hX : prs S.data.toList gk .item d i' with
          | out => rw [hX] at hC; exact absurd hC.symm HN.out
          | bad e0 j =>
            have hc := hitem nr.1 HA.out.ps (by rw [hX]; intro e; cases e)
            rw [hX] at hc hC
            have HC := Lib.hid hC.symm
            refine Calls.mono hc ?_
            rintro _ wy ⟨rfl, he⟩
            exact ⟨rfl, TPost.badI HC.out ⟨rfl, HA.out.els.trans he⟩⟩
          | ok t j =>
            have hc := hitem nr.1 HA.out.ps (by rw [hX]; intro e; cases e)
            have hj := hin.okB hX
            rw [ba_len] at hj
            have hs0 := hsz _ _ hX
            rw [hX] at hc hC
            simp only [PR.bind, Tk.bound, Tk.least] at hC hs0 hj
            have HC := Lib.hid hC
            clear hitem hin hsz hX hC
            refine Calls.mono (hc) ?_
            rintro _ w5 ⟨⟨r, rfl, hx⟩, hp, he⟩
            dsimp only
            have hz4 := HA.out.bx.lt
            have hr : Hid (∀ q, (u3.ownBlock = some q ∨ q < Z + 1) → ReX (Z + 1) q w5 r t) := Lib.hid (fun q hq => by
              obtain ⟨rs0, ho0, _⟩ := HL.out
              refine (hx.drop (p' := q) ?_).mono (by omega)
              rcases hq with hq | hq
              · have := (ho0.below hq).2; exact .inl this
              · exact .inl (by omega))
            have HA := Lib.hid (HA.out.go hp he)
            have HL := Lib.hid (HL.out.els he (by have := HA.out.lt; omega))
            clear hc hp he hz4
            obtain ⟨rs, hown, hrl, h3⟩ := HL.out
            have hlen : rs.length ≤ 2000 := by have := szL_len l; omega
            have hone := ReX.one hx
            have HXX := Lib.hid hx
            have HL3 := Lib.hid h3
            have HO := Lib.hid hown
            have hwB : Z + 1 ≤ w5.heap.size := HA.out.bx.lt
            clear h3
            dsimp only [reV, reC]
            repeat' (first | (at_builtin; go_loud (refine app_two 80 w5.heap.size rfl r reC_length (reC_oneAll hone) Try.underlying27 info_re3 rfl rfl _ _ rfl rfl rfl rfl hown hwB (by omega) (by unfold maxLen; omega) ?_); intro v6 w6 ho6 hg6 hs6) | go_values | go_skip | go_guarded | go_step | go_upon)
            have HSN := Lib.hid (LsAt.snoc (by omega) ho6 hrl HL3.out hr.out hg6 (fun k hk => Go.heap_alloc_old w5 _ hk) (by simp) hs6)
            have HA6 := Lib.hid ((HA.out.keep ((Below.refl _ _).alloc (Nat.le_refl _) (.cells (reC r).toArray 29))).grow hg6 fun k hk => (HO.out.below hk).1)
            go_roundg gk
            case rel => exact ⟨l ++ [t], j, hj.2, by omega, by rw [szL_append]; simp only [Re.szL]; omega, HC, HSN, HA6⟩
            case measure => omega
      · have hlt' : ¬ (i' : Int) < S.size := by omega
        rw [if_neg (fun q => hlt q.1)] at hC
        have HC := Lib.hid hC
        clear hC hlt
        have q0 : ∀ nq : WB wr, nq.1.cell? ⟨g, 0, none⟩ = some (.string S) := fun nq => (HA.out.ps.keep nq.2).c0
        have q1 : ∀ nq : WB wr, nq.1.cell? ⟨g, 1, none⟩ = some (.int .i64 (i' : Int)) := fun nq => (HA.out.ps.keep nq.2).c1
        skip
        skip
        repeat' (first | go_values | go_skip | go_guarded | go_step | go_upon)
        refine wp_region_wb (by kernel_rfl) (by kernel_rfl) wr (Below.refl _ _) ?_
        repeat (go_big_quiet_step ((fail)))
        refine wpQuiet_nil ?_
        rintro _ ⟨nr, rfl⟩
        have HA := Lib.hid (HA.out.keep nr.2)
        have HL := Lib.hid (HL.out.keepB nr.2)
        clear q0 q1
        obtain ⟨rs, hrow, hz⟩ := HL.out.zp (g := g) (by have := HA.out.lt; omega)
        have hj := re_join 2 (by unfold I64; omega) (Z + 1) g _ rs l nr.1 hrow hz HA.out.bx.lt (by have := HA.out.lt; omega) (by omega)
        clear hrow hz HL
        repeat' (first | go_values | go_skip | go_guarded | go_step | go_upon)
        refine Calls.mono (hj) ?_
        rintro _ wj ⟨rj, rfl, hxj, hbj⟩
        dsimp only
        have HA := Lib.hid (HA.out.keep hbj)
        have hone := hxj.one
        have HD := Lib.hid (HA.out.done hxj)
        have HM := Lib.hid HA.out.bx
        clear hj hxj hbj
        repeat' (first | (refine store_box HM.out rj hone _ _ rfl rfl rfl ?_; dsimp only [Act.put]) | go_values | go_skip | go_guarded | go_step | go_upon)
        refine bodyPost_ret (results_re rfl _ _ _ _ rfl (HM.out.set _)) rfl ?_
        exact TPost.okI HC.out.symm ⟨⟨_, rfl, HD.out.1⟩, HD.out.2.1, HD.out.2.2⟩
end Go.Proofs.Ytnbfifmnigeolaa
