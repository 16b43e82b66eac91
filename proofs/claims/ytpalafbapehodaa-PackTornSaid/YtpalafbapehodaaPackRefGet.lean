/- Walk: a pack is read, by the reference (fretsawref04.Get). Condition: the text is of at most 10^15 bytes. -/
import Derived.Test.YtpalafbapehodaaPackGet
import Derived.Test.YtpalafbapehodaaWireRefText
namespace Go.Proofs.Ytpalafbapehodaa
open Go.RowKit
theorem OwnR.lit0 {α : Type} {f : α → List Value} {sz B : Nat} {e : TypeId} (w : World) (hB : B ≤ w.heap.size) : OwnR f sz B e (w.alloc (.cells #[] e)) (.slice (some ⟨w.heap.size, 0, none⟩) 0 0) ([] : List α) := by
  have h := World.ownsRow_lit (base := B) (e := e) (size := sz) w #[] 0 hB (by decide) (by simp)
  exact OwnC.of_own (by simpa using h)
set_option maxRecDepth 100000 in
set_option maxHeartbeats 2000000 in
theorem rq_Get (t : List UInt8) (hs : t.length ≤ 1000000000000000) (w : World) :
    Calls Try.prog 13 #[.string ⟨t.toArray⟩] w fun e w' => ∃ v, e = .returned (.tuple #[v, .int .i64 (getP t).2]) ∧ RowOf secC 2 w' v (getP t).1 ∧ Below w.heap.size w w' := by
  obtain ⟨G, hG⟩ : ∃ G, getP t = G := ⟨_, rfl⟩
  rw [hG]
  have HG := Lib.hid hG; clear hG
  have hsz := arr_size t
  by_cases h9 : t.length < 9
  · have e : G = ([], 20) := by rw [← HG.out]; unfold getP; rw [if_pos h9]
    subst e
    go_enter Try.func13, Try.ntmps13
    repeat' (first | go_values | go_skip | go_guarded | go_step | go_upon)
    go_ret2
    exact ⟨_, rfl, RdC.nil, Below.refl _ _⟩
  obtain ⟨n, hn⟩ : ∃ n, t.length - 4 = n := ⟨_, rfl⟩
  have hnl : t.length = n + 4 := by omega
  have hnI : (t.length : Int) - 4 = n := by omega
  have hn5 : 5 ≤ n := by omega
  have hex1 : (⟨t.toArray⟩ : ByteArray).extract n t.length = ⟨(t.drop n).toArray⟩ := by rw [arr_extract, List.take_of_length_le (by simp)]
  have hex2 : (⟨t.toArray⟩ : ByteArray).extract 0 n = ⟨(t.take n).toArray⟩ := by rw [arr_extract, List.drop_zero, Nat.sub_zero]
  have hex3 : (⟨t.toArray⟩ : ByteArray).extract 0 5 = ⟨(t.take 5).toArray⟩ := by rw [arr_extract, List.drop_zero, Nat.sub_zero]
  have HG2 : Hid (G = if t.take 5 ≠ begB then ([], 40) else if t.drop n ≠ put4 (sumOn 0 (t.take n)) then ([], 41) else if (vget (t.take n) 5).2.2 ≠ 0 then ([], (vget (t.take n) 5).2.2) else if 64 < (vget (t.take n) 5).1 then ([], 2) else finP n (secsF (t.take n) (vget (t.take n) 5).1 none (vget (t.take n) 5).2.1)) := Lib.hid (by
    rw [← HG.out]; unfold getP; rw [if_neg h9, hn]; rfl)
  clear HG
  have Hnl := Lib.hid hnl
  have hln : n ≤ t.length := by omega
  have h5l : (5 : Int) ≤ t.length := by omega
  have Htk : Hid ((t.take n).length = n) := Lib.hid (by rw [List.length_take]; omega)
  clear hn hnl
  by_cases h5 : t.take 5 = begB
  · rw [if_neg (by simpa using h5)] at HG2
    have h5' : (t.take 5 == [70, 83, 65, 87, 1]) = true := by rw [h5]; rfl
    clear h5
    have Hsum := Lib.hid (fun w => ref_Of ⟨(t.take n).toArray⟩ (by rw [arr_size]; rw [Htk.out]; omega) w)
    have Hput := Lib.hid (fun w => ref_PutFour (sumOn 0 (t.take n)) (le_u32 (sumOn_lt _ _)) w)
    generalize t.take n = s at hex2 HG2 Htk Hsum Hput
    generalize t.take 5 = t5 at h5' hex3
    by_cases hq : t.drop n = put4 (sumOn 0 s)
    · have hqb : (put4 (sumOn 0 s) == t.drop n) = true := by simpa using hq.symm
      rw [if_neg (by simpa using hq)] at HG2
      clear hq
      have hsl : s.length ≤ 1000000000000000 := by rw [Htk.out]; omega
      obtain ⟨p, hp⟩ : ∃ p, vget s 5 = p := ⟨_, rfl⟩
      obtain ⟨many, a0, b0⟩ := p
      have Hg0 := Lib.hid (fun w => ref_Get ⟨s.toArray⟩ (by rw [arr_size]; exact hsl) 5 (i64_small (by omega)) w)
      rw [show (⟨s.toArray⟩ : ByteArray).data.toList = s from rfl, hp] at Hg0
      rw [hp] at HG2
      dsimp only at HG2 Hg0
      have Hst := Lib.hid (fun h => GInv.start (G := G) (n := n) hsl hp h)
      clear hp
      go_enter Try.func13, Try.ntmps13
      repeat' (first | go_values | go_skip | go_guarded | go_step | go_upon)
      refine wp_region_wb (by kernel_rfl) (by kernel_rfl) w (Below.refl _ _) ?_
      repeat (go_big_quiet_step ((first | (go_at_call 27; with_reducible exact calls_wb_same (Hsum.out _)) | (go_at_call 26; with_reducible exact calls_wb (Hput.out _)))))
      refine wpQuiet_nil ?_
      rintro _ ⟨nq, rfl⟩
      have hnq := nq.2
      clear hqb Hsum Hput hex1
      obtain ⟨wy, hwy⟩ : ∃ wy : World, wy = nq.1 := ⟨_, rfl⟩
      have Hby := Lib.hid hnq
      rw [← hwy] at Hby ⊢
      clear hwy hnq
      repeat' (first | go_values | go_skip | go_guarded | go_step | go_upon)
      refine Calls.mono (Hg0.out _) ?_
      rintro _ w1 ⟨rfl, hb1⟩
      dsimp only
      have Hb1 := Lib.hid (Hby.out.trans (hb1.mono Hby.out.size))
      clear Hg0 hb1 Hby
      by_cases hb0 : b0 = 0
      · subst hb0
        rw [if_neg (by simp)] at HG2
        by_cases hm : 64 < many
        · have e : G = ([], 2) := by rw [HG2.out, if_pos hm]
          subst e
          repeat' (first | go_values | go_skip | go_guarded | go_step | go_upon)
          go_ret2
          exact ⟨_, rfl, RdC.nil, Hb1.out⟩
        · have Hst2 := Lib.hid (Hst.out (by rw [if_neg (by simp)]; exact HG2.out))
          rw [show rdMust (decide (many ≤ 64)) 2 0 = 0 from by unfold rdMust; rw [if_neg (by simp; omega)]] at Hst2
          clear Hst HG2
          have hmw : IntKind.i64.wrap (many : Int) = many := wi64 (i64_small (by omega))
          have Hl0 : Hid (OwnR secC 2 w.heap.size 40 (w1.alloc (.cells #[] 40)) (.slice (some ⟨w1.heap.size, 0, none⟩) 0 0) ([] : List Sec)) := Lib.hid (OwnR.lit0 w1 Hb1.out.size)
          repeat' (first | go_values | go_skip | go_guarded | go_step | go_upon)
          go_loopw [6, 8, 9, 10] (fun s6 s8 s9 s10 w' => ∃ (k : Nat) (acc : List Sec) (at' : Int), s6 = .int .i64 at' ∧ s9 = .int .i64 (sizeS acc : Nat) ∧ s10 = .int .i64 k ∧ Hid (OwnR secC 2 w.heap.size 40 w' s8 acc) ∧ Hid (GInv G n s many k acc at' 0) ∧ Hid (Below w.heap.size w w')) (fun _ _ _ s10 _ => many - (intOf s10).toNat)
          case atStart => exact ⟨0, [], a0, rfl, rfl, rfl, Hl0, Hst2, Lib.hid (Hb1.out.alloc Hb1.out.size _)⟩
          case round =>
            clear Hl0 Hst2 Hb1
            obtain ⟨k, acc, at', rfl, rfl, rfl, Ho, Hi, Hb⟩ := hrel
            by_cases hkm : k < many
            · obtain ⟨q, hq⟩ : ∃ q, rdNum s at' 0 = q := ⟨_, rfl⟩
              obtain ⟨n1, a1, b1⟩ := q
              have hgv : vget s at' = (n1, a1, b1) := by rw [← hq]; unfold rdNum; rw [if_neg (by simp)]
              have Hnum := Lib.hid (fun w => ref_Get ⟨s.toArray⟩ (by rw [arr_size]; exact hsl) at' Hi.out.place w)
              rw [show (⟨s.toArray⟩ : ByteArray).data.toList = s from rfl, hgv] at Hnum
              dsimp only at Hnum
              have hva : I64 a1 := by have := vget_i64 hsl at'; rw [hgv] at this; exact this
              obtain ⟨q, hq3⟩ : ∃ q, rdText s a1 (rdMust (okAfter acc n1) 21 b1) = q := ⟨_, rfl⟩
              obtain ⟨bd, a3, b3⟩ := q
              have Hnx := Lib.hid (Hi.out.step hsl hkm hq rfl hq3)
              have hss := Hi.out.size
              have hs2 := Hnx.out.size
              rw [sizeS_append] at hs2
              simp only [sizeS] at hs2
              have Hal := Lib.hid Hi.out.len
              have hll : acc.length ≤ 64 := by rw [Hal.out]; omega
              have hk64 : k ≤ 64 := by omega
              have Hss : Hid (sizeS acc ≤ 64 * 8388608) := Lib.hid (Nat.le_trans hss (Nat.mul_le_mul_right _ hk64))
              have Hbd : Hid (b3 = 0 → bd.length ≤ 8388608) := Lib.hid fun h => by
                have h1 := hq3
                unfold rdText at h1
                split at h1
                · simp only [Prod.mk.injEq] at h1; obtain ⟨rfl, _⟩ := h1; simp
                · have := gett_len s a1; rw [h1] at this; exact this
              have Hva := Lib.hid hva
              have Hq3 := Lib.hid hq3
              clear hq hgv hva hq3 hs2 hss
              obtain ⟨wo, hwo⟩ : ∃ wo : World, wo = wr := ⟨_, rfl⟩
              subst hwo
              repeat' (first | go_values | go_skip | go_guarded | go_step | go_upon)
              refine Calls.mono (Hnum.out _) ?_
              rintro _ w2 ⟨rfl, hb2⟩
              dsimp only
              have Ho2 := Lib.hid (Ho.out.keep hb2 (Nat.le_refl _))
              have Hb2 := Lib.hid (Hb.out.trans (hb2.mono Hb.out.size))
              clear Hnum hb2 Ho Hb
              by_cases hb10 : b1 = 0
              · subst hb10
                have hcase : (k = 0 ∧ okAfter acc n1 = true) ∨ ∃ i g cap prev, k = i + 1 ∧ u8 = .slice (some ⟨g, 0, none⟩) (i + 1) cap ∧ w2.cell? ⟨g, i * 2, none⟩ = some (.int .u64 (prev : Nat)) ∧ okAfter acc n1 = decide (prev < n1) ∧ (i + 1 ≤ cap ∧ cap ≤ maxLen) := by
                  rcases Nat.eq_zero_or_pos k with h0 | h0
                  · refine .inl ⟨h0, ?_⟩
                    have : acc = [] := List.eq_nil_of_length_eq_zero (by rw [Hal.out]; exact h0)
                    subst this; rfl
                  · obtain ⟨i, rfl⟩ : ∃ i, k = i + 1 := ⟨k - 1, by omega⟩
                    obtain ⟨g, cap, hv⟩ := Ho2.out.somewhere (by rw [Hal.out]; omega)
                    obtain ⟨_, _, hv2, hv3, hv4⟩ := Ho2.out.form
                    rw [hv] at hv2
                    simp only [Value.slice.injEq] at hv2
                    obtain ⟨_, _, rfl⟩ := hv2
                    rw [Hal.out] at hv hv3
                    have hx : acc[i]? = some (acc.getD i (0, [])) := by rw [List.getD_eq_getElem?_getD, List.getElem?_eq_getElem (by rw [Hal.out]; omega)]; rfl
                    refine .inr ⟨i, g, cap, (acc.getD i (0, [])).1, rfl, hv, ?_, ?_, hv3, hv4⟩
                    · have ho := Ho2.out
                      rw [hv] at ho
                      have := ho.cellAt secC_len i _ 0 hx (by omega)
                      simpa [secC] using this
                    · unfold okAfter lastK
                      rw [List.getLast?_eq_getElem?, Hal.out, Nat.add_sub_cancel, hx]
                      rfl
                have Htx := Lib.hid (fun w => ref_GetText ⟨s.toArray⟩ (by rw [arr_size]; exact hsl) a1 Hva.out 8388608 (i64_small (by omega)) w)
                rw [show (⟨s.toArray⟩ : ByteArray).data.toList = s from rfl] at Htx
                rcases hcase with ⟨rfl, hok⟩ | ⟨i, g, cap, prev, rfl, rfl, c1, hok, hcap, hmx⟩
                · have h1 := Hq3.out
                  rw [hok, show rdMust true 21 0 = 0 from rfl] at h1
                  unfold rdText at h1
                  rw [if_neg (by simp)] at h1
                  rw [h1] at Htx
                  dsimp only at Htx
                  clear h1
                  repeat' (first | go_values | go_skip | go_guarded | go_step | go_upon)
                  refine Calls.mono (Htx.out _) ?_
                  rintro _ w3 ⟨rfl, hb3⟩
                  dsimp only
                  have Ho3 := Lib.hid (Ho2.out.keep hb3 (Nat.le_refl _))
                  have Hb3 := Lib.hid (Hb2.out.trans (hb3.mono Hb2.out.size))
                  clear Htx hb3 Ho2 Hb2
                  by_cases hb30 : b3 = 0
                  · subst hb30
                    have hbl := Hbd.out rfl
                    have hown := Ho3.out
                    have hwB := Hb3.out.size
                    have hss := Hss.out
                    have hbs := ba_size bd
                    repeat' (first | (at_builtin; go_loud (refine app_one 24 w3.heap.size rfl (n1, bd) secC_len (by intro u hu; simp [secC] at hu; rcases hu with rfl | rfl <;> rfl) Try.underlying22 info_sec rfl rfl _ _ rfl rfl rfl rfl hown hwB (by omega) (by unfold maxLen; omega) ?_); intro v4 w4 hown4 hb4 hk4 _) | go_values | go_skip | go_guarded | go_step | go_upon)
                    have Hbe4 := Lib.hid (Hb3.out.trans hb4)
                    have Hown4 := Lib.hid hown4
                    go_roundw
                    case rel => exact ⟨0 + 1, acc ++ [(n1, bd)], a3, rfl, by rw [sizeS_append]; simp [sizeS], by simp, Hown4, Hnx, Hbe4⟩
                    case measure => simp [intOf]; omega
                  · have e : G = ([], b3) := Hnx.out.wrong hb30
                    subst e
                    have hbb : (b3 != 0) = true := by simpa using hb30
                    repeat' (first | go_values | go_skip | go_guarded | go_step | go_upon)
                    go_ret2
                    exact ⟨_, rfl, RdC.nil, Hb3.out⟩
                · by_cases hpv : prev < n1
                  · have hpv1 : ¬ (n1 : Int) ≤ prev := by omega
                    have h1 := Hq3.out
                    rw [hok, show decide (prev < n1) = true from by simpa using hpv, show rdMust true 21 0 = 0 from rfl] at h1
                    unfold rdText at h1
                    rw [if_neg (by simp)] at h1
                    rw [h1] at Htx
                    dsimp only at Htx
                    clear h1
                    repeat' (first | go_values | go_skip | go_guarded | go_step | go_upon)
                    refine Calls.mono (Htx.out _) ?_
                    rintro _ w3 ⟨rfl, hb3⟩
                    dsimp only
                    have Ho3 := Lib.hid (Ho2.out.keep hb3 (Nat.le_refl _))
                    have Hb3 := Lib.hid (Hb2.out.trans (hb3.mono Hb2.out.size))
                    clear Htx hb3 Ho2 Hb2
                    by_cases hb30 : b3 = 0
                    · subst hb30
                      have hbl := Hbd.out rfl
                      have hown := Ho3.out
                      have hwB := Hb3.out.size
                      have hss := Hss.out
                      have hbs := ba_size bd
                      repeat' (first | (at_builtin; go_loud (refine app_one 24 w3.heap.size rfl (n1, bd) secC_len (by intro u hu; simp [secC] at hu; rcases hu with rfl | rfl <;> rfl) Try.underlying22 info_sec rfl rfl _ _ rfl rfl rfl rfl hown hwB (by omega) (by unfold maxLen; omega) ?_); intro v4 w4 hown4 hb4 hk4 _) | go_values | go_skip | go_guarded | go_step | go_upon)
                      have Hbe4 := Lib.hid (Hb3.out.trans hb4)
                      have Hown4 := Lib.hid hown4
                      go_roundw
                      case rel => exact ⟨(i + 1) + 1, acc ++ [(n1, bd)], a3, rfl, by rw [sizeS_append]; simp [sizeS], by simp, Hown4, Hnx, Hbe4⟩
                      case measure => simp [intOf]; omega
                    · have e : G = ([], b3) := Hnx.out.wrong hb30
                      subst e
                      have hbb : (b3 != 0) = true := by simpa using hb30
                      repeat' (first | go_values | go_skip | go_guarded | go_step | go_upon)
                      go_ret2
                      exact ⟨_, rfl, RdC.nil, Hb3.out⟩
                  · have e : G = ([], 21) := by
                      have h1 := Hq3.out
                      rw [hok, show decide (prev < n1) = false from by simpa using hpv] at h1
                      have hb3 : b3 = 21 := by unfold rdText rdMust at h1; simp at h1; exact h1.2.2.symm
                      subst hb3
                      exact Hnx.out.wrong (by decide)
                    subst e
                    have hpv1 : (n1 : Int) ≤ prev := by omega
                    repeat' (first | go_values | go_skip | go_guarded | go_step | go_upon)
                    go_ret2
                    exact ⟨_, rfl, RdC.nil, Hb2.out⟩
              · have e : G = ([], b1) := by
                  have h1 := Hq3.out
                  rw [show rdMust (okAfter acc n1) 21 b1 = b1 from by unfold rdMust; rw [if_neg (by simp [hb10])]] at h1
                  have hb3 : b3 = b1 := by unfold rdText at h1; rw [if_pos hb10] at h1; simp at h1; exact h1.2.2.symm
                  subst hb3
                  exact Hnx.out.wrong hb10
                subst e
                have hbb : (b1 != 0) = true := by simpa using hb10
                repeat' (first | go_values | go_skip | go_guarded | go_step | go_upon)
                go_ret2
                exact ⟨_, rfl, RdC.nil, Hb2.out⟩
            · have hdn := Hi.out.done (fun _ => by omega)
              have hkl := (Hi.out.good rfl).2.1
              clear Hi
              by_cases h1 : at' = n
              · by_cases h2 : sizeS acc ≤ 8388608
                · have e : G = (acc, 0) := by rw [hdn]; unfold rdMust; simp [h1, h2]
                  subst e
                  have h1b : (at' != (n : Int)) = false := by simpa using h1
                  clear hdn h1
                  repeat' (first | go_values | go_skip | go_guarded | go_step | go_upon)
                  go_ret2
                  exact ⟨_, rfl, Ho.out.row, Hb.out⟩
                · have e : G = ([], 2) := by rw [hdn]; unfold rdMust; simp [h1, h2]
                  subst e
                  have h1b : (at' != (n : Int)) = false := by simpa using h1
                  clear hdn h1
                  repeat' (first | go_values | go_skip | go_guarded | go_step | go_upon)
                  go_ret2
                  exact ⟨_, rfl, RdC.nil, Hb.out⟩
              · have e : G = ([], 21) := by rw [hdn]; unfold rdMust; simp [h1]
                subst e
                have h1b : (at' != (n : Int)) = true := by simpa using h1
                clear hdn h1
                repeat' (first | go_values | go_skip | go_guarded | go_step | go_upon)
                go_ret2
                exact ⟨_, rfl, RdC.nil, Hb.out⟩
      · have e : G = ([], b0) := by rw [HG2.out, if_pos hb0]
        subst e
        have hbb : (b0 != 0) = true := by simpa using hb0
        repeat' (first | go_values | go_skip | go_guarded | go_step | go_upon)
        go_ret2
        exact ⟨_, rfl, RdC.nil, Hb1.out⟩
    · have hqb : (put4 (sumOn 0 s) == t.drop n) = false := by simpa using fun h => hq h.symm
      have e : G = ([], 41) := by rw [HG2.out, if_pos (by simpa using hq)]
      clear hq
      subst e
      go_enter Try.func13, Try.ntmps13
      repeat' (first | go_values | go_skip | go_guarded | go_step | go_upon)
      refine wp_region_wb (by kernel_rfl) (by kernel_rfl) w (Below.refl _ _) ?_
      repeat (go_big_quiet_step ((first | (go_at_call 27; with_reducible exact calls_wb_same (Hsum.out _)) | (go_at_call 26; with_reducible exact calls_wb (Hput.out _)))))
      refine wpQuiet_nil ?_
      rintro _ ⟨nq, rfl⟩
      have hnq := nq.2
      repeat' (first | go_values | go_skip | go_guarded | go_step | go_upon)
      go_ret2
      exact ⟨_, rfl, RdC.nil, hnq⟩
  · have h5' : (t.take 5 == [70, 83, 65, 87, 1]) = false := by simpa [begB] using h5
    have e : G = ([], 40) := by rw [HG2.out, if_pos (by simpa using h5)]
    clear h5
    generalize t.take 5 = t5 at h5' hex3
    subst e
    go_enter Try.func13, Try.ntmps13
    repeat' (first | go_values | go_skip | go_guarded | go_step | go_upon)
    go_ret2
    exact ⟨_, rfl, RdC.nil, Below.refl _ _⟩
end Go.Proofs.Ytpalafbapehodaa
