/- Walk: lines are read, by the reference (P21.4). Conditions: none but the text's size. -/
import Derived.Test.YtpelngkhipcneaaDoorIsaRefRead
import Derived.Test.YtpelngkhipcneaaDoorIsaParse
import Derived.Test.YtpelngkhipcneaaDoorIsaLike
namespace Go.Proofs.YtpelngkhipcneaaDoor
open Go.RowKit
theorem ref_Read2 (s : List UInt8) (hs : s.length ≤ 262144) (w : World) :
    Calls Tryd.prog 29 #[.string ⟨s.toArray⟩] w fun e w' => ∃ u b, e = .returned (.tuple #[vI u, .bool b]) ∧ Below w.heap.size w w' ∧ (b = true → rdI s = some u) ∧ (b = false → rdI s = none) :=
  (ref_Read s hs w).mono fun e w' ⟨u, b, he, hb, h1, h2⟩ => by
    cases b with
    | false =>
      refine ⟨u, false, he, hb, fun h => (by cases h), fun _ => ?_⟩
      cases h : rdI s with
      | none => rfl
      | some x => exact absurd (rdI_some h).2 (h2 rfl x (rdI_some h).1)
    | true =>
      obtain ⟨x, hx, hux⟩ := rdI_of (h1 rfl).1 (h1 rfl).2
      exact ⟨x, true, by rw [he, hux.v], hb, fun _ => hx, fun h => (by cases h)⟩
theorem seg_step {t : List UInt8} {fr i : Nat} (h : (10 : UInt8) ∉ (t.drop fr).take (i - fr)) (hf : fr ≤ i) (hi : i < t.length) (hb : at8 t i ≠ 10) : (10 : UInt8) ∉ (t.drop fr).take (i + 1 - fr) := by
  rw [show i + 1 - fr = (i - fr) + 1 from by omega, List.take_succ_eq_append_getElem (by rw [List.length_drop]; omega), List.mem_append, not_or]
  refine ⟨h, ?_⟩
  rw [List.getElem_drop, List.mem_singleton]
  intro e
  apply hb
  rw [at8_ne hi]
  have : t[fr + (i - fr)]'(by omega) = t[i] := by congr 1; omega
  rw [this] at e
  rw [← e]; rfl
theorem seg_end {t : List UInt8} {fr : Nat} (h : (10 : UInt8) ∉ (t.drop fr).take (t.length - fr)) : (10 : UInt8) ∉ t.drop fr := by
  rwa [List.take_of_length_le (by rw [List.length_drop]; omega)] at h
theorem seg_cut {t : List UInt8} {fr i : Nat} (h : (10 : UInt8) ∉ (t.drop fr).take (i - fr)) (hf : fr ≤ i) (hi : i < t.length) (hb : at8 t i = 10) : bef (t.drop fr) = (t.drop fr).take (i - fr) ∧ aft (t.drop fr) = t.drop (i + 1) ∧ (10 : UInt8) ∈ t.drop fr := by
  have e : t.drop fr = (t.drop fr).take (i - fr) ++ 10 :: t.drop (i + 1) := by
    conv => lhs; rw [← List.take_append_drop (i - fr) (t.drop fr)]
    congr 1
    rw [List.drop_drop, show fr + (i - fr) = i from by omega, List.drop_eq_getElem_cons hi]
    congr 1
    rw [at8_ne hi] at hb
    apply UInt8.toNat_inj.1
    rw [hb]; rfl
  have := bef_app ((t.drop fr).take (i - fr)) (t.drop (i + 1)) h
  rw [← e] at this
  refine ⟨this.1, this.2, ?_⟩
  rw [e]; simp
theorem drop_nz {t : List UInt8} {fr : Nat} (h : fr < t.length) : t.drop fr ≠ [] := by
  intro e
  have := congrArg List.length e
  rw [List.length_drop] at this
  simp at this; omega
set_option maxRecDepth 100000 in
set_option maxHeartbeats 4000000 in
theorem ref_Parse (t : List UInt8) (ht : t.length ≤ 1000000000000000) (w : World) :
    Calls Tryd.prog 12 #[.string ⟨t.toArray⟩] w fun e w' => ∃ v, e = .returned (.tuple #[v, .int .i64 (parseI t).2.1, .int .i64 (parseI t).2.2]) ∧ RowOf icL 5 w' v (parseI t).1 ∧ Below w.heap.size w w' := by
  have hz := sz_arr t
  by_cases hl : 262144 < t.length
  · rw [parseI_long hl]
    go_enter Tryd.func12, Tryd.ntmps12
    repeat' (first | go_values | go_skip | go_guarded | go_step | go_upon)
    go_ret3
    exact ⟨_, rfl, rowI_nil, Below.refl _ _⟩
  · have hG := parseI_short hl
    obtain ⟨G, hG1⟩ : ∃ G, G = parseI t := ⟨_, rfl⟩
    rw [← hG1] at hG ⊢
    have HG := Lib.hid hG
    have hl2 : t.length ≤ 262144 := by omega
    clear hG1 hl hG
    go_enter Tryd.func12, Tryd.ntmps12
    repeat' (first | go_values | go_skip | go_guarded | go_step | go_upon)
    have Ho0 : Hid (OwnR icL 5 w.heap.size 49 (w.alloc (.cells #[] 49)) (.slice (some ⟨w.heap.size, 0, none⟩) 0 0) []) := Lib.hid (OwnR.lit0 w (Nat.le_refl _))
    have Hb0 : Hid (Below w.heap.size w (w.alloc (.cells #[] 49))) := Lib.hid ((Below.refl _ _).alloc (Nat.le_refl _) _)
    go_loopw [5, 6, 7] (fun s5 s6 s7 wr => ∃ (fr : Nat) (acc : List (Nat → Int)) (f : Nat), s6 = .int .i64 fr ∧ s7 = .int .i64 (acc.length : Int) ∧ fr ≤ t.length ∧ acc.length ≤ 4096 ∧ Hid (t.length - fr < f) ∧ Hid (G = pgo f (t.drop fr) acc) ∧ Hid (OwnR icL 5 w.heap.size 49 wr s5 acc) ∧ Hid (Below w.heap.size w wr)) (fun _ s6 _ _ => t.length - (intOf s6).toNat)
    case atStart => exact ⟨0, [], t.length + 1, by go_num, rfl, Nat.zero_le _, by simp, Lib.hid (by omega), Lib.hid (by rw [List.drop_zero]; exact HG.out), Ho0, Hb0⟩
    case round =>
      obtain ⟨fr, acc, f, rfl, rfl, hfr, ha, Hf, He, Ho, Hb⟩ := hrel
      clear HG Ho0 Hb0
      by_cases hlt : fr < t.length
      · obtain ⟨f', hf'⟩ : ∃ f', f = f' + 1 := ⟨f - 1, by have := Hf.out; omega⟩
        subst hf'
        have Hno : Hid (((10 : UInt8) ∉ t.drop fr ∨ 4096 < acc.length + 1) → G = ([], 211, (acc.length : Int) + 1)) := Lib.hid fun h => by rw [He.out]; exact pgo_no (drop_nz hlt) h
        have Hnone : Hid (rdI (bef (t.drop fr)) = none → G = ([], 211, (acc.length : Int) + 1)) := Lib.hid fun h => by rw [He.out]; exact pgo_none (drop_nz hlt) h
        have Hon : Hid (∀ x, rdI (bef (t.drop fr)) = some x → (10 : UInt8) ∈ t.drop fr → acc.length + 1 ≤ 4096 → G = pgo f' (aft (t.drop fr)) (acc ++ [x])) := Lib.hid fun x h h1 h2 => by rw [He.out]; exact pgo_on (drop_nz hlt) h h1 h2
        clear He
        repeat' (first | go_values | go_skip | go_guarded | go_step | go_upon)
        go_loopw [8] (fun s8 wi => ∃ i : Nat, s8 = .int .i64 i ∧ fr ≤ i ∧ i ≤ t.length ∧ Hid ((10 : UInt8) ∉ (t.drop fr).take (i - fr)) ∧ wr = wi) (fun s8 _ => t.length - (intOf s8).toNat)
        case atStart => exact ⟨fr, by go_num, Nat.le_refl _, hfr, Lib.hid (by simp), rfl⟩
        case round =>
          obtain ⟨i, rfl, hfi, hi, Hseg, rfl⟩ := hrel
          by_cases hil : i < t.length
          · have hlt' : i < (⟨t.toArray⟩ : ByteArray).size := by rw [hz]; exact hil
            have hby : ((⟨t.toArray⟩ : ByteArray)[i]'hlt').toNat = at8 t i := by rw [ba_at]
            have Hstep : Hid (at8 t i ≠ 10 → (10 : UInt8) ∉ (t.drop fr).take (i + 1 - fr)) := Lib.hid (seg_step Hseg.out hfi hil)
            have Hcut : Hid (at8 t i = 10 → bef (t.drop fr) = (t.drop fr).take (i - fr) ∧ aft (t.drop fr) = t.drop (i + 1) ∧ (10 : UInt8) ∈ t.drop fr) := Lib.hid (seg_cut Hseg.out hfi hil)
            have ha8 := at8_lt t i
            generalize at8 t i = a at hby Hstep Hcut ha8
            by_cases h10 : a = 10
            · have HC := Lib.hid (Hcut.out h10)
              have h10b : ((a : Int) != 10) = false := by rw [bne_eq_false_iff_eq]; omega
              have hpl : ((t.drop fr).take (i - fr)).length ≤ 262144 := by rw [List.length_take, List.length_drop]; omega
              have hex : (⟨t.toArray⟩ : ByteArray).extract fr i = ⟨((t.drop fr).take (i - fr)).toArray⟩ := ba_extract _ _ _
              have HR := Lib.hid fun w => ref_Read2 ((t.drop fr).take (i - fr)) hpl w
              have Hbf := Lib.hid HC.out.1
              have Haf := Lib.hid HC.out.2.1
              have Hmm := Lib.hid HC.out.2.2
              generalize (t.drop fr).take (i - fr) = b at hex HR Hbf
              clear HC Hcut Hstep h10 Hseg hpl
              have hne : ((i : Int) == (t.length : Int)) = false := beq_false_of_ne (by omega)
              repeat' (first | go_values | go_skip | go_guarded | go_step | go_upon)
              refine Calls.mono (HR.out _) ?_
              rintro _ w2 ⟨u, ok, rfl, hb2, hyes, hnot⟩
              dsimp only
              have Ho2 := Lib.hid (Ho.out.keep hb2 (Nat.le_refl _))
              have Hb2 := Lib.hid (Hb.out.trans (hb2.mono Hb.out.size))
              have Hyes := Lib.hid hyes
              have Hnot := Lib.hid hnot
              clear hb2 Ho Hb HR hyes hnot h10b hex
              cases ok with
              | false =>
                have e : G = ([], 211, (acc.length : Int) + 1) := Hnone.out (by rw [Hbf.out]; exact Hnot.out rfl)
                clear Hno Hnone Hon Hyes Hnot
                subst e
                repeat' (first | go_values | go_skip | go_guarded | go_step | go_upon)
                go_ret3
                exact ⟨_, rfl, rowI_nil, Hb2.out.alloc Hb2.out.size _⟩
              | true =>
                by_cases hn4 : 4096 < acc.length + 1
                · have e : G = ([], 211, (acc.length : Int) + 1) := Hno.out (.inr hn4)
                  have hn : (4096 : Int) < (acc.length : Int) + 1 := by omega
                  clear Hno Hnone Hon Hyes Hnot hn4
                  subst e
                  repeat' (first | go_values | go_skip | go_guarded | go_step | go_upon)
                  go_ret3
                  exact ⟨_, rfl, rowI_nil, Hb2.out.alloc Hb2.out.size _⟩
                · have hn : (acc.length : Int) + 1 ≤ 4096 := by omega
                  have HGn : Hid (G = pgo f' (t.drop (i + 1)) (acc ++ [u])) := Lib.hid (by
                    have := Hon.out u (by rw [Hbf.out]; exact Hyes.out rfl) Hmm.out (by omega)
                    rw [Haf.out] at this; exact this)
                  have Hin0 := Lib.hid (InsAt.new w2 u)
                  have Hown0 := Lib.hid (Ho2.out.keep ((Below.refl _ _).alloc (Nat.le_refl _) (.cells (ic u) 49)) (Nat.le_refl _) : OwnR icL 5 w.heap.size 49 (w2.alloc (.cells (ic u) 49)) u5 acc)
                  have Hbn0 := Lib.hid (Hb2.out.trans (((Below.refl w2.heap.size w2).alloc (Nat.le_refl _) (.cells (ic u) 49)).mono Hb2.out.size))
                  clear Hno Hnone Hon Hyes Hnot Ho2 Hb2 Hbf Haf Hmm hn4
                  have hown := Hown0.out
                  have hwB : w.heap.size ≤ (w2.alloc (.cells (ic u) 49)).heap.size := Hbn0.out.size
                  repeat' (first | (with_reducible refine load_ins Hin0.out _ rfl rfl ?_) | (at_builtin; go_loud (refine app_one 40 (w2.heap.size + 1) (by simp) u icL_len (by intro y hy; simp [icL] at hy; rcases hy with rfl | rfl | rfl | rfl | rfl <;> rfl) Tryd.underlying22 info_ins3 rfl rfl _ _ rfl rfl rfl rfl hown hwB (by omega) (by unfold maxLen; omega) ?_); intro v4 w4 hown4 hb4 hk4 _) | go_values | go_skip | go_guarded | go_step | go_upon)
                  go_roundw
                  case rel => exact ⟨i + 1, acc ++ [u], f', by go_num, by simp, by omega, by simp; omega, Lib.hid (by have := Hf.out; omega), HGn, Lib.hid hown4, Lib.hid (Hbn0.out.trans hb4)⟩
                  case measure => simp [intOf]; omega
            · have Hseg2 := Lib.hid (Hstep.out h10)
              have h10b : ((a : Int) != 10) = true := by rw [bne_iff_ne]; omega
              clear Hstep Hcut h10 Hseg
              repeat' (first | go_values | go_skip | go_guarded | go_step | go_upon)
              go_roundw
              case rel => exact ⟨i + 1, by go_num, by omega, hil, Hseg2, trivial⟩
              case measure => simp [intOf]; omega
          · obtain rfl : i = t.length := by omega
            have e : G = ([], 211, (acc.length : Int) + 1) := Hno.out (.inl (seg_end Hseg.out))
            have hpl : ((t.drop fr).take (t.length - fr)).length ≤ 262144 := by rw [List.length_take, List.length_drop]; omega
            have hex : (⟨t.toArray⟩ : ByteArray).extract fr t.length = ⟨((t.drop fr).take (t.length - fr)).toArray⟩ := ba_extract _ _ _
            have HR := Lib.hid fun w => ref_Read2 ((t.drop fr).take (t.length - fr)) hpl w
            generalize (t.drop fr).take (t.length - fr) = b at hex HR
            clear Hno Hnone Hon Hseg hpl
            subst e
            repeat' (first | go_values | go_skip | go_guarded | go_step | go_upon)
            refine Calls.mono (HR.out _) ?_
            rintro _ w2 ⟨u, ok, rfl, hb2, hyes, hnot⟩
            dsimp only
            have Hb2 := Lib.hid (Hb.out.trans (hb2.mono Hb.out.size))
            clear hb2 Ho Hb HR hyes hnot
            repeat' (first | go_values | go_skip | go_guarded | go_step | go_upon)
            go_ret3
            exact ⟨_, rfl, rowI_nil, Hb2.out.alloc Hb2.out.size _⟩
      · obtain rfl : fr = t.length := by omega
        have E : Hid (G = (acc, 0, 0)) := Lib.hid (by
          obtain ⟨f', hf'⟩ : ∃ f', f = f' + 1 := ⟨f - 1, by have := Hf.out; omega⟩
          rw [He.out, hf', List.drop_length, pgo_end])
        have e := E.out
        clear He Hf E
        subst e
        repeat' (first | go_values | go_skip | go_guarded | go_step | go_upon)
        go_ret3
        exact ⟨_, rfl, Ho.out.row, Hb.out⟩
end Go.Proofs.YtpelngkhipcneaaDoor
