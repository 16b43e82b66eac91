/- Walk: a line is read, by the reference (P21.4). Conditions: the line is of at most 262144 bytes. -/
import Derived.Test.YtpelngkhipcneaaDoorIsaRefNumber
import Derived.Test.YtpelngkhipcneaaDoorIsaRefReadSpec
import Derived.Test.YtpelngkhipcneaaDoorIsaLike
namespace Go.Proofs.YtpelngkhipcneaaDoor
open Go.RowKit
theorem info_strs : (Tryd.prog.info? 9).map (fun i => (i.zero, i.size, i.bytes)) = some (some (.string ByteArray.empty), 1, 16) := by kernel_rfl
theorem OwnR.lit0 {α : Type} {f : α → List Value} {sz B : Nat} {e : TypeId} (w : World) (hB : B ≤ w.heap.size) : OwnR f sz B e (w.alloc (.cells #[] e)) (.slice (some ⟨w.heap.size, 0, none⟩) 0 0) ([] : List α) := by
  have h := World.ownsRow_lit (base := B) (e := e) (size := sz) w #[] 0 hB (by decide) (by simp)
  exact OwnC.of_own (by simpa using h)
/-- where cutting at blanks stands: behind i bytes, a part begun at 'fr' -/
def SpAt (s : List UInt8) (i fr : Nat) (acc : List (List UInt8)) : Prop :=
  (i ≤ s.length ∧ fr ≤ i ∧ acc ++ spl 32 (s.drop fr) = spl 32 s ∧ (32 : UInt8) ∉ (s.drop fr).take (i - fr)) ∨ (i = s.length + 1 ∧ fr = s.length + 1 ∧ acc = spl 32 s)
theorem at8_ne {s : List UInt8} {i : Nat} (hi : i < s.length) : at8 s i = s[i].toNat := by unfold at8; rw [List.getD_eq_getElem?_getD, List.getElem?_eq_getElem hi]; rfl
theorem sp_skip {s : List UInt8} {i fr : Nat} {acc : List (List UInt8)} (h : SpAt s i fr acc) (hi : i < s.length) (hb : at8 s i ≠ 32) : SpAt s (i + 1) fr acc := by
  rcases h with ⟨h1, h2, h3, h4⟩ | ⟨h1, _⟩
  · refine .inl ⟨hi, by omega, h3, ?_⟩
    rw [show i + 1 - fr = (i - fr) + 1 from by omega, List.take_succ_eq_append_getElem (by rw [List.length_drop]; omega), List.mem_append, not_or]
    refine ⟨h4, ?_⟩
    rw [List.getElem_drop, List.mem_singleton]
    intro e
    apply hb
    rw [at8_ne hi]
    have : s[fr + (i - fr)]'(by omega) = s[i] := by congr 1; omega
    rw [this] at e
    rw [← e]; rfl
  · omega
theorem sp_cut {s : List UInt8} {i fr : Nat} {acc : List (List UInt8)} (h : SpAt s i fr acc) (hi : i < s.length) (hb : at8 s i = 32) : SpAt s (i + 1) (i + 1) (acc ++ [(s.drop fr).take (i - fr)]) := by
  rcases h with ⟨h1, h2, h3, h4⟩ | ⟨h1, _⟩
  · refine .inl ⟨hi, Nat.le_refl _, ?_, by simp⟩
    have e : s.drop fr = (s.drop fr).take (i - fr) ++ 32 :: s.drop (i + 1) := by
      conv => lhs; rw [← List.take_append_drop (i - fr) (s.drop fr)]
      congr 1
      rw [List.drop_drop, show fr + (i - fr) = i from by omega, List.drop_eq_getElem_cons hi]
      congr 1
      rw [at8_ne hi] at hb
      apply UInt8.toNat_inj.1
      rw [hb]; rfl
    have e2 := spl_app 32 ((s.drop fr).take (i - fr)) (s.drop (i + 1)) h4
    rw [← e] at e2
    rw [List.append_assoc, List.singleton_append, ← e2]; exact h3
  · omega
theorem sp_end {s : List UInt8} {fr : Nat} {acc : List (List UInt8)} (h : SpAt s s.length fr acc) : SpAt s (s.length + 1) (s.length + 1) (acc ++ [(s.drop fr).take (s.length - fr)]) := by
  rcases h with ⟨h1, h2, h3, h4⟩ | ⟨h1, _⟩
  · refine .inr ⟨rfl, rfl, ?_⟩
    have e : (s.drop fr).take (s.length - fr) = s.drop fr := List.take_of_length_le (by rw [List.length_drop]; omega)
    rw [e] at h4 ⊢
    rw [spl_one 32 _ h4] at h3
    exact h3
  · omega
theorem sp_fin {s : List UInt8} {i fr : Nat} {acc : List (List UInt8)} (h : SpAt s i fr acc) (hi : s.length < i) : acc = spl 32 s := by
  rcases h with ⟨h1, _⟩ | ⟨_, _, h⟩
  · omega
  · exact h
set_option maxRecDepth 100000 in
set_option maxHeartbeats 8000000 in
theorem ref_Read (s : List UInt8) (hs : s.length ≤ 262144) (w : World) :
    Calls Tryd.prog 29 #[.string ⟨s.toArray⟩] w fun e w' => ∃ u b, e = .returned (.tuple #[vI u, .bool b]) ∧ Below w.heap.size w w' ∧ (b = true → okI u = true ∧ lineL u = s) ∧ (b = false → ∀ x, okI x = true → lineL x ≠ s) := by
  have hz := sz_arr s
  have H0 : Hid (InsAt (w.alloc (.cells #[.int .i64 0, .int .i64 0, .int .i64 0, .int .i64 0, .int .i64 0] 49)) w.heap.size (fun _ => 0)) := Lib.hid (InsAt.new w (fun _ => 0))
  have Hb0 : Hid (Below w.heap.size w (w.alloc (.cells #[.int .i64 0, .int .i64 0, .int .i64 0, .int .i64 0, .int .i64 0] 49))) := Lib.hid ((Below.refl _ _).alloc (Nat.le_refl _) _)
  go_enter Tryd.func29, Tryd.ntmps29
  repeat' (first | go_values | go_skip | go_guarded | go_step | go_upon)
  obtain ⟨g1, hg1⟩ : ∃ g, g = w.heap.size + 1 := ⟨_, rfl⟩
  obtain ⟨w2, hw2⟩ : ∃ w2, w2 = (w.alloc (.cells #[.int .i64 0, .int .i64 0, .int .i64 0, .int .i64 0, .int .i64 0] 49)).alloc (.cells #[] 9) := ⟨_, rfl⟩
  have Ho2 : Hid (OwnR ptL 1 w.heap.size 9 w2 (.slice (some ⟨g1, 0, none⟩) 0 0) []) := Lib.hid (by
    have := OwnR.lit0 (f := ptL) (sz := 1) (e := 9) (w.alloc (.cells #[.int .i64 0, .int .i64 0, .int .i64 0, .int .i64 0, .int .i64 0] 49)) Hb0.out.size
    rw [hw2, hg1]
    simpa using this)
  have hbx : Below (w.alloc (.cells #[.int .i64 0, .int .i64 0, .int .i64 0, .int .i64 0, .int .i64 0] 49)).heap.size (w.alloc (.cells #[.int .i64 0, .int .i64 0, .int .i64 0, .int .i64 0, .int .i64 0] 49)) w2 := by rw [hw2]; exact (Below.refl _ _).alloc (Nat.le_refl _) _
  have H2 : Hid (InsAt w2 w.heap.size (fun _ => 0)) := Lib.hid (H0.out.keep hbx)
  have Hb2 : Hid (Below w.heap.size w w2) := Lib.hid (Hb0.out.trans (hbx.mono Hb0.out.size))
  rw [← hw2, ← hg1]
  clear hw2 hg1 hbx H0 Hb0
  go_loopw [4, 5, 6] (fun s4 s5 s6 wr => ∃ (i fr : Nat) (acc : List (List UInt8)), s5 = .int .i64 fr ∧ s6 = .int .i64 i ∧ i ≤ s.length + 1 ∧ fr ≤ i ∧ acc.length ≤ i ∧ Hid (SpAt s i fr acc) ∧ Hid (OwnR ptL 1 w.heap.size 9 wr s4 acc) ∧ Hid (InsAt wr w.heap.size (fun _ => 0)) ∧ Hid (Below w.heap.size w wr)) (fun _ _ s6 _ => s.length + 1 - (intOf s6).toNat)
  case atStart => exact ⟨0, 0, [], rfl, rfl, Nat.zero_le _, Nat.zero_le _, Nat.le_refl _, Lib.hid (.inl ⟨Nat.zero_le _, Nat.le_refl _, by simp, by simp⟩), Ho2, H2, Hb2⟩
  case round =>
    clear Ho2 H2 Hb2
    obtain ⟨i, fr, acc, rfl, rfl, hi, hfr, hal, HS, Ho, Hi, Hb⟩ := hrel
    by_cases hend : i ≤ s.length
    · have hend' : (i : Int) ≤ s.length := by omega
      have hown := Ho.out
      have hwB : w.heap.size ≤ wr.heap.size := Hb.out.size
      by_cases hl : i = s.length
      · have hl1 : ((i : Int) == (s.length : Int)) = true := by rw [beq_iff_eq]; omega
        have HS2 := HS.out
        rw [hl] at HS2
        have HSn := Lib.hid (sp_end HS2)
        have HSn2 : Hid (SpAt s (i + 1) (i + 1) (acc ++ [(s.drop fr).take (i - fr)])) := Lib.hid (by rw [hl]; exact HSn.out)
        clear HS2 HSn hl
        obtain ⟨pt, hpt⟩ : ∃ p, p = (s.drop fr).take (i - fr) := ⟨_, rfl⟩
        have hex : (⟨s.toArray⟩ : ByteArray).extract fr i = ⟨pt.toArray⟩ := by rw [hpt]; exact ba_extract _ _ _
        rw [← hpt] at HSn2
        clear hpt
        repeat' (first | (at_builtin; go_loud (refine app_one 16 wr.heap.size rfl pt ptL_len (by intro y hy; simp [ptL] at hy; subst hy; rfl) Tryd.underlying68 info_strs rfl rfl _ _ rfl rfl rfl rfl hown hwB (by omega) (by unfold maxLen; omega) ?_); intro v4 w4 hown4 hb4 hk4 _) | go_values | go_skip | go_guarded | go_step | go_upon)
        go_roundw
        case rel => exact ⟨i + 1, i + 1, acc ++ [pt], by go_num, by go_num, by omega, Nat.le_refl _, by simp; omega, HSn2, Lib.hid hown4, Lib.hid (hk4 _ _ _ _ Hi.out (by decide)), Lib.hid (Hb.out.trans hb4)⟩
        case measure => simp [intOf]; omega
      · have hil : i < s.length := by omega
        have hl1 : ((i : Int) == (s.length : Int)) = false := beq_false_of_ne (by omega)
        have hlt' : i < (⟨s.toArray⟩ : ByteArray).size := by rw [hz]; exact hil
        have hby : ((⟨s.toArray⟩ : ByteArray)[i]'hlt').toNat = at8 s i := by rw [ba_at]
        have hskip : Hid (at8 s i ≠ 32 → SpAt s (i + 1) fr acc) := Lib.hid (sp_skip HS.out hil)
        have hcut : Hid (at8 s i = 32 → SpAt s (i + 1) (i + 1) (acc ++ [(s.drop fr).take (i - fr)])) := Lib.hid (sp_cut HS.out hil)
        have ha := at8_lt s i
        generalize at8 s i = a at hskip hcut ha hby
        clear hl
        by_cases h32 : a = 32
        · have HSn2 := Lib.hid (hcut.out h32)
          obtain ⟨pt, hpt⟩ : ∃ p, p = (s.drop fr).take (i - fr) := ⟨_, rfl⟩
          have hex : (⟨s.toArray⟩ : ByteArray).extract fr i = ⟨pt.toArray⟩ := by rw [hpt]; exact ba_extract _ _ _
          rw [← hpt] at HSn2
          have h32b : ((a : Int) == 32) = true := by rw [beq_iff_eq]; omega
          clear hpt h32 hskip hcut
          repeat' (first | (at_builtin; go_loud (refine app_one 16 wr.heap.size rfl pt ptL_len (by intro y hy; simp [ptL] at hy; subst hy; rfl) Tryd.underlying68 info_strs rfl rfl _ _ rfl rfl rfl rfl hown hwB (by omega) (by unfold maxLen; omega) ?_); intro v4 w4 hown4 hb4 hk4 _) | go_values | go_skip | go_guarded | go_step | go_upon)
          go_roundw
          case rel => exact ⟨i + 1, i + 1, acc ++ [pt], by go_num, by go_num, by omega, Nat.le_refl _, by simp; omega, HSn2, Lib.hid hown4, Lib.hid (hk4 _ _ _ _ Hi.out (by decide)), Lib.hid (Hb.out.trans hb4)⟩
          case measure => simp [intOf]; omega
        · have HSn2 := Lib.hid (hskip.out h32)
          have h32b : ((a : Int) == 32) = false := beq_false_of_ne (by omega)
          clear h32 hskip hcut
          repeat' (first | go_values | go_skip | go_guarded | go_step | go_upon)
          go_roundw
          case rel => exact ⟨i + 1, fr, acc, rfl, by go_num, by omega, by omega, by omega, HSn2, Ho, Hi, Hb⟩
          case measure => simp [intOf]; omega
    · have hfin := sp_fin HS.out (by omega)
      subst hfin
      have hpn : 1 ≤ (spl 32 s).length := by
        have := spl_ne 32 s
        cases h : spl 32 s with
        | nil => exact absurd h this
        | cons a l => simp
      have Hfit : Hid (∀ x, okI x = true → lineL x = s → fits (spl 32 s) (x 0).toNat) := Lib.hid fun x hx hxs => fits_line hx hxs
      have hpl : Hid (∀ k, ((spl 32 s).getD k []).length ≤ 262144) := Lib.hid fun k => Nat.le_trans (spl_len 32 s k) hs
      have Hje : Hid (∀ k, fits (spl 32 s) k → ∀ u, JI (spl 32 s) k (letr k).length u → okI u = true ∧ lineL u = s) := Lib.hid fun k hf u h => JI_end hf h
      have Hlf : Hid (∀ k, fits (spl 32 s) k → ∀ x, okI x = true → lineL x = s → ∀ j (hj : j < (letr k).length), (spl 32 s).getD (j + 1) [] = sgB (letr k)[j] ++ Lib.itoa (x (pos (letr k)[j])) ∧ 0 ≤ x (pos (letr k)[j]) ∧ x (pos (letr k)[j]) ≤ (mst (letr k)[j] : Int)) := Lib.hid fun k hf x hx hxs j hj => line_field hf hx hxs j hj
      obtain ⟨gp, cap, rfl⟩ := Ho.out.somewhere (by omega)
      have HR : Hid (RR w gp cap (spl 32 s) wr) := Lib.hid ⟨Hb.out, Hi.out, Ho.out⟩
      clear Ho Hi Hb HS
      generalize spl 32 s = ps at hal hpn Hfit hpl Hje Hlf HR ⊢
      have hpb : ps.length ≤ 300000 := by omega
      have hend' : ¬ (i : Int) ≤ s.length := by omega
      obtain ⟨n, hn⟩ : ∃ n, n = ps.length := ⟨_, rfl⟩
      have Hn := Lib.hid hn
      repeat' (first | go_values | go_skip | go_guarded | go_step | go_upon)
      rw [← hn] at hpn hpb ⊢
      clear hend' hend hi hfr hal hn
      go_loopw [7] (fun s7 wr => ∃ k : Nat, s7 = .int .i64 k ∧ 1 ≤ k ∧ k ≤ 18 ∧ Hid (∀ o, o < k → ¬ fits ps o) ∧ Hid (RR w gp cap ps wr)) (fun s7 _ => 18 - (intOf s7).toNat)
      case atStart => exact ⟨1, by go_num, Nat.le_refl _, by decide, Lib.hid fun o h hf => by have := hf.1; omega, HR⟩
      case round =>
        clear HR
        obtain ⟨k, rfl, hk1, hk, Hno, HR⟩ := hrel
        by_cases hlt : k < 18
        · have HWd : Hid (∀ w, Calls Tryd.prog 36 #[.int .i64 (k : Int)] w fun e w' => e = .returned (.string ⟨(wrB k).toArray⟩) ∧ Below w.heap.size w w') := Lib.hid fun w => ref_Word k hk1 (by omega) w
          have HFd : Hid (∀ w, Calls Tryd.prog 23 #[.int .i64 (k : Int)] w fun e w' => e = .returned (.string (bsT ((letr k).map rlet))) ∧ Below w.heap.size w w') := Lib.hid fun w => ref_Fields k hk1 (by omega) w
          have hl3 := letr_len k
          have htz : (bsT ((letr k).map rlet)).size = (letr k).length := by rw [bsT_size, List.length_map]
          have HB : Hid (∀ j (hj : j < (letr k).length) (h : j < (bsT ((letr k).map rlet)).size), ((bsT ((letr k).map rlet))[j]'h).toNat = rlet (letr k)[j]) := Lib.hid fun j hj h => bsT_rlet (letr k) j hj h (letr_is k)
          generalize bsT ((letr k).map rlet) = tx at HFd htz HB
          obtain ⟨p0, hp⟩ : ∃ p, p = ps.getD 0 [] := ⟨_, rfl⟩
          have q0 : ∀ nq : WB wr, nq.1.cell? ⟨gp, 0, none⟩ = some (.string ⟨p0.toArray⟩) := fun nq => by
            rw [hp]; exact (HR.out.step nq.2).cell 0 (by have := Hn.out; omega)
          have hph : ps.headD [] = p0 := by rw [hp]; cases ps <;> rfl
          obtain ⟨fw, hfw⟩ : ∃ f, f = wrB k := ⟨_, rfl⟩
          rw [← hfw] at HWd
          have Hfit1 : Hid (fits ps k ↔ (fw = p0 ∧ n = (letr k).length + 1)) := Lib.hid (by
            unfold fits
            rw [hph, ← Hn.out, hfw]
            unfold wrB
            exact ⟨fun h => ⟨h.2.2.1.symm, h.2.2.2⟩, fun h => ⟨hk1, by omega, h.1.symm, h.2⟩⟩)
          clear hp hph hfw
          by_cases hB : fw = p0
          · have hb1 : (fw == p0) = true := by simpa using hB
            have hb2 : (fw != p0) = false := by simpa using hB
            have HBe := Lib.hid hB
            clear hB
            by_cases hC : n = (letr k).length + 1
            · have hc1 : ((n : Int) != ((letr k).length : Int) + 1) = false := by rw [bne_eq_false_iff_eq]; omega
              have Hfk := Lib.hid (Hfit1.out.2 ⟨HBe.out, hC⟩)
              have HC := Lib.hid hC
              clear hC
              repeat' (first | go_values | go_skip | go_guarded | go_step | go_upon)
              refine wp_region_wb (by kernel_rfl) (by kernel_rfl) wr (Below.refl _ _) ?_
              repeat (go_big_quiet_step ((first | (go_at_call 36; exact calls_wb (HWd.out _)) | (go_at_call 23; exact calls_wb (HFd.out _)))))
              refine wpQuiet_nil ?_
              rintro _ ⟨nq, rfl⟩
              have hnq := nq.2
              have HR2 := Lib.hid (HR.out.step hnq)
              clear q0 hb1 hb2 hc1 HR hnq Hno HWd Hfit Hfit1 HBe
              repeat' (first | go_values | go_skip | go_guarded | go_step | go_upon)
              have e0 : ic (opI (k : Int)) = #[.int .i64 (k : Int), .int .i64 0, .int .i64 0, .int .i64 0, .int .i64 0] := by simp [ic, opI]
              have HI0 := Lib.hid (RI.new HR2.out (opI (k : Int)))
              rw [e0] at HI0
              have HJ0 := Lib.hid (JI_start ps k)
              have HJe := Lib.hid (Hje.out k Hfk.out)
              have HL := Lib.hid (Hlf.out k Hfk.out)
              have Hlet := Lib.hid (letr_is k)
              have HJs : Hid (∀ (j : Nat) (u : Nat → Int) (v : Int), JI ps k j u → ∀ hj : j < (letr k).length, 0 ≤ v → v ≤ (mst (letr k)[j] : Int) → ps.getD (j + 1) [] = sgB (letr k)[j] ++ Lib.itoa v → JI ps k (j + 1) (upd u (pos (letr k)[j]) v)) := Lib.hid fun j u v h hj h0 h1 hp => JI_step h hj h0 h1 hp
              generalize JI ps k = J at HJ0 HJe HJs
              generalize letr k = lt at hl3 htz HB HC HJ0 HJe HL Hlet HJs
              obtain ⟨gi, hgi⟩ : ∃ g, g = nq.1.heap.size := ⟨_, rfl⟩
              rw [← hgi] at HI0 ⊢
              obtain ⟨wq, hwq⟩ : ∃ wq, wq = nq.1.alloc (.cells #[.int .i64 (k : Int), .int .i64 0, .int .i64 0, .int .i64 0, .int .i64 0] 49) := ⟨_, rfl⟩
              rw [← hwq] at HI0 ⊢
              clear hgi hwq e0 HR2 Hje Hlf Hfk
              have hk17d : decide ((k : Int) ≤ 17) = true := decide_eq_true (by omega)
              rw [hk17d]
              clear hk17d
              go_loopw [9] (fun s9 wi => ∃ (j : Nat) (u : Nat → Int), s9 = .int .i64 j ∧ j ≤ lt.length ∧ Hid (RI w gp cap gi ps u wi) ∧ Hid (J j u)) (fun s9 _ => lt.length - (intOf s9).toNat)
              case atStart => exact ⟨0, _, rfl, Nat.zero_le _, HI0, HJ0⟩
              case round =>
                clear HI0 HJ0
                obtain ⟨j, u, rfl, hjl, GI, GJ⟩ := hrel
                by_cases hjs : j < lt.length
                · obtain ⟨y, hy⟩ : ∃ y, y = lt[j] := ⟨_, rfl⟩
                  have hkt : j < tx.size := by rw [htz]; exact hjs
                  have hx8 : (tx[j]'hkt).toNat = rlet y := by rw [HB.out j hjs hkt, hy]
                  have hyl : y ∈ lt := by rw [hy]; exact List.getElem_mem hjs
                  have hyi := Hlet.out y hyl
                  have HLj : Hid (∀ x, okI x = true → lineL x = s → ps.getD (j + 1) [] = sgB y ++ Lib.itoa (x (pos y)) ∧ 0 ≤ x (pos y) ∧ x (pos y) ≤ (mst y : Int)) := Lib.hid fun x hx hxs => by rw [hy]; exact HL.out x hx hxs j hjs
                  have HJj : Hid (∀ v : Int, 0 ≤ v → v ≤ (mst y : Int) → ps.getD (j + 1) [] = sgB y ++ Lib.itoa v → J (j + 1) (upd u (pos y) v)) := Lib.hid fun v h0 h1 hp => by rw [hy] at h1 hp ⊢; exact HJs.out j u v GJ.out hjs h0 h1 hp
                  have HS := Lib.hid (ref_sign y hyi)
                  have HM := Lib.hid (ref_Most y hyi)
                  have HW := Lib.hid fun a => ref_With u y hyi a
                  have hm10 := Lib.hid (mst_10 y)
                  have hsg : bsT (sgn y) = ⟨(sgB y).toArray⟩ := rfl
                  rw [hsg] at HS
                  have hsl : (sgB y).length ≤ 1 := by unfold sgB; rw [List.length_map]; exact sgn_len y
                  clear hsg
                  generalize sgB y = sg at HS HLj HJj hsl
                  obtain ⟨py, hpy⟩ : ∃ p, p = pos y := ⟨_, rfl⟩
                  rw [← hpy] at HLj HJj HW
                  generalize mst y = m at HLj HJj HM hm10
                  obtain ⟨c, hc⟩ : ∃ c, c = rlet y := ⟨_, rfl⟩
                  rw [← hc] at hx8 HS HM HW
                  have hcl : c < 128 := by rw [hc]; exact rlet_lt hyi
                  have hjn : j + 1 < ps.length := by have := HC.out; have := Hn.out; omega
                  have hjn2 : (j : Int) + 1 < n := by have := HC.out; omega
                  obtain ⟨pt, hpt⟩ : ∃ p, p = ps.getD (j + 1) [] := ⟨_, rfl⟩
                  have hptl : pt.length ≤ 262144 := by rw [hpt]; exact hpl.out (j + 1)
                  rw [← hpt] at HLj HJj
                  have Hpc : Hid (∀ w', RI w gp cap gi ps u w' → w'.cell? ⟨gp, j + 1, none⟩ = some (.string ⟨pt.toArray⟩)) := Lib.hid fun w' h => by rw [hpt]; exact h.rr.cell (j + 1) hjn
                  have hq1 := sz_arr sg
                  have hq2 := sz_arr pt
                  clear hpt hc hpy hy hyl hyi hjn
                  repeat' (first | go_values | go_skip | go_guarded | go_step | go_upon)
                  refine Calls.mono (ri_calls GI.out (HFd.out _)) ?_
                  rintro _ w2 ⟨rfl, g2⟩
                  dsimp only
                  have K2 := Lib.hid g2
                  clear g2 GI
                  repeat' (first | go_values | go_skip | go_guarded | go_step | go_upon)
                  refine Calls.mono (ri_calls K2.out (HFd.out _)) ?_
                  rintro _ w3 ⟨rfl, g3⟩
                  dsimp only
                  have K3 := Lib.hid g3
                  have hpc := Hpc.out _ g3
                  clear g3 K2
                  repeat' (first | go_values | go_skip | go_guarded | go_step | go_upon)
                  refine Calls.mono (HS.out _) ?_
                  rintro _ w4 ⟨rfl, rfl⟩
                  dsimp only
                  clear hpc
                  by_cases hls : pt.length < sg.length
                  · have Hno : Hid (∀ x, okI x = true → lineL x ≠ s) := Lib.hid fun x hx hxs => by
                      have := (HLj.out x hx hxs).1
                      rw [this, List.length_append] at hls; omega
                    have hls' : (pt.length : Int) < sg.length := by omega
                    clear hls
                    repeat' (first | (with_reducible refine load_ins K3.out.ins _ rfl rfl ?_) | (with_reducible refine store_ins K3.out.rr.res u _ _ rfl rfl rfl ?_) | go_values | go_skip | go_guarded | go_step | go_upon)
                    refine bodyPost_ret (v := .tuple #[vI u, .bool false]) (results_insb rfl _ _ w.heap.size _ _ rfl rfl K3.out.rr.res.row) rfl ⟨_, _, rfl, ?_, fun h => (by cases h), fun _ => Hno.out⟩
                    exact Below.row K3.out.rr.bel (Nat.le_refl _) _
                  have hls' : (sg.length : Int) ≤ pt.length := by omega
                  have hls2 : sg.length ≤ pt.length := by omega
                  clear hls
                  have hex : (⟨pt.toArray⟩ : ByteArray).extract 0 sg.length = ⟨(pt.take sg.length).toArray⟩ := by rw [ba_extract]; simp
                  have hex2 : (⟨pt.toArray⟩ : ByteArray).extract sg.length pt.length = ⟨(pt.drop sg.length).toArray⟩ := by
                    have hd : (pt.drop sg.length).take (pt.length - sg.length) = pt.drop sg.length := List.take_of_length_le (by rw [List.length_drop]; omega)
                    rw [ba_extract, hd]
                  have Hcut : Hid (pt = pt.take sg.length ++ pt.drop sg.length) := Lib.hid (List.take_append_drop _ _).symm
                  have hrl : (pt.drop sg.length).length ≤ 1000000 := by rw [List.length_drop]; omega
                  have Htk : Hid (∀ r, pt = sg ++ r → pt.take sg.length = sg ∧ pt.drop sg.length = r) := Lib.hid fun r h => by rw [h]; simp
                  generalize pt.take sg.length = pre at hex Hcut Htk
                  generalize pt.drop sg.length = rest at hex2 Hcut Htk hrl
                  by_cases hpre : pre = sg
                  · have HN := Lib.hid (ref_number rest hrl)
                    have Hpt : Hid (0 ≤ numB rest → pt = sg ++ Lib.itoa (numB rest)) := Lib.hid fun h => by rw [numB_back h]; rw [← hpre]; exact Hcut.out
                    have HLv : Hid (∀ x, okI x = true → lineL x = s → 0 ≤ numB rest ∧ numB rest ≤ (m : Int)) := Lib.hid fun x hx hxs => by
                      obtain ⟨h1, h2, h3⟩ := HLj.out x hx hxs
                      have h4 := (Htk.out _ h1).2
                      have h5 := hm10.out
                      rw [h4, numB_itoa h2 (Int.lt_of_le_of_lt h3 h5)]
                      exact ⟨h2, h3⟩
                    generalize numB rest = v at HN Hpt HLv
                    have hd1 : decide (pt.length < sg.length) = false := decide_eq_false (by omega)
                    clear Hcut Htk HLj hrl hls2
                    subst hpre
                    repeat' (first | go_values | go_skip | go_guarded | go_step | go_upon)
                    refine Calls.mono (HN.out _) ?_
                    rintro _ w5 ⟨rfl, rfl⟩
                    dsimp only
                    clear hex hex2
                    by_cases hv0 : v < 0
                    · have Hno : Hid (∀ x, okI x = true → lineL x ≠ s) := Lib.hid fun x hx hxs => by
                        have := HLv.out x hx hxs; omega
                      repeat' (first | (with_reducible refine load_ins K3.out.ins _ rfl rfl ?_) | (with_reducible refine store_ins K3.out.rr.res u _ _ rfl rfl rfl ?_) | go_values | go_skip | go_guarded | go_step | go_upon)
                      refine bodyPost_ret (v := .tuple #[vI u, .bool false]) (results_insb rfl _ _ w.heap.size _ _ rfl rfl K3.out.rr.res.row) rfl ⟨_, _, rfl, ?_, fun h => (by cases h), fun _ => Hno.out⟩
                      exact Below.row K3.out.rr.bel (Nat.le_refl _) _
                    · by_cases hvm : (m : Int) < v
                      · have Hno : Hid (∀ x, okI x = true → lineL x ≠ s) := Lib.hid fun x hx hxs => by
                          have := HLv.out x hx hxs; omega
                        repeat' (first | go_values | go_skip | go_guarded | go_step | go_upon)
                        refine Calls.mono (HM.out _) ?_
                        rintro _ w5 ⟨rfl, rfl⟩
                        dsimp only
                        repeat' (first | (with_reducible refine load_ins K3.out.ins _ rfl rfl ?_) | (with_reducible refine store_ins K3.out.rr.res u _ _ rfl rfl rfl ?_) | go_values | go_skip | go_guarded | go_step | go_upon)
                        refine bodyPost_ret (v := .tuple #[vI u, .bool false]) (results_insb rfl _ _ w.heap.size _ _ rfl rfl K3.out.rr.res.row) rfl ⟨_, _, rfl, ?_, fun h => (by cases h), fun _ => Hno.out⟩
                        exact Below.row K3.out.rr.bel (Nat.le_refl _) _
                      · have HJ1 := Lib.hid (HJj.out v (by omega) (by omega) (Hpt.out (by omega)))
                        repeat' (first | go_values | go_skip | go_guarded | go_step | go_upon)
                        refine Calls.mono (HM.out _) ?_
                        rintro _ w5 ⟨rfl, rfl⟩
                        dsimp only
                        repeat' (first | (with_reducible refine load_ins K3.out.ins _ rfl rfl ?_) | go_values | go_skip | go_guarded | go_step | go_upon)
                        refine Calls.mono (ri_calls K3.out (HW.out v _)) ?_
                        rintro _ w6 ⟨rfl, g6⟩
                        dsimp only
                        have K6 := Lib.hid g6
                        clear K3 g6
                        repeat' (first | (with_reducible refine store_ins K6.out.ins (upd u py v) _ _ rfl rfl rfl ?_) | go_values | go_skip | go_guarded | go_step | go_upon)
                        go_roundw
                        case rel => exact ⟨j + 1, upd u py v, by go_num, hjs, Lib.hid K6.out.put, HJ1⟩
                        case measure => simp [intOf]; omega
                  · have hb1 : (pre == sg) = false := by simpa using hpre
                    have hb2 : (pre != sg) = true := by simpa using hpre
                    have Hno : Hid (∀ x, okI x = true → lineL x ≠ s) := Lib.hid fun x hx hxs => hpre (Htk.out _ (HLj.out x hx hxs).1).1
                    clear hpre
                    repeat' (first | (with_reducible refine load_ins K3.out.ins _ rfl rfl ?_) | (with_reducible refine store_ins K3.out.rr.res u _ _ rfl rfl rfl ?_) | go_values | go_skip | go_guarded | go_step | go_upon)
                    refine bodyPost_ret (v := .tuple #[vI u, .bool false]) (results_insb rfl _ _ w.heap.size _ _ rfl rfl K3.out.rr.res.row) rfl ⟨_, _, rfl, ?_, fun h => (by cases h), fun _ => Hno.out⟩
                    exact Below.row K3.out.rr.bel (Nat.le_refl _) _
                · obtain rfl : j = lt.length := by omega
                  have Hyes := Lib.hid (HJe.out u GJ.out)
                  repeat' (first | go_values | go_skip | go_guarded | go_step | go_upon)
                  refine Calls.mono (ri_calls GI.out (HFd.out _)) ?_
                  rintro _ w2 ⟨rfl, g2⟩
                  dsimp only
                  have K3 := Lib.hid g2
                  clear g2 GI
                  repeat' (first | (with_reducible refine load_ins K3.out.ins _ rfl rfl ?_) | (with_reducible refine store_ins K3.out.rr.res u _ _ rfl rfl rfl ?_) | go_values | go_skip | go_guarded | go_step | go_upon)
                  refine bodyPost_ret (v := .tuple #[vI u, .bool true]) (results_insb rfl _ _ w.heap.size _ _ rfl rfl K3.out.rr.res.row) rfl ⟨_, _, rfl, ?_, fun _ => Hyes.out, fun h => (by cases h)⟩
                  exact Below.row K3.out.rr.bel (Nat.le_refl _) _
            · have hc1 : ((n : Int) != ((letr k).length : Int) + 1) = true := by rw [bne_iff_ne]; omega
              have HC := Lib.hid hC
              clear hC
              repeat' (first | go_values | go_skip | go_guarded | go_step | go_upon)
              refine wp_region_wb (by kernel_rfl) (by kernel_rfl) wr (Below.refl _ _) ?_
              repeat (go_big_quiet_step ((first | (go_at_call 36; exact calls_wb (HWd.out _)) | (go_at_call 23; exact calls_wb (HFd.out _)))))
              refine wpQuiet_nil ?_
              rintro _ ⟨nq, rfl⟩
              have hnq := nq.2
              repeat' (first | go_values | go_skip | go_guarded | go_step | go_upon)
              go_roundw
              case rel => exact ⟨k + 1, by go_num, by omega, by omega, Lib.hid fun o ho h => by
                rcases Nat.lt_or_ge o k with h1 | h1
                · exact Hno.out o h1 h
                · obtain rfl : o = k := by omega
                  exact HC.out (Hfit1.out.1 h).2, Lib.hid (HR.out.step hnq)⟩
              case measure => simp [intOf]; omega
          · have hb1 : (fw == p0) = false := by simpa using hB
            have hb2 : (fw != p0) = true := by simpa using hB
            have HBn := Lib.hid hB
            clear hB
            repeat' (first | go_values | go_skip | go_guarded | go_step | go_upon)
            refine wp_region_wb (by kernel_rfl) (by kernel_rfl) wr (Below.refl _ _) ?_
            repeat (go_big_quiet_step ((first | (go_at_call 36; exact calls_wb (HWd.out _)) | (go_at_call 23; exact calls_wb (HFd.out _)))))
            refine wpQuiet_nil ?_
            rintro _ ⟨nq, rfl⟩
            have hnq := nq.2
            repeat' (first | go_values | go_skip | go_guarded | go_step | go_upon)
            go_roundw
            case rel => exact ⟨k + 1, by go_num, by omega, by omega, Lib.hid fun o ho h => by
              rcases Nat.lt_or_ge o k with h1 | h1
              · exact Hno.out o h1 h
              · obtain rfl : o = k := by omega
                exact HBn.out (Hfit1.out.1 h).1, Lib.hid (HR.out.step hnq)⟩
            case measure => simp [intOf]; omega
        · obtain rfl : k = 18 := by omega
          repeat' (first | (with_reducible refine store_ins HR.out.res (fun _ => 0) _ _ rfl rfl rfl ?_) | go_values | go_skip | go_guarded | go_step | go_upon)
          refine bodyPost_ret (v := .tuple #[vI (fun _ => 0), .bool false]) (results_insb rfl _ _ w.heap.size _ _ rfl rfl HR.out.res.row) rfl ⟨_, _, rfl, ?_, fun h => (by cases h), fun _ x hx hxs => ?_⟩
          · exact Below.row HR.out.bel (Nat.le_refl _) _
          · have h1 := Hfit.out x hx hxs
            exact Hno.out _ (by have := h1.2.1; omega) h1
end Go.Proofs.YtpelngkhipcneaaDoor
