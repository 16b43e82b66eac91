/- Walks: whether a program's data may be (verify.whole). Condition: the program lies in memory. -/
import Derived.Test.YtkpdcejnanhgoaaPk07
import Derived.Test.YtkpdcejnanhgoaaPk09
import Derived.Laws.Bits64b
namespace Go.Proofs.Ytkpdcejnanhgoaa
open Go.RowKit
theorem whole_1 (n : Int) (w : World) : Calls Try.prog 59 #[.int .i64 n] w fun e w' => e = .returned (.bool (smallN n)) ∧ Below w.heap.size w w' := by
  by_cases h1 : 0 ≤ n
  · by_cases h2 : n ≤ 1048576
    · go_enter Try.func59, Try.ntmps59
      repeat' (first | go_values | go_skip | go_guarded | go_step | go_upon)
      go_ret
      exact ⟨ret_b (by simp [smallN, h1, h2]), Below.refl _ _⟩
    · go_enter Try.func59, Try.ntmps59
      repeat' (first | go_values | go_skip | go_guarded | go_step | go_upon)
      go_ret
      exact ⟨ret_b (by simp [smallN, h1, h2]), Below.refl _ _⟩
  · go_enter Try.func59, Try.ntmps59
    repeat' (first | go_values | go_skip | go_guarded | go_step | go_upon)
    go_ret
    exact ⟨ret_b (by simp [smallN, h1]), Below.refl _ _⟩
theorem whole_2 (n : Int) (w : World) : Calls Try.prog 61 #[.int .i64 n] w fun e w' => e = .returned (.bool (!numOk n)) ∧ Below w.heap.size w w' := by
  by_cases h1 : 0 ≤ n
  · by_cases h2 : n ≤ 1073741824
    · have h1' : ¬ n < 0 := by omega
      have h2' : ¬ 1073741824 < n := by omega
      go_enter Try.func61, Try.ntmps61
      repeat' (first | go_values | go_skip | go_guarded | go_step | go_upon)
      go_ret
      exact ⟨ret_b (by simp [numOk, h1, h2]), Below.refl _ _⟩
    · go_enter Try.func61, Try.ntmps61
      repeat' (first | go_values | go_skip | go_guarded | go_step | go_upon)
      go_ret
      exact ⟨ret_b (by simp [numOk, h1, h2]; omega), Below.refl _ _⟩
  · go_enter Try.func61, Try.ntmps61
    repeat' (first | go_values | go_skip | go_guarded | go_step | go_upon)
    go_ret
    exact ⟨ret_b (by simp [numOk, h1]), Below.refl _ _⟩
theorem whole_3 (l : List UInt8) (hl : l.length ≤ 140737488351232) (w : World) : Calls Try.prog 63 #[.string ⟨l.toArray⟩] w fun e w' => e = .returned (.bool (!decide (l.length ≤ 4096))) ∧ Below w.heap.size w w' := by
  have hz : (⟨l.toArray⟩ : ByteArray).size = l.length := by simp [ByteArray.size]
  by_cases h1 : l.length ≤ 4096
  · go_enter Try.func63, Try.ntmps63
    repeat' (first | go_values | go_skip | go_guarded | go_step | go_upon)
    go_ret
    exact ⟨ret_b (by rw [decide_eq_true h1]; simp; omega), Below.refl _ _⟩
  · go_enter Try.func63, Try.ntmps63
    repeat' (first | go_values | go_skip | go_guarded | go_step | go_upon)
    go_ret
    exact ⟨ret_b (by rw [decide_eq_false h1]; simp; omega), Below.refl _ _⟩
theorem and_low (v : Nat) (hv : U64 v) : bits .and .u64 (v : Int) 4294967295 = ((v % 4294967296 : Nat) : Int) := by
  have := bits_and_u64_nat v 4294967295 (by unfold U64 at hv; omega) (by decide)
  rw [show ((4294967295 : Nat) : Int) = 4294967295 from rfl] at this
  rw [this]
  congr 1
  exact Nat.and_two_pow_sub_one_eq_mod v 32
theorem whole_4 (v : Nat) (hv : U64 v) (p : Prg) (pv : PV) (g : Nat) (hs : 0 ≤ p.signs ∧ p.signs ≤ 65536) (w : World) (hb : PBox w g p pv) : Calls Try.prog 65 #[.int .u64 v, .pointer (some ⟨g, 0, none⟩)] w fun e w' => e = .returned (.bool (!valOk p.signs v)) ∧ Below w.heap.size w w' := by
  have ha := and_low v hv
  have c3 := hb.cell 3
  simp only [pgC] at c3
  obtain ⟨s, hs'⟩ : ∃ s : Nat, p.signs = s := ⟨p.signs.toNat, by omega⟩
  have HV : Hid (valOk p.signs v = decide (((v % 4294967296 : Nat) : Int) < p.signs)) := Lib.hid rfl
  rw [hs'] at c3 HV hs ⊢
  generalize valOk (s : Int) v = b at HV ⊢
  have hw : IntKind.u64.wrap (s : Int) = s := wu64 (by omega) (u64_small (by omega))
  obtain ⟨r, hr⟩ : ∃ r, r = v % 4294967296 := ⟨_, rfl⟩
  rw [← hr] at ha HV
  clear hr hs' hb
  by_cases h : (r : Int) < s
  · have HF : Hid (b = true) := Lib.hid (by rw [HV.out]; exact decide_eq_true h)
    clear HV
    go_enter Try.func65, Try.ntmps65
    repeat' (first | go_values | go_skip | go_guarded | go_step | go_upon)
    go_ret
    exact ⟨ret_b (by rw [HF.out]; simp; omega), Below.refl _ _⟩
  · have HF : Hid (b = false) := Lib.hid (by rw [HV.out]; exact decide_eq_false h)
    clear HV
    go_enter Try.func65, Try.ntmps65
    repeat' (first | go_values | go_skip | go_guarded | go_step | go_upon)
    go_ret
    exact ⟨ret_b (by rw [HF.out]; simp; omega), Below.refl _ _⟩
theorem enters_whole2 : ∀ args w, (callFunc 61 args).run Try.prog w = .ok (.enter 61 args) w := enters_of Try.func61 (by kernel_rfl) rfl
theorem enters_whole3 : ∀ args w, (callFunc 63 args).run Try.prog w = .ok (.enter 63 args) w := enters_of Try.func63 (by kernel_rfl) rfl
theorem enters_whole4 : ∀ args w, (callFunc 65 args).run Try.prog w = .ok (.enter 65 args) w := enters_of Try.func65 (by kernel_rfl) rfl
theorem getD_some {α : Type} {l : List α} {i : Nat} {x d : α} (h : l[i]? = some x) : l.getD i d = x := by rw [List.getD_eq_getElem?_getD, h]; rfl
/-- are all of a row's numbers in their bounds? -/
theorem any_nums (l : List Int) (v : Value) (w : World) (h : RowOf intC 1 w v l) :
    Calls Try.prog 16 #[v, .func (.func 61) #[] #[]] w fun e w' => e = .returned (.bool (!l.all numOk)) ∧ Below w.heap.size w w' := by
  have := contains_int (Value.int .i64) (fun i => !numOk (l.getD i 0)) 61 #[] enters_whole2 l v w h (fun W _ i x hi => by
    rw [getD_some hi]; exact whole_2 x W)
  rw [any_not 0 numOk l] at this
  exact this
theorem any_texts (l : List (List UInt8)) (hl : ∀ x ∈ l, x.length ≤ 140737488351232) (v : Value) (w : World) (h : RowOf strC 1 w v l) :
    Calls Try.prog 62 #[v, .func (.func 63) #[] #[]] w fun e w' => e = .returned (.bool (!l.all fun x => decide (x.length ≤ 4096))) ∧ Below w.heap.size w w' := by
  have := contains_str (fun l : List UInt8 => Value.string ⟨l.toArray⟩) (fun i => !decide ((l.getD i []).length ≤ 4096)) 63 #[] enters_whole3 l v w h (fun W _ i x hi => by
    rw [getD_some hi]; exact whole_3 x (hl x (List.mem_of_getElem? hi)) W)
  rw [any_not [] (fun x : List UInt8 => decide (x.length ≤ 4096)) l] at this
  exact this
theorem any_vals (p : Prg) (pv : PV) (g : Nat) (hs : 0 ≤ p.signs ∧ p.signs ≤ 65536) (l : List Nat) (hl : ∀ k, U64 (l.getD k 0)) (v : Value) (w : World) (hb : PBox w g p pv) (h : RowOf u64C 1 w v l) :
    Calls Try.prog 64 #[v, .func (.func 65) #[] #[.pointer (some ⟨g, 0, none⟩)]] w fun e w' => e = .returned (.bool (!l.all (valOk p.signs))) ∧ Below w.heap.size w w' := by
  have := contains_u64 (fun n : Nat => Value.int .u64 n) (fun i => !valOk p.signs (l.getD i 0)) 65 #[.pointer (some ⟨g, 0, none⟩)] enters_whole4 l v w h (fun W hW i x hi => by
    have hx := hl i
    rw [getD_some hi] at hx ⊢
    exact whole_4 x hx p pv g hs W (hb.keep hW))
  rw [any_not 0 (valOk p.signs) l] at this
  exact this
set_option maxRecDepth 100000 in
set_option maxHeartbeats 8000000 in
theorem ver_whole (p : Prg) (v : PV) (w : World) (H : PrgAt w v p) : Calls Try.prog 43 #[pgV p v] w fun e w' => e = .returned (.bool (dataOk p)) ∧ Below w.heap.size w w' := by
  have HH := Lib.hid H
  obtain ⟨ts, hts, htl, htr⟩ := H.tabs
  obtain ⟨at', ct, hvt, hct, hmt, hcellt⟩ := hts.open (f := tbC) (sz := 2) (fun _ => rfl)
  obtain ⟨ax, cx, hvx, hcx, hmx⟩ := H.texts.slice
  have Hiff := Lib.hid (data_iff p)
  have Htr := Lib.hid htr
  have Htl := Lib.hid htl
  have Hct := Lib.hid hcellt
  have HB0 : Hid (PBox (w.alloc (.cells (pgC p v) 45)) w.heap.size p v) := Lib.hid (PBox.new _ _ _)
  have Hb0 : Hid (Below w.heap.size w (w.alloc (.cells (pgC p v) 45))) := Lib.hid ((Below.refl _ _).alloc (Nat.le_refl _) _)
  obtain ⟨vc, vt, vx, vs, vk, vv⟩ := v
  dsimp only at hvt hvx
  subst hvt hvx
  obtain ⟨nt, hnt⟩ : ∃ n, n = ts.length := ⟨_, rfl⟩
  obtain ⟨nx, hnx⟩ : ∃ n, n = p.texts.length := ⟨_, rfl⟩
  have Hlin : Hid (linOk p ↔ 0 ≤ p.signs ∧ p.signs ≤ 65536 ∧ nt ≤ 16 ∧ nx ≤ 4096) := Lib.hid (by rw [hnt, hnx, htl]; rfl)
  rw [← hnt, ← hnx] at HB0 Hb0 HH ⊢
  have Hnt := Lib.hid hnt
  have Hnx := Lib.hid hnx
  clear H hts htl htr hcellt hmt hmx hnt hnx hct hcx
  obtain ⟨B, hB⟩ : ∃ B, B = dataOk p := ⟨_, rfl⟩
  rw [← hB] at Hiff ⊢
  clear hB
  have Hf : Hid ((B = true → False) → B = false) := Lib.hid fun h => by cases B with | false => rfl | true => exact (h rfl).elim
  go_enter Try.func43, Try.ntmps43
  repeat' (first | go_values | go_skip | go_guarded | go_step | go_upon)
  refine Calls.mono (whole_1 p.grow _) ?_
  rintro _ w1 ⟨rfl, hb1⟩
  dsimp only
  have P1 := Lib.hid (HB0.out.keep hb1)
  have B1 := Lib.hid (Hb0.out.trans (hb1.mono Hb0.out.size))
  clear hb1 HB0 Hb0
  obtain ⟨c0, c1, c2, c3, c4, c5, c6, c7, c8, c9⟩ := P1.out.ten
  dsimp only at c4 c5 c6 c7 c8 c9
  by_cases hs1 : smallN p.grow = true
  rotate_left
  · have HF := Lib.hid (Hf.out fun h => hs1 (Hiff.out.1 h).1)
    have hs' : smallN p.grow = false := by simpa using hs1
    rw [hs']
    repeat' (first | go_values | go_skip | go_guarded | go_step | go_upon)
    go_ret
    exact ⟨ret_b HF.out.symm, B1.out⟩
  rw [hs1]
  repeat' (first | go_values | go_skip | go_guarded | go_step | go_upon)
  clear c0 c1 c2 c3 c4 c5 c6 c7 c8 c9
  refine Calls.mono (whole_1 p.rest _) ?_
  rintro _ w2 ⟨rfl, hb2⟩
  dsimp only
  have P2 := Lib.hid (P1.out.keep hb2)
  have B2 := Lib.hid (B1.out.trans (hb2.mono B1.out.size))
  clear hb2 P1 B1
  obtain ⟨c0, c1, c2, c3, c4, c5, c6, c7, c8, c9⟩ := P2.out.ten
  dsimp only at c4 c5 c6 c7 c8 c9
  by_cases hs2 : smallN p.rest = true
  rotate_left
  · have HF := Lib.hid (Hf.out fun h => hs2 (Hiff.out.1 h).2.1)
    have hs' : smallN p.rest = false := by simpa using hs2
    rw [hs']
    repeat' (first | go_values | go_skip | go_guarded | go_step | go_upon)
    go_ret
    exact ⟨ret_b HF.out.symm, B2.out⟩
  rw [hs2]
  repeat' (first | go_values | go_skip | go_guarded | go_step | go_upon)
  clear c0 c1 c2 c3 c4 c5 c6 c7 c8 c9
  refine Calls.mono (whole_1 p.extra _) ?_
  rintro _ w3 ⟨rfl, hb3⟩
  dsimp only
  have P3 := Lib.hid (P2.out.keep hb3)
  have B3 := Lib.hid (B2.out.trans (hb3.mono B2.out.size))
  clear hb3 P2 B2
  obtain ⟨c0, c1, c2, c3, c4, c5, c6, c7, c8, c9⟩ := P3.out.ten
  dsimp only at c4 c5 c6 c7 c8 c9
  by_cases hs3 : smallN p.extra = true
  rotate_left
  · have HF := Lib.hid (Hf.out fun h => hs3 (Hiff.out.1 h).2.2.1)
    have hs' : smallN p.extra = false := by simpa using hs3
    rw [hs']
    repeat' (first | go_values | go_skip | go_guarded | go_step | go_upon)
    go_ret
    exact ⟨ret_b HF.out.symm, B3.out⟩
  rw [hs3]
  by_cases hq : p.signs < 0
  · have HF := Lib.hid (Hf.out fun h => by have := Hlin.out.1 (Hiff.out.1 h).2.2.2.1; omega)
    repeat' (first | go_values | go_skip | go_guarded | go_step | go_upon)
    go_ret
    exact ⟨ret_b HF.out.symm, B3.out⟩
  have hl1 : 0 ≤ p.signs := by omega
  clear hq
  by_cases hq : 65536 < p.signs
  · have HF := Lib.hid (Hf.out fun h => by have := Hlin.out.1 (Hiff.out.1 h).2.2.2.1; omega)
    repeat' (first | go_values | go_skip | go_guarded | go_step | go_upon)
    go_ret
    exact ⟨ret_b HF.out.symm, B3.out⟩
  have hl2 : p.signs ≤ 65536 := by omega
  clear hq
  by_cases hq : (16 : Int) < nt
  · have HF := Lib.hid (Hf.out fun h => by have := Hlin.out.1 (Hiff.out.1 h).2.2.2.1; omega)
    repeat' (first | go_values | go_skip | go_guarded | go_step | go_upon)
    go_ret
    exact ⟨ret_b HF.out.symm, B3.out⟩
  have hl3 : (nt : Int) ≤ 16 := by omega
  clear hq
  by_cases hq : (4096 : Int) < nx
  · have HF := Lib.hid (Hf.out fun h => by have := Hlin.out.1 (Hiff.out.1 h).2.2.2.1; omega)
    repeat' (first | go_values | go_skip | go_guarded | go_step | go_upon)
    go_ret
    exact ⟨ret_b HF.out.symm, B3.out⟩
  have hl4 : (nx : Int) ≤ 4096 := by omega
  clear hq
  have Hlo : Hid (linOk p) := Lib.hid (Hlin.out.2 ⟨hl1, hl2, by omega, by omega⟩)
  repeat' (first | go_values | go_skip | go_guarded | go_step | go_upon)
  have HA3 := Lib.hid (HH.out.keep (B3.out : Below w.heap.size w w3))
  refine Calls.mono (hash_Right vs vk vv p.hash _ HA3.out.hash) ?_
  rintro _ w4 ⟨rfl, hb4⟩
  dsimp only
  have P4 := Lib.hid (P3.out.keep hb4)
  have B4 := Lib.hid (B3.out.trans (hb4.mono B3.out.size))
  clear hb4 P3 B3 HA3 c0 c1 c2 c3 c4 c5 c6 c7 c8 c9
  obtain ⟨c0, c1, c2, c3, c4, c5, c6, c7, c8, c9⟩ := P4.out.ten
  dsimp only at c4 c5 c6 c7 c8 c9
  by_cases hs4 : hokI p.hash = true
  rotate_left
  · have HF := Lib.hid (Hf.out fun h => hs4 (Hiff.out.1 h).2.2.2.2.1)
    have hs' : hokI p.hash = false := by simpa using hs4
    rw [hs']
    repeat' (first | go_values | go_skip | go_guarded | go_step | go_upon)
    go_ret
    exact ⟨ret_b HF.out.symm, B4.out⟩
  rw [hs4]
  repeat' (first | go_values | go_skip | go_guarded | go_step | go_upon)
  go_loopw [56] (fun s_ wr => ∃ k : Nat, s_ = .int .i64 k ∧ k ≤ nt ∧ Hid (∀ i, i < k → tabOk (p.tabs.getD i (0, [])) = true) ∧ Hid (PBox wr w.heap.size p ⟨vc, .slice at' nt ct, .slice ax nx cx, vs, vk, vv⟩) ∧ Hid (Below w.heap.size w wr)) (fun s_ _ => nt - (intOf s_).toNat)
  case atStart => exact ⟨0, rfl, Nat.zero_le _, Lib.hid fun i hi => absurd hi (Nat.not_lt_zero _), P4, B4⟩
  case round =>
    clear P4 B4 c0 c1 c2 c3 c4 c5 c6 c7 c8 c9
    obtain ⟨k, rfl, hk, Ha, P, Bb⟩ := hrel
    by_cases hlt : k < nt
    · rcases Hct.out with h0 | ⟨b, off, hat, hb, hct⟩
      · have := Hnt.out; omega
      subst hat
      obtain ⟨t, ht⟩ : ∃ t, ts[k]? = some t := ⟨_, List.getElem?_eq_getElem (by rw [← Hnt.out]; exact hlt)⟩
      obtain ⟨d, hd⟩ : ∃ d, p.tabs[k]? = some d := ⟨_, List.getElem?_eq_getElem (by rw [← Htl.out, ← Hnt.out]; exact hlt)⟩
      obtain ⟨e1, hI, hrd⟩ := Htr.out k t d ht hd
      obtain ⟨ad, cd, hvd, _, _⟩ := hrd.slice
      obtain ⟨k0, k1⟩ := tab_cells hct ht
      rw [e1] at k0
      rw [hvd] at k1 hrd
      rw [← Bb.out.cell (show b < w.heap.size from hb)] at k0 k1
      have Hrd := Lib.hid (hrd.keep Bb.out)
      have htab : tabOk d = true ↔ (1 ≤ d.1 ∧ d.1 ≤ 256 ∧ d.1 ≤ d.2.length ∧ d.2.length ≤ 400000 ∧ (d.2.length : Int) % d.1 = 0) ∧ d.2.all numOk = true := by
        unfold tabOk; rw [Bool.and_eq_true, decide_eq_true_eq]
      have hfail : ¬ tabOk d = true → B = false := fun h => Hf.out fun hB => h (by
        have := List.all_eq_true.1 (Hiff.out.1 hB).2.2.2.2.2.1 d (List.mem_of_getElem? hd)
        exact this)
      have Hdg : Hid (p.tabs.getD k (0, []) = d) := Lib.hid (getD_some hd)
      obtain ⟨nd, hnd⟩ : ∃ n, n = d.2.length := ⟨_, rfl⟩
      obtain ⟨c, hc⟩ : ∃ c, c = d.1 := ⟨_, rfl⟩
      obtain ⟨al, hal⟩ : ∃ c, c = d.2.all numOk := ⟨_, rfl⟩
      have HN := Lib.hid fun w h => any_nums d.2 (.slice ad nd cd) w h
      rw [← hnd, ← hc, ← hal] at htab
      rw [← hc] at k0 hI
      rw [← hnd] at k1 Hrd
      rw [← hal] at HN
      have HFt : Hid ((((1 ≤ c ∧ c ≤ 256 ∧ c ≤ nd ∧ nd ≤ 400000 ∧ (nd : Int) % c = 0) ∧ al = true) → False) → B = false) := Lib.hid fun h => hfail fun h' => h (htab.1 h')
      have Htab := Lib.hid htab
      have HT : Hid (TBox (wr.alloc (.cells #[.int .i64 c, .slice ad nd cd] 74)) wr.heap.size c (.slice ad nd cd)) := Lib.hid (TBox.new _ _ _)
      obtain ⟨t0, t1⟩ := HT.out.two
      have hbx : Below wr.heap.size wr (wr.alloc (.cells #[.int .i64 c, .slice ad nd cd] 74)) := (Below.refl _ _).alloc (Nat.le_refl _) _
      have Px := Lib.hid (P.out.keep hbx)
      have Bx := Lib.hid (Bb.out.trans (hbx.mono Bb.out.size))
      have Rx := Lib.hid (Hrd.out.keep hbx)
      clear htab hfail hnd hc hal hvd hrd e1 ht hd hct hbx P hI
      by_cases hq : c < 1
      · have HF := Lib.hid (HFt.out (fun h => by have := h.1; omega))
        repeat' (first | go_values | go_skip | go_guarded | go_step | go_upon)
        go_ret
        exact ⟨ret_b HF.out.symm, Bx.out⟩
      have hc1 : 1 ≤ c := by omega
      clear hq
      by_cases hq : 256 < c
      · have HF := Lib.hid (HFt.out (fun h => by have := h.1; omega))
        repeat' (first | go_values | go_skip | go_guarded | go_step | go_upon)
        go_ret
        exact ⟨ret_b HF.out.symm, Bx.out⟩
      have hc2 : c ≤ 256 := by omega
      clear hq
      by_cases hq : (400000 : Int) < nd
      · have HF := Lib.hid (HFt.out (fun h => by have := h.1; omega))
        repeat' (first | go_values | go_skip | go_guarded | go_step | go_upon)
        go_ret
        exact ⟨ret_b HF.out.symm, Bx.out⟩
      have hc3 : (nd : Int) ≤ 400000 := by omega
      clear hq
      by_cases hq : (nd : Int) < c
      · have HF := Lib.hid (HFt.out (fun h => by have := h.1; omega))
        repeat' (first | go_values | go_skip | go_guarded | go_step | go_upon)
        go_ret
        exact ⟨ret_b HF.out.symm, Bx.out⟩
      have hc4 : c ≤ (nd : Int) := by omega
      clear hq
      have htm : (nd : Int).tmod c = (nd : Int) % c := Int.tmod_eq_emod_of_nonneg (by omega)
      have hc0 : (c == 0) = false := beq_false_of_ne (by omega)
      obtain ⟨r, hr⟩ : ∃ r, r = (nd : Int) % c := ⟨_, rfl⟩
      rw [← hr] at htm
      by_cases hq : r = 0
      rotate_left
      · have HF := Lib.hid (HFt.out (fun h => by have := h.1; omega))
        have hr1 : (r != 0) = true := by simpa using hq
        clear hq hr
        repeat' (first | go_values | go_skip | go_guarded | go_step | go_upon)
        go_ret
        exact ⟨ret_b HF.out.symm, Bx.out⟩
      have hr1 : (r != 0) = false := by simpa using hq
      have Hr := Lib.hid (hr.symm.trans hq)
      clear hq hr
      repeat' (first | go_values | go_skip | go_guarded | go_step | go_upon)
      refine Calls.mono (HN.out _ Rx.out) ?_
      rintro _ w5 ⟨rfl, hb5⟩
      dsimp only
      have P5 := Lib.hid (Px.out.keep hb5)
      have B5 := Lib.hid (Bx.out.trans (hb5.mono Bx.out.size))
      clear hb5 Px Bx Rx HT t0 t1
      cases al with
      | false =>
        have HF := Lib.hid (HFt.out fun h => by cases h.2)
        repeat' (first | go_values | go_skip | go_guarded | go_step | go_upon)
        go_ret
        exact ⟨ret_b HF.out.symm, B5.out⟩
      | true =>
        have Hok := Lib.hid (Htab.out.2 ⟨⟨hc1, hc2, hc4, by omega, Hr.out⟩, rfl⟩)
        repeat' (first | go_values | go_skip | go_guarded | go_step | go_upon)
        go_roundw
        case rel => exact ⟨k + 1, by go_num, hlt, Lib.hid fun i hi => by
          rcases Nat.lt_or_ge i k with h1 | h1
          · exact Ha.out i h1
          · obtain rfl : i = k := by omega
            rw [Hdg.out]; exact Hok.out, P5, B5⟩
        case measure => simp [intOf]; omega
    · obtain rfl : k = nt := by omega
      obtain ⟨c0, c1, c2, c3, c4, c5, c6, c7, c8, c9⟩ := P.out.ten
      dsimp only at c4 c5 c6 c7 c8 c9
      have hrx : RowOf strC 1 wr (.slice ax nx cx) p.texts := HH.out.texts.keep Bb.out
      have HX := Lib.hid (any_texts p.texts HH.out.tl (.slice ax nx cx) wr hrx)
      obtain ⟨al, hal⟩ : ∃ c, c = p.texts.all fun x => decide (x.length ≤ 4096) := ⟨_, rfl⟩
      rw [← hal] at HX
      have HFx : Hid (al = false → B = false) := Lib.hid fun h => Hf.out fun hB => by
        have := (Hiff.out.1 hB).2.2.2.2.2.2.1
        rw [← hal, h] at this; cases this
      have Hal := Lib.hid hal
      have Htabs : Hid (p.tabs.all tabOk = true) := Lib.hid (by
        rw [List.all_eq_true]
        intro x hx
        obtain ⟨i, hi, rfl⟩ := List.getElem_of_mem hx
        have := Ha.out i (by rw [Hnt.out, Htl.out]; exact hi)
        rwa [getD_some (List.getElem?_eq_getElem hi)] at this)
      clear hrx hal Ha Hct Htr Htl Hnt Hlin
      repeat' (first | go_values | go_skip | go_guarded | go_step | go_upon)
      refine Calls.mono (HX.out) ?_
      rintro _ w6 ⟨rfl, hb6⟩
      dsimp only
      have P6 := Lib.hid (P.out.keep hb6)
      have B6 := Lib.hid (Bb.out.trans (hb6.mono Bb.out.size))
      clear hb6 P Bb c0 c1 c2 c3 c4 c5 c6 c7 c8 c9 HX
      cases al with
      | false =>
        have HF := Lib.hid (HFx.out rfl)
        repeat' (first | go_values | go_skip | go_guarded | go_step | go_upon)
        go_ret
        exact ⟨ret_b HF.out.symm, B6.out⟩
      | true =>
        obtain ⟨c0, c1, c2, c3, c4, c5, c6, c7, c8, c9⟩ := P6.out.ten
        dsimp only at c4 c5 c6 c7 c8 c9
        have HV := Lib.hid (any_vals p _ _ ⟨hl1, hl2⟩ p.hash.vals HH.out.hash.vb vv w6 P6.out (HH.out.hash.vals.keep B6.out))
        obtain ⟨av, hav⟩ : ∃ c, c = p.hash.vals.all (valOk p.signs) := ⟨_, rfl⟩
        rw [← hav] at HV
        have HF : Hid (B = av) := Lib.hid (by
          rw [Bool.eq_iff_iff, Hiff.out]
          exact ⟨fun h => by rw [hav]; exact h.2.2.2.2.2.2.2, fun h => ⟨hs1, hs2, hs3, Hlo.out, hs4, Htabs.out, Hal.out.symm, by rw [← hav]; exact h⟩⟩)
        clear hav
        repeat' (first | go_values | go_skip | go_guarded | go_step | go_upon)
        refine Calls.mono (HV.out) ?_
        rintro _ w7 ⟨rfl, hb7⟩
        dsimp only
        repeat' (first | go_values | go_skip | go_guarded | go_step | go_upon)
        go_ret
        exact ⟨ret_b (by rw [HF.out]), B6.out.trans (hb7.mono B6.out.size)⟩
end Go.Proofs.Ytkpdcejnanhgoaa
/- Walks: whether a program's data may be, by the reference. Condition: the program lies in memory. -/
namespace Go.Proofs.Ytkpdcejnanhgoaa
open Go.RowKit
end Go.Proofs.Ytkpdcejnanhgoaa
