/- Walks: the statements PackBack, PackOnce, PackTorn. No conditions beyond the statements' own. -/
import Derived.Test.YtpalafbapehodaaPackGets
import Derived.Test.YtpalafbapehodaaPackPuts
import Derived.Test.YtpalafbapehodaaPackLaws
import Derived.Test.YtpalafbapehodaaSumTurned
import Derived.Test.YtpalafbapehodaaCount
namespace Go.Proofs.Ytpalafbapehodaa
open Go.RowKit
theorem law04_alive (w : World) : Calls Try.prog 16 #[] w fun e w' => e = .returned (.bool true) ∧ Below w.heap.size w w' := by
  have h := utf_Count ⟨#[97]⟩ (by decide) w
  rw [count_a] at h
  go_enter Try.func16, Try.ntmps16
  repeat' (first | go_values | go_skip | go_guarded | go_step | go_upon)
  refine Calls.mono (h) ?_
  rintro _ w1 ⟨rfl, hb1⟩
  dsimp only
  repeat' (first | go_values | go_skip | go_guarded | go_step | go_upon)
  go_ret
  exact ⟨rfl, hb1⟩
theorem putP_bad {l : List Sec} (h : (putP l).2 ≠ 0) : (putP l).1 = [] := by
  unfold putP at h ⊢
  split
  · rfl
  · rename_i h1
    rw [if_neg h1] at h
    split
    · rename_i h2; rw [if_pos h2] at h; simp at h
    · rfl
theorem getP_bad {t : List UInt8} (h : (getP t).2 ≠ 0) : (getP t).1 = [] := by
  unfold getP at h ⊢
  split
  · rfl
  rename_i h1; rw [if_neg h1] at h
  split
  · rfl
  rename_i h1; rw [if_neg h1] at h
  split
  · rfl
  rename_i h1; rw [if_neg h1] at h
  split
  · rfl
  rename_i h1; rw [if_neg h1] at h
  split
  · rfl
  rename_i h1; rw [if_neg h1] at h
  dsimp only at h ⊢
  split
  · rfl
  rename_i h1; rw [if_neg h1] at h
  split
  · rfl
  rename_i h1; rw [if_neg h1] at h
  split
  · rfl
  rename_i h1; rw [if_neg h1] at h
  simp at h
theorem putP_len {l : List Sec} (hl : SecsOk l) (h : (putP l).2 = 0) : (putP l).1.length ≤ 10000 + sizeS l ∧ 10 ≤ (putP l).1.length ∧ l.length ≤ 64 ∧ sizeS l ≤ 8388608 ∧ (putP l).1 = packB l ++ put4 (sumOn 0 (packB l)) := by
  unfold putP at h ⊢
  split at h
  · simp at h
  rename_i h1
  rw [if_neg h1]
  split at h
  · rename_i h2
    rw [if_pos h2]
    dsimp only
    have h3 := packTo_len hl (by omega) l.length (Nat.le_refl _)
    rw [packTo_all, List.take_length] at h3
    have h4 : 6 ≤ (packB l).length := by unfold packB; have := vput_pos l.length; simp [begB]; omega
    rw [List.length_append, show (put4 (sumOn 0 (packB l))).length = 4 from rfl]
    exact ⟨by omega, by omega, by omega, by omega, rfl⟩
  · simp at h
set_option maxRecDepth 100000 in
set_option maxHeartbeats 1000000 in
theorem walk_PackBack (v : Value) (l : List Sec) (w : World) (h : RowOf secC 2 w v l) (hl : SecsOk l) :
    Calls Try.prog 6 #[v] w fun e w' => e = .returned (.bool true) ∧ Below w.heap.size w w' := by
  have hws := wsum_i64 l l.length
  have Hsz := Lib.hid (fun w h => law_size v l w h hl)
  have Hp := Lib.hid (fun w h => pack_Put v l w h hl)
  generalize wsum l l.length = y at Hsz hws
  have H := Lib.hid h; clear h
  have Hws := Lib.hid hws; clear hws
  by_cases h1 : 100000 < y
  · go_enter Try.func6, Try.ntmps6
    repeat' (first | go_values | go_skip | go_guarded | go_step | go_upon)
    refine Calls.mono (Hsz.out _ H.out) ?_
    rintro _ w1 ⟨rfl, hb1⟩
    dsimp only
    repeat' (first | go_values | go_skip | go_guarded | go_step | go_upon)
    go_ret
    exact ⟨rfl, hb1⟩
  by_cases hbad : (putP l).2 = 0
  · have hlen := putP_len hl hbad
    have hg := pack_back hl hbad
    have Hg := Lib.hid (fun w => pack_Get (putP l).1 (by omega) w)
    rw [hg] at Hg
    rw [hbad] at Hp
    dsimp only at Hg
    clear hg hbad hlen
    generalize (putP l).1 = x at Hp Hg
    go_enter Try.func6, Try.ntmps6
    repeat' (first | go_values | go_skip | go_guarded | go_step | go_upon)
    refine Calls.mono (Hsz.out _ H.out) ?_
    rintro _ w1 ⟨rfl, hb1⟩
    dsimp only
    have H1 := Lib.hid (H.out.keep hb1)
    repeat' (first | go_values | go_skip | go_guarded | go_step | go_upon)
    refine Calls.mono (Hp.out _ H1.out) ?_
    rintro _ w2 ⟨rfl, hb2⟩
    dsimp only
    have H2 := Lib.hid (H1.out.keep hb2)
    have Hb2 := Lib.hid (hb1.trans (hb2.mono hb1.size))
    clear hb1 hb2 H1
    repeat' (first | go_values | go_skip | go_guarded | go_step | go_upon)
    refine Calls.mono (Hg.out _) ?_
    rintro _ w3 ⟨v3, rfl, hr3, hb3⟩
    dsimp only
    have H3 := Lib.hid (H2.out.keep hb3)
    have Hr3 := Lib.hid hr3
    have Hb3 := Lib.hid (Hb2.out.trans (hb3.mono Hb2.out.size))
    clear hr3 hb3 H2
    repeat' (first | go_values | go_skip | go_guarded | go_step | go_upon)
    refine Calls.mono (ref_Like v v3 l w3 H3.out Hr3.out) ?_
    rintro _ w4 ⟨rfl, hb4⟩
    dsimp only
    repeat' (first | go_values | go_skip | go_guarded | go_step | go_upon)
    go_ret
    exact ⟨rfl, Hb3.out.trans (hb4.mono Hb3.out.size)⟩
  · have he := putP_bad hbad
    rw [he] at Hp
    generalize (putP l).2 = er at Hp hbad
    have hbb : (er != 0) = true := by simpa using hbad
    clear he hbad
    go_enter Try.func6, Try.ntmps6
    repeat' (first | go_values | go_skip | go_guarded | go_step | go_upon)
    refine Calls.mono (Hsz.out _ H.out) ?_
    rintro _ w1 ⟨rfl, hb1⟩
    dsimp only
    have H1 := Lib.hid (H.out.keep hb1)
    repeat' (first | go_values | go_skip | go_guarded | go_step | go_upon)
    refine Calls.mono (Hp.out _ H1.out) ?_
    rintro _ w2 ⟨rfl, hb2⟩
    dsimp only
    repeat' (first | go_values | go_skip | go_guarded | go_step | go_upon)
    go_ret
    exact ⟨rfl, hb1.trans (hb2.mono hb1.size)⟩
theorem law_PackBack (w : World) (v : Value) (n : Nat) (xs : List Value) (h : RdC w.heap.size 2 w v n xs) (_ : n * 24 ≤ 140737488351232) (hf : ∀ i, i < n → FlatOk [.int .u64, .str] ((xs.drop (i * 2)).take 2)) :
    Calls Try.prog 6 #[v] w fun e w' => e = .returned (.bool true) ∧ Below w.heap.size w w' := by
  have hx : xs.length = n * 2 := by obtain ⟨_, _, _, _, _, h, _⟩ := h; exact h
  obtain ⟨l, rfl, rfl, hl⟩ := secs_of hx hf
  exact walk_PackBack v l w h hl
set_option maxRecDepth 100000 in
set_option maxHeartbeats 1000000 in
theorem law_PackOnce (s : ByteArray) (hs : s.size ≤ 140737488351232) (w : World) :
    Calls Try.prog 7 #[.string s] w fun e w' => e = .returned (.bool true) ∧ Below w.heap.size w w' := by
  obtain ⟨t, rfl⟩ := ba_list s
  have hsz := arr_size t
  rw [hsz] at hs
  by_cases h2 : 20000 < t.length
  · go_enter Try.func7, Try.ntmps7
    repeat' (first | go_values | go_skip | go_guarded | go_step | go_upon)
    go_ret
    exact ⟨rfl, Below.refl _ _⟩
  have hsl : (sealB t).length ≤ 1000000000000000 := by simp [sealB, begB, put4]; omega
  have Hse := Lib.hid (fun w => law_sealed t hs w)
  have htl : t.length ≤ 1000000000000000 := by omega
  generalize sealB t = u at hsl Hse
  go_enter Try.func7, Try.ntmps7
  repeat' (first | go_values | go_skip | go_guarded | go_step | go_upon)
  refine Calls.mono (Hse.out _) ?_
  rintro _ w1 ⟨rfl, hb1⟩
  dsimp only
  have Hb1 := Lib.hid hb1
  clear hb1
  have Hx0 : Hid ((w1.alloc (.cells #[.string ⟨t.toArray⟩, .string ⟨u.toArray⟩] 9)).heap[w1.heap.size]? = some (.cells #[.string ⟨t.toArray⟩, .string ⟨u.toArray⟩] 9 (0, 0))) := Lib.hid (Go.heap_alloc_new _ _)
  repeat' (first | go_values | go_skip | go_guarded | go_step | go_upon)
  go_loopw [4, 17] (fun _ s17 w' => ∃ k : Nat, s17 = .int .i64 k ∧ k ≤ 2 ∧ Hid (Below w.heap.size w w') ∧ Hid (w'.heap[w1.heap.size]? = some (.cells #[.string ⟨t.toArray⟩, .string ⟨u.toArray⟩] 9 (0, 0)))) (fun _ s17 _ => 2 - (intOf s17).toNat)
  case atStart => exact ⟨0, rfl, by omega, Lib.hid (Hb1.out.alloc Hb1.out.size _), Hx0⟩
  case round =>
    clear Hx0
    obtain ⟨k, rfl, hk, Hb, Hx⟩ := hrel
    by_cases hlt : k < 2
    · obtain ⟨x, hxl, hc⟩ : ∃ x : List UInt8, x.length ≤ 1000000000000000 ∧ wr.cell? ⟨w1.heap.size, k, none⟩ = some (.string ⟨x.toArray⟩) := by
        rcases (by omega : k = 0 ∨ k = 1) with rfl | rfl
        · exact ⟨t, htl, two_c0 Hx.out⟩
        · exact ⟨u, hsl, two_c1 Hx.out⟩
      have Hg := Lib.hid (fun w => pack_Get x hxl w)
      by_cases hbad : (getP x).2 = 0
      · obtain ⟨hok, hput⟩ := pack_once hbad
        rw [hbad] at Hg
        have Hp := Lib.hid (fun v w h => pack_Put v (getP x).1 w h hok)
        rw [hput] at Hp
        dsimp only at Hp
        clear hput hok hbad
        generalize (getP x).1 = l at Hg Hp
        repeat' (first | go_values | go_skip | go_guarded | go_step | go_upon)
        refine Calls.mono (Hg.out _) ?_
        rintro _ w2 ⟨v2, rfl, hr2, hb2⟩
        dsimp only
        have Hr2 := Lib.hid hr2
        have Hx2 := Lib.hid (heap_keep Hx.out hb2)
        have Hb2 := Lib.hid (Hb.out.trans (hb2.mono Hb.out.size))
        clear hr2 hb2 hc Hx Hb
        repeat' (first | go_values | go_skip | go_guarded | go_step | go_upon)
        refine Calls.mono (Hp.out v2 _ Hr2.out) ?_
        rintro _ w3 ⟨rfl, hb3⟩
        dsimp only
        have Hx3 := Lib.hid (heap_keep Hx2.out hb3)
        have Hb3 := Lib.hid (Hb2.out.trans (hb3.mono Hb2.out.size))
        repeat' (first | go_values | go_skip | go_guarded | go_step | go_upon)
        go_roundw
        case rel => exact ⟨k + 1, by go_num, hlt, Hb3, Hx3⟩
        case measure => simp [intOf]; omega
      · have hnil := getP_bad hbad
        rw [hnil] at Hg
        generalize (getP x).2 = er at Hg hbad
        have hbb : (er != 0) = true := by simpa using hbad
        clear hnil hbad
        repeat' (first | go_values | go_skip | go_guarded | go_step | go_upon)
        refine Calls.mono (Hg.out _) ?_
        rintro _ w2 ⟨v2, rfl, hr2, hb2⟩
        dsimp only
        obtain ⟨a, cap, rfl, _⟩ := hr2.open secC_len
        have Hx2 := Lib.hid (heap_keep Hx.out hb2)
        have Hb2 := Lib.hid (Hb.out.trans (hb2.mono Hb.out.size))
        clear hr2 hb2 hc Hx Hb
        repeat' (first | go_values | go_skip | go_guarded | go_step | go_upon)
        go_roundw
        case rel => exact ⟨k + 1, by go_num, hlt, Hb2, Hx2⟩
        case measure => simp [intOf]; omega
    · obtain rfl : k = 2 := by omega
      repeat' (first | go_values | go_skip | go_guarded | go_step | go_upon)
      go_ret
      exact ⟨rfl, Hb.out⟩
theorem num_put4 (n : Nat) (h : n < 4294967296) : num (put4 n) = n := by
  have e2 : n / 256 / 256 = n / 65536 := by omega
  have e3 : n / 65536 / 256 = n / 16777216 := by omega
  have e4 : n / 16777216 / 256 = 0 := by omega
  have h1 := xor_low8 (n / 16777216)
  have h2 := xor_low8 (n / 65536)
  have h3 := xor_low8 (n / 256)
  rw [e4] at h1; rw [e3] at h2; rw [e2] at h3
  unfold put4
  rw [num, num, num, num, num, u8_toNat, u8_toNat, u8_toNat, u8_toNat, h1, h2, h3, xor_low8]
/-- what the register is behind any text with its sum behind it -/
theorem reg_sealed (u : List UInt8) : reg (inv32 0) (u ++ put4 (sumOn 0 u)) = stps 32 4294967295 := by
  have hl := reg_lt (inv32_lt 0) u
  rw [reg_append, reg_num (put4 _), num_put4 _ (sumOn_lt 0 u), show 8 * (put4 (sumOn 0 u)).length = 32 from rfl]
  congr 1
  unfold sumOn
  rw [inv32_xor hl, Nat.xor_comm 4294967295, xor_same]
theorem sum_sealed (u : List UInt8) : sumOn 0 (u ++ put4 (sumOn 0 u)) = inv32 (stps 32 4294967295) := by
  conv => lhs; unfold sumOn
  exact congrArg inv32 (reg_sealed u)
theorem IsTurned.alike {s t : List UInt8} {k : Nat} (h : IsTurned s t k 32) (hk : k ≤ 8 * s.length) (c : Nat) (he : sumOn c s = sumOn c t) : s = t := by
  obtain ⟨h1, q, h2, h3⟩ := h
  exact burst h1.symm h2 h3 hk he
/-- a bit's place: any int, made one that is not less than 0 -/
def place (a : Int) : Int := if a < 0 then -(a + 1) else a
theorem pack_torn {x t : List UInt8} {k : Nat} (h : IsTurned (x ++ put4 (sumOn 0 x)) t k 32) (hk : k ≤ 8 * (x ++ put4 (sumOn 0 x)).length) (hl : 9 ≤ (x ++ put4 (sumOn 0 x)).length) : x ++ put4 (sumOn 0 x) = t ∨ (getP t).2 = 41 ∨ (getP t).2 = 40 := by
  have htl := h.1
  unfold getP
  rw [if_neg (by omega)]
  by_cases h5 : t.take 5 ≠ begB
  · rw [if_pos h5]; exact .inr (.inr rfl)
  rw [if_neg h5]
  by_cases h4 : t.drop (t.length - 4) ≠ put4 (sumOn 0 (t.take (t.length - 4)))
  · rw [if_pos h4]; exact .inr (.inl rfl)
  left
  have h4' : t.drop (t.length - 4) = put4 (sumOn 0 (t.take (t.length - 4))) := by simpa using h4
  refine h.alike hk 0 ?_
  have e : t = t.take (t.length - 4) ++ put4 (sumOn 0 (t.take (t.length - 4))) := by rw [← h4', List.take_append_drop]
  rw [sum_sealed, e, sum_sealed]
end Go.Proofs.Ytpalafbapehodaa
