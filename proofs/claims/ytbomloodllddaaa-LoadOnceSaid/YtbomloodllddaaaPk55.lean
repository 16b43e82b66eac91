/- Walk: the statement LoadOnce. Conditions: a text of at most 2^47 bytes, a row of sections. -/
import Derived.Test.YtbomloodllddaaaPk50
import Derived.Test.YtbomloodllddaaaPk54
namespace Go.Proofs.Ytbomloodllddaaa
open Go.RowKit
theorem row_two (w : World) (x1 x2 : ByteArray) (e : TypeId) (k : Nat) (hk : k < 2) : (w.alloc (.cells #[.string x1, .string x2] e)).cell? ⟨w.heap.size, k, none⟩ = some (.string (if k = 0 then x1 else x2)) := by
  rw [cell_of_row _ w.heap.size k _ e (0, 0) (Go.heap_alloc_new w _)]
  rcases (show k = 0 ∨ k = 1 from by omega) with rfl | rfl <;> rfl
set_option maxRecDepth 100000 in
set_option maxHeartbeats 2000000 in
theorem walk_LoadOnce (s : List UInt8) (hs : s.length ≤ 140737488351232) (v : Value) (l : List Sec) (w : World) (h : RowOf secC 2 w v l) (hl : SecsOk l) :
    Calls Try.prog 6 #[.string ⟨s.toArray⟩, v] w fun e w' => e = .returned (.bool true) ∧ Below w.heap.size w w' := by
  have hsz := arr_size s
  by_cases h1 : 100000 < s.length
  · have h2 : (100000 : Int) < s.length := by omega
    go_enter Try.func6, Try.ntmps6
    repeat' (first | go_values | go_skip | go_guarded | go_step | go_upon)
    go_ret
    exact ⟨rfl, Below.refl _ _⟩
  have h2 : ¬ (100000 : Int) < s.length := by omega
  have Hp := Lib.hid (rp_Put v l w h hl)
  have htl : (putP l).1.length ≤ 8500000 := by
    by_cases hb : (putP l).2 = 0
    · obtain ⟨a1, _, _, a4, _⟩ := putP_len hl hb; omega
    · rw [putP_bad hb]; simp
  generalize putP l = G at Hp htl
  obtain ⟨t, e0⟩ := G
  dsimp only at Hp htl
  have hs1 : s.length ≤ 100000 := by omega
  clear h h1 hl hs
  go_enter Try.func6, Try.ntmps6
  repeat' (first | go_values | go_skip | go_guarded | go_step | go_upon)
  refine Calls.mono (Hp.out) ?_
  rintro _ w1 ⟨rfl, hb1⟩
  dsimp only
  have Hb1 := Lib.hid hb1
  clear Hp hb1
  obtain ⟨gb, hgb⟩ : ∃ b, b = w1.heap.size := ⟨_, rfl⟩
  have Hc : Hid (∀ k, k < 2 → (w1.alloc (.cells #[.string ⟨s.toArray⟩, .string ⟨t.toArray⟩] 9)).cell? ⟨gb, k, none⟩ = some (.string (if k = 0 then ⟨s.toArray⟩ else ⟨t.toArray⟩))) := Lib.hid fun k hk => by rw [hgb]; exact row_two w1 _ _ _ k hk
  have Hb2 : Hid (Below w.heap.size w (w1.alloc (.cells #[.string ⟨s.toArray⟩, .string ⟨t.toArray⟩] 9))) := Lib.hid (Hb1.out.trans ((Below.refl _ _).alloc Hb1.out.size _))
  repeat' (first | go_values | go_skip | go_guarded | go_step | go_upon)
  obtain ⟨wA, hwA⟩ : ∃ x, x = w1.alloc (.cells #[.string ⟨s.toArray⟩, .string ⟨t.toArray⟩] 9) := ⟨_, rfl⟩
  rw [← hwA] at Hc Hb2 ⊢
  rw [← hgb]
  have HA : Hid (Below wA.heap.size wA wA) := Lib.hid (Below.refl _ _)
  clear hwA hgb Hb1
  go_loopw [25] (fun s25 wr => ∃ k : Nat, s25 = .int .i64 k ∧ k ≤ 2 ∧ Hid (Below wA.heap.size wA wr)) (fun s25 _ => 2 - (intOf s25).toNat)
  case atStart => exact ⟨0, rfl, Nat.zero_le _, HA⟩
  case round =>
    clear HA
    obtain ⟨k, rfl, hk, Hb⟩ := hrel
    by_cases hlt : k < 2
    · obtain ⟨x, hx, hxl⟩ : ∃ x : List UInt8, (if k = 0 then (⟨s.toArray⟩ : ByteArray) else ⟨t.toArray⟩) = ⟨x.toArray⟩ ∧ x.length ≤ 8500000 := by
        by_cases hk0 : k = 0
        · exact ⟨s, by rw [if_pos hk0], by omega⟩
        · exact ⟨t, by rw [if_neg hk0], htl⟩
      have hc0 := Hc.out k hlt
      rw [hx] at hc0
      have hc : wr.cell? ⟨gb, k, none⟩ = some (.string ⟨x.toArray⟩) := by rw [Hb.out.cell (cell_lt hc0)]; exact hc0
      have HD := Lib.hid (load_Decode x (by omega))
      have HO : Hid ((decI x).2 = 0 → encI (decI x).1 = (x, 0)) := Lib.hid fun h => dec_once (Prod.ext rfl h)
      generalize decI x = D at HD HO
      obtain ⟨P, f⟩ := D
      dsimp only at HD HO
      clear hx hc0
      repeat' (first | go_values | go_skip | go_guarded | go_step | go_upon)
      refine Calls.mono (HD.out _) ?_
      rintro _ w3 ⟨pv, rfl, hp3, hb3⟩
      dsimp only
      have hone := pgA_one hp3.at'
      have HP3 := Lib.hid hp3
      have HB3 := Lib.hid (Hb.out.trans (hb3.mono Hb.out.size))
      clear hp3 hb3 Hb HD hc
      repeat' (go_not_at_region 8; first | (with_reducible refine store_new_pg _ _ rfl rfl rfl rfl rfl hone ?_) | go_values | go_skip | go_guarded | go_step | go_upon)
      have hb4 : Below w3.heap.size w3 (w3.alloc (.cells (pgC P pv) 30)) := (Below.refl _ _).alloc (Nat.le_refl _) _
      refine gen_wd (fun W => PBox W w3.heap.size P pv ∧ PrgAt W pv P ∧ Below wA.heap.size wA W) ⟨PBox.new _ _ _, HP3.out.at'.keep hb4, HB3.out.trans (hb4.mono HB3.out.size)⟩ ?_
      clear HP3 HB3 hb4 hone
      rintro w4 ⟨hq4, hp4, hb4⟩
      have HQ := Lib.hid hq4
      have HP := Lib.hid hp4
      have HB := Lib.hid hb4
      clear hq4 hp4 hb4
      by_cases hf : f = 0
      rotate_left
      · have e1 : (f != 0) = true := by rw [bne_iff_ne]; exact hf
        clear hf HO
        repeat' (first | go_values | go_skip | go_guarded | go_step | go_upon)
        go_roundw
        case rel => exact ⟨k + 1, by go_num, by omega, HB⟩
        case measure => simp [intOf]; omega
      · subst hf
        have hE := Lib.hid (load_Encode P pv w4 HP.out)
        rw [HO.out rfl] at hE
        have hcs : (x == t) = true ∨ (x == t) = false := by cases (x == t) <;> simp
        have hce : (e0 != 0) = true ∨ (e0 != 0) = false := by cases (e0 != 0) <;> simp
        rcases hcs with hcs | hcs
        · rcases hce with hce | hce
          · repeat' (first | go_values | go_skip | go_guarded | go_step | go_upon)
            go_roundw
            case rel => exact ⟨k + 1, by go_num, by omega, HB⟩
            case measure => simp [intOf]; omega
          · repeat' (first | (with_reducible refine load_pg HQ.out _ rfl rfl ?_) | go_values | go_skip | go_guarded | go_step | go_upon)
            refine Calls.mono (hE.out) ?_
            rintro _ w5 ⟨rfl, hb5⟩
            dsimp only
            have HB5 := Lib.hid (HB.out.trans (hb5.mono HB.out.size))
            clear hb5 HB hE
            repeat' (first | go_values | go_skip | go_guarded | go_step | go_upon)
            go_roundw
            case rel => exact ⟨k + 1, by go_num, by omega, HB5⟩
            case measure => simp [intOf]; omega
        · repeat' (first | (with_reducible refine load_pg HQ.out _ rfl rfl ?_) | go_values | go_skip | go_guarded | go_step | go_upon)
          refine Calls.mono (hE.out) ?_
          rintro _ w5 ⟨rfl, hb5⟩
          dsimp only
          have HB5 := Lib.hid (HB.out.trans (hb5.mono HB.out.size))
          clear hb5 HB hE
          repeat' (first | go_values | go_skip | go_guarded | go_step | go_upon)
          go_roundw
          case rel => exact ⟨k + 1, by go_num, by omega, HB5⟩
          case measure => simp [intOf]; omega
    · obtain rfl : k = 2 := by omega
      repeat' (first | go_values | go_skip | go_guarded | go_step | go_upon)
      go_ret
      exact ⟨rfl, Hb2.out.trans (Hb.out.mono Hb2.out.size)⟩
theorem law_LoadOnce (w : World) (s : ByteArray) (hs : s.size ≤ 140737488351232) (v : Value) (n : Nat) (xs : List Value) (h : RdC w.heap.size 2 w v n xs) (_ : n * 24 ≤ 140737488351232) (hf : ∀ i, i < n → FlatOk [.int .u64, .str] ((xs.drop (i * 2)).take 2)) :
    Calls Try.prog 6 #[.string s, v] w fun e w' => e = .returned (.bool true) ∧ Below w.heap.size w w' := by
  obtain ⟨t, rfl⟩ := ba_list s
  have hsz := arr_size t
  rw [hsz] at hs
  have hx : xs.length = n * 2 := by obtain ⟨_, _, _, _, _, h, _⟩ := h; exact h
  obtain ⟨l, rfl, rfl, hl⟩ := secs_of hx hf
  exact walk_LoadOnce t hs v l w h hl
end Go.Proofs.Ytbomloodllddaaa
