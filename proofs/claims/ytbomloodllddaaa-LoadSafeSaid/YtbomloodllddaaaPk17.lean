/- Walk: whether all instructions may be (isa.right). No conditions. -/
import Derived.Test.YtbomloodllddaaaPk10
import Derived.Test.YtbomloodllddaaaPk15
namespace Go.Proofs.Ytbomloodllddaaa
open Go.RowKit
set_option maxRecDepth 100000 in
set_option maxHeartbeats 1000000 in
theorem isa_right (v : Value) (l : List (Nat → Int)) (w : World) (h : RowOf icL 5 w v l) :
    Calls Try.prog 62 #[v] w fun e w' => e = .returned (.int .i64 (allI l)) ∧ Below w.heap.size w w' := by
  obtain ⟨a, cap, rfl, hcap, hmx, hcell⟩ := h.open icL_len
  obtain ⟨n, hn⟩ : ∃ n, l.length = n := ⟨_, rfl⟩
  have HL := Lib.hid fun h => allI_long (l := l) h
  have HB := Lib.hid fun (h : ¬ 4096 < l.length) k (hk : k < l.length) hb => allI_bad h hk hb
  have HG := Lib.hid fun (h : ¬ 4096 < l.length) ha => allI_good h ha
  rw [hn] at hcap hcell HL HB HG ⊢
  have Hn := Lib.hid hn; clear hn h
  unfold maxLen at hmx
  generalize allI l = G at HL HB HG ⊢
  obtain ⟨N, hN⟩ : ∃ N : Int, N = (n : Int) := ⟨_, rfl⟩
  by_cases hbig : 4096 < N
  · have eG := HL.out (by omega)
    have EG := Lib.hid eG
    clear eG HL HB HG
    have hb2 : (4096 : Int) < n := by omega
    go_enter Try.func62, Try.ntmps62
    repeat' (first | go_values | go_skip | go_guarded | go_step | go_upon)
    go_ret
    exact ⟨ret_i EG.out.symm, Below.refl _ _⟩
  have hN4 : N ≤ 4096 := by omega
  have HB3 := Lib.hid (HB.out (by omega))
  have HG3 := Lib.hid (HG.out (by omega))
  have hb2 : (n : Int) ≤ 4096 := by omega
  have HN := Lib.hid hN
  clear hbig hN HL HB HG
  go_enter Try.func62, Try.ntmps62
  repeat' (first | go_values | go_skip | go_guarded | go_step | go_upon)
  clear hb2
  go_loopw [10] (fun s10 w' => ∃ k : Nat, s10 = .int .i64 k ∧ k ≤ n ∧ Hid ((l.take k).all okI = true) ∧ Hid (Below w.heap.size w w')) (fun s10 _ => n - (intOf s10).toNat)
  case atStart => exact ⟨0, rfl, Nat.zero_le _, Lib.hid rfl, Lib.hid (Below.refl _ _)⟩
  case round =>
    obtain ⟨k, rfl, hk, Hall, Hb⟩ := hrel
    by_cases hlt : k < n
    · rcases hcell with h0 | ⟨b, off, rfl, hbB, hcell⟩
      · omega
      obtain ⟨c0, c1, c2, c3, c4⟩ := Row5p.cells hcell k (by rw [Hn.out]; exact hlt)
      clear hcell
      rw [← Hb.out.cell (show b < w.heap.size from hbB)] at c0 c1 c2 c3 c4
      have Htk := Lib.hid (take_getI l (fun _ => 0) k (by rw [Hn.out]; exact hlt))
      have HB2 := Lib.hid (HB3.out k hlt)
      generalize l.getD k (fun _ => 0) = x at c0 c1 c2 c3 c4 Htk HB2
      have HR := Lib.hid fun w => isa_Right x w
      have hbx : Below wr.heap.size wr (wr.alloc (.cells (ic x) 118)) := (Below.refl _ _).alloc (Nat.le_refl _) _
      by_cases hx : okI x = true
      · rw [hx] at HR
        repeat' (first | go_values | go_skip | go_guarded | go_step | go_upon)
        refine Calls.mono (HR.out _) ?_
        rintro _ w2 ⟨rfl, hb2⟩
        dsimp only
        repeat' (first | go_values | go_skip | go_guarded | go_step | go_upon)
        go_roundw
        case rel => exact ⟨k + 1, by go_num, hlt, Lib.hid (by rw [Htk.out, List.all_append, Hall.out]; simp [hx]), Lib.hid (Hb.out.trans ((hbx.trans (hb2.mono hbx.size)).mono Hb.out.size))⟩
        case measure => simp [intOf]; omega
      · have hx' : okI x = false := by simpa using hx
        have EG := Lib.hid (HB2.out hx')
        rw [hx'] at HR
        clear hx HB2
        repeat' (first | go_values | go_skip | go_guarded | go_step | go_upon)
        refine Calls.mono (HR.out _) ?_
        rintro _ w2 ⟨rfl, hb2⟩
        dsimp only
        repeat' (first | go_values | go_skip | go_guarded | go_step | go_upon)
        go_ret
        exact ⟨ret_i EG.out.symm, Hb.out.trans ((hbx.trans (hb2.mono hbx.size)).mono Hb.out.size)⟩
    · obtain rfl : k = n := by omega
      have EG := Lib.hid (HG3.out (by have := Hall.out; rwa [← Hn.out, List.take_length] at this))
      repeat' (first | go_values | go_skip | go_guarded | go_step | go_upon)
      go_ret
      exact ⟨ret_i EG.out.symm, Hb.out⟩
end Go.Proofs.Ytbomloodllddaaa
