/- Walk: the statement VerifyFaults. Conditions: the program lies in memory, its numbers are ints, its keys few enough. -/
import Derived.Test.YtkpdcejnanhgoaaPk18
import Derived.Test.YtkpdcejnanhgoaaPk23
import Derived.Test.YtkpdcejnanhgoaaPk02
namespace Go.Proofs.Ytkpdcejnanhgoaa
open Go.RowKit
theorem ba_listF (s : ByteArray) : ∃ l : List UInt8, s = ⟨l.toArray⟩ := ⟨s.data.toList, by apply ByteArray.ext; apply Array.ext'; simp⟩
theorem law23_alive (w : World) : Calls Try.prog 10 #[] w fun e w' => e = .returned (.bool true) ∧ Below w.heap.size w w' := by
  have h := utf_Count ⟨#[97]⟩ (by decide) w
  rw [count_a] at h
  go_enter Try.func10, Try.ntmps10
  repeat' (first | go_values | go_skip | go_guarded | go_step | go_upon)
  refine Calls.mono (h) ?_
  rintro _ w1 ⟨rfl, hb1⟩
  dsimp only
  repeat' (first | go_values | go_skip | go_guarded | go_step | go_upon)
  go_ret
  exact ⟨rfl, hb1⟩
set_option maxRecDepth 100000 in
set_option maxHeartbeats 4000000 in
theorem law_VerifyFaults (w : World) (p : Prg) (v : PV) (H : PrgAt w v p) (h64 : P64 p) (hk : p.hash.keys.length ≤ 35184372088832) (s : ByteArray) (_ : s.size ≤ 140737488351232) (f : Int) (_ : I64 f) :
    Calls Try.prog 5 #[pgV p v, .string s, .int .i64 f] w fun e w' => e = .returned (.bool true) ∧ Below w.heap.size w w' := by
  obtain ⟨s, rfl⟩ := ba_listF s
  have HH := Lib.hid H
  have HA := Lib.hid fun w H => ver_Check p v w H
  have HR := Lib.hid fun w f H => vm_Run p v w s f H h64 hk
  have hck : (checkI p).1 = 0 → checkI p = (0, 0) := check_zero
  have hpl := check_place p
  obtain ⟨ac, cc, hvc, _, _, _⟩ := H.code.open icL_len
  obtain ⟨vc, vt, vx, vs, vk, vv⟩ := v
  dsimp only at hvc
  subst hvc
  obtain ⟨n, hn⟩ : ∃ n, n = p.code.length := ⟨_, rfl⟩
  rw [← hn] at HH HA HR hpl ⊢
  have HP : Hid (PBox (w.alloc (.cells (pgC p ⟨.slice ac n cc, vt, vx, vs, vk, vv⟩) 45)) w.heap.size p ⟨.slice ac n cc, vt, vx, vs, vk, vv⟩) := Lib.hid (PBox.new _ _ _)
  have Hb0 : Hid (Below w.heap.size w (w.alloc (.cells (pgC p ⟨.slice ac n cc, vt, vx, vs, vk, vv⟩) 45))) := Lib.hid ((Below.refl _ _).alloc (Nat.le_refl _) _)
  obtain ⟨c1, hc1⟩ : ∃ c, c = (checkI p).1 := ⟨_, rfl⟩
  obtain ⟨c2, hc2⟩ : ∃ c, c = (checkI p).2 := ⟨_, rfl⟩
  rw [← hc1] at HA hck
  rw [← hc2] at HA hpl
  have Hck := Lib.hid hck
  have Hpl := Lib.hid hpl
  clear hc1 hc2 hn hck hpl H h64 hk
  go_enter Try.func5, Try.ntmps5
  repeat' (first | go_values | go_skip | go_guarded | go_step | go_upon)
  refine Calls.mono (law23_alive _) ?_
  rintro _ w0 ⟨rfl, hb0⟩
  dsimp only
  have P0 := Lib.hid (HP.out.keep hb0)
  have B0 := Lib.hid (Hb0.out.trans (hb0.mono Hb0.out.size))
  clear hb0 HP Hb0
  repeat' (first | (with_reducible refine load_pg P0.out _ rfl rfl ?_) | go_values | go_skip | go_guarded | go_step | go_upon)
  refine Calls.mono (HR.out _ _ (HH.out.keep B0.out)) ?_
  rintro _ w1 ⟨u, en, used, l, rfl, hl1, hl2, hl3, hl4, hl5, hl6, hb1⟩
  dsimp only
  have Hen : Hid (checkI p = (0, 0) → en ≠ 3) := Lib.hid hl6
  have P1 := Lib.hid (P0.out.keep hb1)
  have B1 := Lib.hid (B0.out.trans (hb1.mono B0.out.size))
  clear hl1 hl2 hl3 hl4 hl5 hl6 hb1 P0 B0 HR
  repeat' (first | (with_reducible refine load_pg P1.out _ rfl rfl ?_) | go_values | go_skip | go_guarded | go_step | go_upon)
  refine Calls.mono (HA.out _ (HH.out.keep B1.out)) ?_
  rintro _ w2 ⟨rfl, hb2⟩
  dsimp only
  have P2 := Lib.hid (P1.out.keep hb2)
  have B2 := Lib.hid (B1.out.trans (hb2.mono B1.out.size))
  clear hb2 P1 B1 HA HH
  by_cases h3 : en = 3
  · subst h3
    have hne : c1 ≠ 0 := fun h => Hen.out (Hck.out h) rfl
    have hne' : (c1 != 0) = true := by rw [bne_iff_ne]; exact hne
    obtain ⟨p1, p2⟩ := Hpl.out
    obtain ⟨d0, d1, d2, d3, d4, _⟩ := P2.out.ten
    clear hne Hen Hck Hpl
    by_cases h1 : (n : Int) < 1
    · have p3 : c2 < 1 := by omega
      repeat' (first | go_values | go_skip | go_guarded | go_step | go_upon)
      go_ret
      exact ⟨rfl, B2.out⟩
    · have p3 : c2 < (n : Int) := by omega
      repeat' (first | go_values | go_skip | go_guarded | go_step | go_upon)
      go_ret
      exact ⟨rfl, B2.out⟩
  · have hne : (en != 3) = true := by rw [bne_iff_ne]; exact h3
    clear Hen Hck Hpl h3
    repeat' (first | go_values | go_skip | go_guarded | go_step | go_upon)
    go_ret
    exact ⟨rfl, B2.out⟩
end Go.Proofs.Ytkpdcejnanhgoaa
