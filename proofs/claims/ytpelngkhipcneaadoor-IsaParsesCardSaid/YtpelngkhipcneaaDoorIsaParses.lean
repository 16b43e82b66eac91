/- Walk: the statement IsaParses. Conditions: the library's variables are as they are laid. -/
import Derived.Test.YtpelngkhipcneaaDoorIsaRefParse
namespace Go.Proofs.YtpelngkhipcneaaDoor
open Go.RowKit
set_option maxRecDepth 100000 in
set_option maxHeartbeats 4000000 in
theorem walk_IsaParses (t : List UInt8) (hs : t.length ≤ 1000000000000000) (w : World) (hT : TabR w) :
    Calls Tryd.prog 4 #[.string ⟨t.toArray⟩] w fun e w' => e = .returned (.bool true) ∧ Below w.heap.size w w' := by
  have hsz := sz_arr t
  have HT := Lib.hid hT
  clear hT
  have HY := Lib.hid fun w hT => isa_Parse t hs w hT
  have HZ := Lib.hid fun w => ref_Parse t hs w
  by_cases h1 : 20000 < t.length ∧ t.length ≤ 262144
  · obtain ⟨h1, h2⟩ := h1
    clear HY HZ hs
    go_enter Tryd.func4, Tryd.ntmps4
    repeat' (first | go_values | go_skip | go_guarded | go_step | go_upon)
    go_ret
    exact ⟨rfl, Below.refl _ _⟩
  generalize parseI t = y at HY HZ
  obtain ⟨m, e2, n⟩ := y
  dsimp only at HY HZ
  have hcase : t.length ≤ 20000 ∨ (20000 < t.length ∧ 262144 < t.length) := by omega
  clear h1 hs
  rcases hcase with h1 | ⟨h1, h2⟩
  all_goals
    go_enter Tryd.func4, Tryd.ntmps4
    repeat' (first | go_values | go_skip | go_guarded | go_step | go_upon)
    refine Calls.mono (HY.out _ HT.out) ?_
    rintro _ w1 ⟨v1, rfl, hr1, hb1⟩
    dsimp only
    have R1 := Lib.hid hr1
    have Hb1 := Lib.hid hb1
    clear hr1 hb1
    repeat' (first | go_values | go_skip | go_guarded | go_step | go_upon)
    refine Calls.mono (HZ.out _) ?_
    rintro _ w2 ⟨v2, rfl, hr2, hb2⟩
    dsimp only
    have R2 := Lib.hid hr2
    have R1' := Lib.hid (R1.out.keep hb2)
    have Hb2 := Lib.hid (Hb1.out.trans (hb2.mono Hb1.out.size))
    clear hr2 hb2 R1 Hb1
    repeat' (first | go_values | go_skip | go_guarded | go_step | go_upon)
    refine Calls.mono (rg_Like v1 v2 m _ R1'.out R2.out) ?_
    rintro _ w3 ⟨rfl, hb3⟩
    dsimp only
    repeat' (first | go_values | go_skip | go_guarded | go_step | go_upon)
    go_ret
    exact ⟨rfl, Hb2.out.trans (hb3.mono Hb2.out.size)⟩
theorem law_IsaParses (w : World) (s : ByteArray) (hs : s.size ≤ 140737488351232) (hT : TabR w) :
    Calls Tryd.prog 4 #[.string s] w fun e w' => e = .returned (.bool true) ∧ Below w.heap.size w w' := by
  obtain ⟨t, rfl⟩ := ba_listI s
  rw [arrI_size] at hs
  exact walk_IsaParses t (by omega) w hT
end Go.Proofs.YtpelngkhipcneaaDoor
