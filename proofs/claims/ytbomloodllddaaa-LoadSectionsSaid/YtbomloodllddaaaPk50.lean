/- Walk: the statement LoadSections. Condition: a row of sections. -/
import Derived.Test.YtbomloodllddaaaPk49
import Derived.Test.YtbomloodllddaaaPk33
namespace Go.Proofs.Ytbomloodllddaaa
open Go.RowKit
set_option maxRecDepth 100000 in
set_option maxHeartbeats 2000000 in
theorem walk_LoadSections (v : Value) (l : List Sec) (w : World) (h : RowOf secC 2 w v l) (hl : SecsOk l) :
    Calls Try.prog 5 #[v] w fun e w' => e = .returned (.bool true) ∧ Below w.heap.size w w' := by
  have Hp := Lib.hid (rp_Put v l w h hl)
  generalize putP l = G at Hp
  obtain ⟨t, e0⟩ := G
  dsimp only at Hp
  have HR := Lib.hid fun w => walk_LoadReads t w
  clear h hl
  go_enter Try.func5, Try.ntmps5
  repeat' (first | go_values | go_skip | go_guarded | go_step | go_upon)
  refine Calls.mono (Hp.out) ?_
  rintro _ w1 ⟨rfl, hb1⟩
  dsimp only
  have B1 := Lib.hid hb1
  clear Hp hb1
  by_cases h0 : e0 = 0
  · subst h0
    repeat' (first | go_values | go_skip | go_guarded | go_step | go_upon)
    refine Calls.mono (HR.out _) ?_
    rintro _ w2 ⟨rfl, hb2⟩
    dsimp only
    have B2 := Lib.hid (B1.out.trans (hb2.mono B1.out.size))
    clear hb2 B1
    repeat' (first | go_values | go_skip | go_guarded | go_step | go_upon)
    go_ret
    exact ⟨rfl, B2.out⟩
  · have e1 : (e0 != 0) = true := by rw [bne_iff_ne]; exact h0
    clear h0
    repeat' (first | go_values | go_skip | go_guarded | go_step | go_upon)
    go_ret
    exact ⟨rfl, B1.out⟩
theorem law_LoadSections (w : World) (v : Value) (n : Nat) (xs : List Value) (h : RdC w.heap.size 2 w v n xs) (_ : n * 24 ≤ 140737488351232) (hf : ∀ i, i < n → FlatOk [.int .u64, .str] ((xs.drop (i * 2)).take 2)) :
    Calls Try.prog 5 #[v] w fun e w' => e = .returned (.bool true) ∧ Below w.heap.size w w' := by
  have hx : xs.length = n * 2 := by obtain ⟨_, _, _, _, _, h, _⟩ := h; exact h
  obtain ⟨l, rfl, rfl, hl⟩ := secs_of hx hf
  exact walk_LoadSections v l w h hl
end Go.Proofs.Ytbomloodllddaaa
