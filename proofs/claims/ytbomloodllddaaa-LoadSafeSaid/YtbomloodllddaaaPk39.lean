/- Walk: the statement LoadTorn. Condition: the program lies in memory. -/
import Derived.Test.YtbomloodllddaaaPk38
import Derived.Test.YtbomloodllddaaaPk37
import Derived.Test.YtbomloodllddaaaPk27
namespace Go.Proofs.Ytbomloodllddaaa
open Go.RowKit
theorem law25_alive (w : World) : Calls Try.prog 19 #[] w fun e w' => e = .returned (.bool true) ∧ Below w.heap.size w w' := by
  have h := utf_Count ⟨#[97]⟩ (by decide) w
  rw [count_a] at h
  go_enter Try.func19, Try.ntmps19
  repeat' (first | go_values | go_skip | go_guarded | go_step | go_upon)
  refine Calls.mono (h) ?_
  rintro _ w1 ⟨rfl, hb1⟩
  dsimp only
  repeat' (first | go_values | go_skip | go_guarded | go_step | go_upon)
  go_ret
  exact ⟨rfl, hb1⟩
theorem enc_bad {p : Prg} (h : (encI p).2 ≠ 0) : (encI p).1 = [] := by
  unfold encI at h ⊢
  split
  · rfl
  · rename_i h1
    rw [if_neg h1] at h
    exact putP_bad h
theorem hash_u64 {w : World} {vs vk vv : Value} {h : HashP} (H : HashAt w vs vk vv h) : AllU64 h.seeds ∧ AllU64 h.keys ∧ AllU64 h.vals :=
  ⟨getD_u64 fun k => u64_small (by have := H.sb k; omega), getD_u64 H.kb, getD_u64 H.vb⟩
theorem enc_zero {p : Prg} (h : (encI p).2 = 0) : writI p = 0 ∧ encI p = putP (secsI p) ∧ (putP (secsI p)).2 = 0 := by
  unfold encI at h ⊢
  by_cases h1 : writI p ≠ 0
  · rw [if_pos h1] at h; exact absurd h h1
  · rw [if_neg h1] at h
    exact ⟨by simpa using h1, if_neg h1, h⟩
theorem enc_ok {p : Prg} (h : (encI p).2 = 0) (hk : AllU64 p.hash.seeds ∧ AllU64 p.hash.keys ∧ AllU64 p.hash.vals) :
    ∃ x, (encI p).1 = x ++ put4 (sumOn 0 x) ∧ 10 ≤ (encI p).1.length ∧ (encI p).1.length ≤ 8500000 := by
  obtain ⟨h1, h2, h3⟩ := enc_zero h
  obtain ⟨a1, a2, a3, a4, a5⟩ := putP_len (secs_ok (writ_wrt h1) hk) h3
  rw [h2]
  exact ⟨_, a5, a2, by omega⟩
end Go.Proofs.Ytbomloodllddaaa
