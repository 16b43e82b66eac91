/- Plain laws: numbers that are read, written again. No conditions; no program. -/
import Derived.Test.YtbomloodllddaaaPk09
import Derived.Test.YtbomloodllddaaaPk00
namespace Go.Proofs.Ytbomloodllddaaa
theorem getn_once (t : List UInt8) : ∀ (n m : Nat), m ≤ t.length → (getn t n m).2.2 = 0 →
    (getn t n m).1.length = n ∧ AllU64 (getn t n m).1 ∧ ∃ m' : Nat, (getn t n m).2.1 = m' ∧ m ≤ m' ∧ m' ≤ t.length ∧ (getn t n m).1.flatMap vput = (t.drop m).take (m' - m)
  | 0, m, hm, _ => ⟨rfl, (fun n hn => absurd hn (List.not_mem_nil)), m, rfl, Nat.le_refl _, hm, by simp [getn]⟩
  | n + 1, m, hm, h => by
    rcases vget_cases t m with ⟨e, hv, he⟩ | ⟨m1, k, x, hm1, hk, hmk, hp, hx, hv⟩
    · rw [getn, hv, if_pos (by show e ≠ 0; omega)] at h
      exfalso
      simp at h
      omega
    · obtain rfl : m = m1 := by omega
      have hto : (m : Int) + k + 1 = ((m + k + 1 : Nat) : Int) := by omega
      rw [getn, hv, if_neg (by simp)] at h ⊢
      dsimp only at h ⊢
      rw [hto] at h ⊢
      by_cases hq : (getn t n ((m + k + 1 : Nat) : Int)).2.2 ≠ 0
      · rw [if_pos hq] at h
        exact absurd h hq
      · rw [if_neg hq] at h ⊢
        obtain ⟨h1, h2, m', h3, h4, h5, h6⟩ := getn_once t n (m + k + 1) (by omega) (by simpa using hq)
        refine ⟨by rw [List.length_cons, h1], fun y hy => ?_, m', h3, by omega, h5, ?_⟩
        · rcases List.mem_cons.1 hy with rfl | hy
          · exact hx
          · exact h2 y hy
        · rw [List.flatMap_cons, h6, hp, show m + k + 1 = m + (k + 1) from by omega, take_drop_join]
          congr 1
          omega
/-- a list that is read, written again -/
theorem geta_once {t : List UInt8} {a most : Int} (h : (geta t a most).2.2 = 0) :
    AllU64 (geta t a most).1 ∧ ∃ m m' : Nat, a = m ∧ (geta t a most).2.1 = m' ∧ m < m' ∧ m' ≤ t.length ∧ vputs (geta t a most).1 = (t.drop m).take (m' - m) ∧ ((geta t a most).1.length : Int) ≤ max most 0 := by
  rcases vget_cases t a with ⟨e, hv, he⟩ | ⟨m, k, n, rfl, hk, hmk, hp, hn, hv⟩
  · rw [geta_bad hv (by omega)] at h
    simp at h
    omega
  · by_cases hm : max most 0 < (n : Int)
    · rw [geta_long hv hm] at h
      simp at h
    · have hto : (m : Int) + k + 1 = ((m + k + 1 : Nat) : Int) := by omega
      rw [geta_go hv hm, hto] at h ⊢
      obtain ⟨h1, h2, m', h3, h4, h5, h6⟩ := getn_once t n (m + k + 1) (by omega) h
      refine ⟨h2, m, m', rfl, h3, by omega, h5, ?_, by omega⟩
      unfold vputs
      rw [h1, hp, h6, show m + k + 1 = m + (k + 1) from by omega, take_drop_join]
      congr 1
      omega
end Go.Proofs.Ytbomloodllddaaa
