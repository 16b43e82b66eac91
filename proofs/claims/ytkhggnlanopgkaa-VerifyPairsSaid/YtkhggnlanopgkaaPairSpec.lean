/- Plain: the check of a program of pairs alone (P23.1). No conditions; no program. -/
import Derived.Test.YtkhggnlanopgkaaTabSpec
namespace Go.Proofs.Ytkhggnlanopgkaa
open Go.RowKit
def pprg (s : Int) (ks vs : List Nat) : Prg := ⟨0, 0, 0, s, [k2], [], [], ⟨[], ks, vs⟩⟩
def rising (ks : List Nat) : Prop := ∀ a b, a < b → b < ks.length → ks.getD a 0 < ks.getD b 0
theorem bs_at {ks : List Nat} (hr : rising ks) {i : Nat} (hi : i < ks.length) : ∀ f lo hi', lo ≤ i → i ≤ hi' → hi' ≤ ks.length → hi' - lo ≤ f → bsI ks (ks.getD i 0) f lo hi' = i
  | 0, lo, hi', h1, h2, _, h4 => by show lo = i; omega
  | f + 1, lo, hi', h1, h2, h3, h4 => by
    rw [bsI]
    split
    · split
      · rename_i hlt hk
        refine bs_at hr hi f _ _ ?_ h2 h3 (by omega)
        rcases Nat.lt_trichotomy ((lo + hi') / 2) i with h | h | h
        · omega
        · rw [h] at hk; omega
        · have := hr i ((lo + hi') / 2) h (by omega); omega
      · rename_i hlt hk
        refine bs_at hr hi f _ _ h1 ?_ (by omega) (by omega)
        rcases Nat.lt_or_ge ((lo + hi') / 2) i with h | h
        · exact absurd (hr _ i h hi) hk
        · omega
    · omega
theorem rise_ok {ks vs : List Nat} (hr : rising ks) (hn : ks.length ≤ 4096) (hv : vs.length = ks.length) : hokI ⟨[], ks, vs⟩ = true := by
  refine hok_good ⟨hn, hv, by show 0 ≤ 4096; decide, .inr rfl⟩ fun i hi => ?_
  have e : placeI ⟨[], ks, vs⟩ (ks.getD i 0) = i := by
    show ((bsI ks (ks.getD i 0) ks.length 0 ks.length : Nat) : Int) = i
    rw [bs_at hr hi ks.length 0 ks.length (Nat.zero_le _) (Nat.le_of_lt hi) (Nat.le_refl _) (by omega)]
  unfold chkI
  dsimp only
  rw [e]
  simp only [decide_true, Bool.true_and, Bool.or_eq_true, decide_eq_true_eq]
  by_cases h0 : i = 0
  · exact .inr (.inl h0)
  · exact .inr (.inr (hr (i - 1) i (by omega) hi))
def valL (n : Nat) : List Nat := (List.range n).map fun k => k * 4294967296 + (256 + k)
theorem valL_len (n : Nat) : (valL n).length = n := by simp [valL]
theorem valL_succ (n : Nat) : valL (n + 1) = valL n ++ [n * 4294967296 + (256 + n)] := by simp [valL, List.range_succ]
theorem vals_ok {n : Nat} (hn : n ≤ 100) {s : Int} : (valL n).all (valOk s) = true ↔ (n = 0 ∨ (256 : Int) + n ≤ s) := by
  simp only [List.all_eq_true]
  unfold valL valOk
  simp only [List.mem_map, List.mem_range, decide_eq_true_eq]
  constructor
  · intro h
    by_cases h0 : n = 0
    · exact .inl h0
    · have := h ((n - 1) * 4294967296 + (256 + (n - 1))) ⟨n - 1, by omega, rfl⟩
      omega
  · rintro h _ ⟨k, hk, rfl⟩
    omega
theorem p_least : Least [] [k2] [some iniR] := by
  refine ⟨⟨rfl, fun i r h => ?_⟩, ⟨fun i r h => ?_, ole.refl _, fun i x r hx hr => ?_⟩, fun T hT i => ?_⟩
  · match i, h with
    | 0, h => cases h; exact iniR_ok
    | i + 1, h => simp at h
  · match i, h with
    | 0, h => cases h; exact iniR_ok.1
    | i + 1, h => simp at h
  · match i, hx with
    | 0, hx => cases hx; rw [gn2, gf2]; exact ⟨ole_none _, ole_none _⟩
    | i + 1, hx => simp at hx
  · match i with
    | 0 => exact hT.2.1
    | i + 1 => exact ole_none _
theorem p_check {s : Int} (hs0 : 0 ≤ s) (hs1 : s ≤ 65536) {n : Nat} (hn : n ≤ 100) {ks : List Nat} (hk : ks.length = n) (hr : rising ks) :
    checkI (pprg s ks (valL n)) = if n = 0 ∨ (256 : Int) + n ≤ s then (0, 0) else (232, -1) := by
  have hd : dataOk (pprg s ks (valL n)) = decide (n = 0 ∨ (256 : Int) + n ≤ s) := by
    rw [Bool.eq_iff_iff, data_iff, decide_eq_true_eq, ← vals_ok hn]
    constructor
    · intro h; exact h.2.2.2.2.2.2.2
    · intro h; exact ⟨rfl, rfl, rfl, ⟨hs0, hs1, by show 0 ≤ 16; decide, by show 0 ≤ 4096; decide⟩, rise_ok hr (by omega) (by rw [valL_len, hk]), rfl, rfl, h⟩
  by_cases hc : n = 0 ∨ (256 : Int) + n ≤ s
  · rw [if_pos hc]
    have hw : Whole (pprg s ks (valL n)) := by
      refine ⟨by rw [hd]; exact decide_eq_true hc, by show 1 ≤ 1 ∧ 1 ≤ 4096; decide, fun i hi => ?_, fun i hi => ?_, rfl⟩
      · obtain rfl : i = 0 := by have : i < 1 := hi; omega
        show okI k2 = true; decide
      · obtain rfl : i = 0 := by have : i < 1 := hi; omega
        rfl
    have h1 : (shapeI (pprg s ks (valL n))).1 = 0 := by rw [hw.shape]
    rw [check_whole (S := [some iniR]) h1 p_least]
    refine wrong_none fun i hi => ?_
    obtain rfl : i = 0 := by have : i < 1 := hi; omega
    rfl
  · rw [if_neg hc]
    have h1 : shapeI (pprg s ks (valL n)) = (232, -1) := shape_data (by rw [hd]; exact decide_eq_false hc)
    rw [check_shape (by rw [h1]; decide), h1]
end Go.Proofs.Ytkhggnlanopgkaa
