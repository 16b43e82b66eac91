/- Walks: the least and the greatest of a table's numbers. Conditions: the row lies in memory and is not empty. -/
import Derived.Test.YtkhggnlanopgkaaVerWithin
namespace Go.Proofs.Ytkhggnlanopgkaa
open Go.RowKit
/-- the least, the greatest of the first k -/
def mnTo (l : List Int) : Nat → Int
  | 0 => l.getD 0 0
  | k + 1 => min (mnTo l k) (l.getD k 0)
def mxTo (l : List Int) : Nat → Int
  | 0 => l.getD 0 0
  | k + 1 => max (mxTo l k) (l.getD k 0)
theorem mnTo_one (l : List Int) : mnTo l 1 = l.getD 0 0 := by simp [mnTo]
theorem mxTo_one (l : List Int) : mxTo l 1 = l.getD 0 0 := by simp [mxTo]
theorem mnTo_succ (l : List Int) (k : Nat) : mnTo l (k + 1) = min (mnTo l k) (l.getD k 0) := rfl
theorem mxTo_succ (l : List Int) (k : Nat) : mxTo l (k + 1) = max (mxTo l k) (l.getD k 0) := rfl
theorem min_if (m x : Int) : Value.int IntKind.i64 (if x < m then x else m) = .int .i64 (min m x) := by congr 1; split <;> omega
theorem max_if (m x : Int) : Value.int IntKind.i64 (if m < x then x else m) = .int .i64 (max m x) := by congr 1; split <;> omega
/-- a table's range -/
def spanD (d : List Int) : Int × Int := (mnTo d d.length, mxTo d d.length)
theorem intC_len (n : Int) : (intC n).length = 1 := rfl
theorem int_cell {w : World} {b off : Nat} {l : List Int} (h : ∀ (i : Nat) (x : Int) (j : Nat), l[i]? = some x → j < 1 → w.cell? ⟨b, off + (i * 1 + j), none⟩ = (intC x)[j]?) (k : Nat) (hk : k < l.length) : w.cell? ⟨b, off + k, none⟩ = some (.int .i64 (l.getD k 0)) := by
  have hx : l[k]? = some (l.getD k 0) := by rw [List.getD_eq_getElem?_getD, List.getElem?_eq_getElem hk]; rfl
  have := h k _ 0 hx (by decide)
  simpa [intC] using this
set_option maxRecDepth 100000 in
set_option maxHeartbeats 1000000 in
theorem slices_Min (v : Value) (l : List Int) (w : World) (h : RowOf intC 1 w v l) (h1 : 1 ≤ l.length) :
    Calls Try.prog 17 #[v] w fun e w' => e = .returned (.int .i64 (mnTo l l.length)) ∧ w = w' := by
  obtain ⟨a, cap, rfl, hcap, hmx, hcell⟩ := h.open intC_len
  obtain ⟨n, hn⟩ : ∃ n, n = l.length := ⟨_, rfl⟩
  rw [← hn] at hcap hcell h1 ⊢
  rcases hcell with h0 | ⟨b, off, rfl, hb, hcell⟩
  · omega
  have Hc : Hid (∀ k, k < n → w.cell? ⟨b, off + k, none⟩ = some (.int .i64 (l.getD k 0))) := Lib.hid fun k hk => int_cell hcell k (by rw [← hn]; exact hk)
  unfold maxLen at hmx
  have h1' : 1 ≤ (n : Int) := by omega
  have c0 := Hc.out 0 h1
  rw [Nat.add_zero] at c0
  obtain ⟨m0, hm0⟩ : ∃ m, m = l.getD 0 0 := ⟨_, rfl⟩
  rw [← hm0] at c0
  have Hm0 := Lib.hid hm0
  clear hcell h hn hm0
  go_enter Try.func17, Try.ntmps17
  repeat' (first | go_values | go_skip | go_guarded | go_step | go_upon)
  clear c0
  go_loopw [3, 4] (fun s3 s4 wr => ∃ (k : Nat) (m : Int), s3 = .int .i64 m ∧ s4 = .int .i64 k ∧ 1 ≤ k ∧ k ≤ n ∧ Hid (m = mnTo l k) ∧ w = wr) (fun _ s4 _ => n - (intOf s4).toNat)
  case atStart => exact ⟨1, _, rfl, by go_num, Nat.le_refl _, h1, Lib.hid (by rw [mnTo_one, Hm0.out]), rfl⟩
  case round =>
    obtain ⟨k, m, rfl, rfl, hk1, hk, Hm, rfl⟩ := hrel
    by_cases hlt : k < n
    · have ck := Hc.out k hlt
      have Hs : Hid (min m (l.getD k 0) = mnTo l (k + 1)) := Lib.hid (by rw [mnTo_succ, Hm.out])
      generalize l.getD k 0 = x at ck Hs
      repeat' (first | go_values | go_skip | go_guarded | go_step | go_upon)
      go_roundw
      case rel => exact ⟨k + 1, min m x, min_if m x, by go_num, by omega, hlt, Hs, trivial⟩
      case measure => simp [intOf]; omega
    · obtain rfl : n = k := by omega
      have e := Hm.out
      clear Hm Hc
      subst e
      repeat' (first | go_values | go_skip | go_guarded | go_step | go_upon)
      go_ret
      exact ⟨rfl, rfl⟩
set_option maxRecDepth 100000 in
set_option maxHeartbeats 1000000 in
theorem slices_Max (v : Value) (l : List Int) (w : World) (h : RowOf intC 1 w v l) (h1 : 1 ≤ l.length) :
    Calls Try.prog 18 #[v] w fun e w' => e = .returned (.int .i64 (mxTo l l.length)) ∧ w = w' := by
  obtain ⟨a, cap, rfl, hcap, hmx, hcell⟩ := h.open intC_len
  obtain ⟨n, hn⟩ : ∃ n, n = l.length := ⟨_, rfl⟩
  rw [← hn] at hcap hcell h1 ⊢
  rcases hcell with h0 | ⟨b, off, rfl, hb, hcell⟩
  · omega
  have Hc : Hid (∀ k, k < n → w.cell? ⟨b, off + k, none⟩ = some (.int .i64 (l.getD k 0))) := Lib.hid fun k hk => int_cell hcell k (by rw [← hn]; exact hk)
  unfold maxLen at hmx
  have h1' : 1 ≤ (n : Int) := by omega
  have c0 := Hc.out 0 h1
  rw [Nat.add_zero] at c0
  obtain ⟨m0, hm0⟩ : ∃ m, m = l.getD 0 0 := ⟨_, rfl⟩
  rw [← hm0] at c0
  have Hm0 := Lib.hid hm0
  clear hcell h hn hm0
  go_enter Try.func18, Try.ntmps18
  repeat' (first | go_values | go_skip | go_guarded | go_step | go_upon)
  clear c0
  go_loopw [3, 4] (fun s3 s4 wr => ∃ (k : Nat) (m : Int), s3 = .int .i64 m ∧ s4 = .int .i64 k ∧ 1 ≤ k ∧ k ≤ n ∧ Hid (m = mxTo l k) ∧ w = wr) (fun _ s4 _ => n - (intOf s4).toNat)
  case atStart => exact ⟨1, _, rfl, by go_num, Nat.le_refl _, h1, Lib.hid (by rw [mxTo_one, Hm0.out]), rfl⟩
  case round =>
    obtain ⟨k, m, rfl, rfl, hk1, hk, Hm, rfl⟩ := hrel
    by_cases hlt : k < n
    · have ck := Hc.out k hlt
      have Hs : Hid (max m (l.getD k 0) = mxTo l (k + 1)) := Lib.hid (by rw [mxTo_succ, Hm.out])
      generalize l.getD k 0 = x at ck Hs
      repeat' (first | go_values | go_skip | go_guarded | go_step | go_upon)
      go_roundw
      case rel => exact ⟨k + 1, max m x, max_if m x, by go_num, by omega, hlt, Hs, trivial⟩
      case measure => simp [intOf]; omega
    · obtain rfl : n = k := by omega
      have e := Hm.out
      clear Hm Hc
      subst e
      repeat' (first | go_values | go_skip | go_guarded | go_step | go_upon)
      go_ret
      exact ⟨rfl, rfl⟩
end Go.Proofs.Ytkhggnlanopgkaa
