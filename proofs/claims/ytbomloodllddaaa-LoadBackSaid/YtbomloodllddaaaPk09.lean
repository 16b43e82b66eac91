/- Walks: lists of numbers are written (wire.PutAll, the reference's). Conditions: the numbers are of 64 bits, at most 10^13 of them. -/
import Derived.Test.YtbomloodllddaaaPk02
import Derived.Test.YtbomloodllddaaaPk01
import Derived.Test.YtbomloodllddaaaPk03
namespace Go.Proofs.Ytbomloodllddaaa
open Go.RowKit
/-- how a list is written -/
def vputs (l : List Nat) : List UInt8 := vput l.length ++ l.flatMap vput
def AllU64 (l : List Nat) : Prop := ∀ n ∈ l, U64 n
theorem vflat_len (l : List Nat) (h : AllU64 l) : (l.flatMap vput).length ≤ 10 * l.length := by
  induction l with
  | nil => simp
  | cons a l ih =>
    have h1 := vput_len10 (h a (by simp))
    have h2 := ih (fun n hn => h n (by simp [hn]))
    simp only [List.flatMap_cons, List.length_append, List.length_cons]
    omega
theorem flat_take (l : List Nat) (k : Nat) (h : k < l.length) : (l.take (k + 1)).flatMap vput = (l.take k).flatMap vput ++ vput l[k] := by
  rw [List.take_succ_eq_append_getElem h, List.flatMap_append]
  simp
theorem nats_getD (l : List Nat) (k : Nat) (h : k < l.length) : (nats l).getD k 0 = (l[k] : Int) := by simp [nats, List.getD, h]
theorem toU8s_bytes (x : List UInt8) : toU8s (x.map fun b => (b.toNat : Int)) = x := by
  induction x with
  | nil => rfl
  | cons b x ih => rw [List.map_cons, toU8s_cons, ih]; simp [u8_self]

set_option maxRecDepth 100000 in
set_option maxHeartbeats 1000000 in
theorem wire_PutAll (v : Value) (l : List Nat) (hu : AllU64 l) (hn : l.length ≤ 10000000000000) (w : World) (hr : RdI w.heap.size .u64 w v (nats l)) :
    Calls Try.prog 30 #[v] w fun e w' => e = .returned (.string ⟨(vputs l).toArray⟩) ∧ Below w.heap.size w w' := by
  obtain ⟨a, cap, rfl, hcap, hcell⟩ := hr
  rw [nats_len] at hcap hcell ⊢
  have hlu : U64 l.length := u64_small (by omega)
  have hlw : IntKind.u64.wrap (l.length : Int) = l.length := wu64 (by omega) hlu
  have hlp := vput_len10 hlu
  go_enter Try.func30, Try.ntmps30
  repeat' (first | go_values | go_skip | go_guarded | go_step | go_upon)
  refine Calls.mono (wire_Put l.length _ hlu) ?_
  rintro _ w1 ⟨rfl, hb1⟩
  dsimp only
  have hs1 := hb1.size
  repeat' (first | (with_reducible refine wp_bytes_of w.heap.size _ Try.underlying9 Try.underlying58 Try.underlying5 rfl _ rfl rfl hs1 (by unfold maxLen; omega) ?_; intro v2 w2 hown2 hb2) | go_values | go_skip | go_guarded | go_step | go_upon)
  have hb12 : Below w.heap.size w w2 := hb1.trans (hb2.mono hs1)
  clear hb1 hb2 hs1
  go_loopw [3, 13] (fun s3 s13 wr => ∃ (k : Nat) (bs : List Int), s13 = .int .i64 k ∧ k ≤ l.length ∧ OwnI w.heap.size 5 .u8 wr s3 bs ∧ Hid (toU8s bs = vput l.length ++ (l.take k).flatMap vput) ∧ bs.length ≤ 10 * (k + 1) ∧ Below w.heap.size w wr) (fun _ s13 _ => l.length - (intOf s13).toNat)
  case atStart => exact ⟨0, _, rfl, Nat.zero_le _, hown2, Lib.hid (by rw [toU8s_bytes]; simp), by simp; omega, hb12⟩
  case round =>
    obtain ⟨k, bs, rfl, hk, hown, Hbs, hbl, hbel⟩ := hrel
    have hsz := hbel.size
    by_cases hkl : k < l.length
    · rcases hcell with hcell | ⟨b, off, rfl, hbB, hcell⟩
      · have : l.length = 0 := by have := congrArg List.length hcell; rwa [nats_len] at this
        omega
      have hc0 := hcell k hkl
      rw [nats_getD l k hkl] at hc0
      obtain ⟨x, hx⟩ : ∃ x, x = l[k] := ⟨_, rfl⟩
      have hxu : U64 x := by rw [hx]; exact hu _ (List.getElem_mem hkl)
      rw [← hx] at hc0
      have Hx := Lib.hid hx; clear hx
      have hc : wr.cell? ⟨b, off + k, none⟩ = some (.int .u64 x) := by rw [hbel.cell (show b < w.heap.size from hbB)]; exact hc0
      have hxl := vput_len10 hxu
      repeat' (first | go_values | go_skip | go_guarded | go_step | go_upon)
      refine Calls.mono (wire_Put x _ hxu) ?_
      rintro _ w1 ⟨rfl, hb1⟩
      dsimp only
      have hown1 := OwnI.keep hown hb1 (Nat.le_refl _)
      have hs1 := hb1.size
      have hB1 : w.heap.size ≤ w1.heap.size := by omega
      repeat' (first | (at_builtin; go_loud (refine app_str w.heap.size _ Try.underlying58 Try.underlying9 info_u8 rfl _ _ rfl rfl rfl hown1 hB1 (by omega) ?_); intro v3 w3 hown3 hb3 _) | go_values | go_skip | go_guarded | go_step | go_upon)
      go_roundw
      case rel =>
        refine ⟨k + 1, _, by go_num, by omega, hown3, Lib.hid ?_, ?_, hbel.trans ((hb1.mono hsz).trans hb3)⟩
        · rw [toU8s_append, Hbs.out, toU8s_bytes, flat_take l k hkl, ← Hx.out, List.append_assoc]
        · simp; omega
      case measure => simp [intOf]; omega
    · obtain rfl : k = l.length := by omega
      repeat' (first | (with_reducible refine wp_conv_own Try.underlying58 Try.underlying5 Try.underlying9 rfl _ rfl rfl hown ?_) | go_values | go_skip | go_guarded | go_step | go_upon)
      go_ret
      refine ⟨ret_s ?_, hbel⟩
      rw [Hbs.out, List.take_length]
      rfl

set_option maxRecDepth 100000 in
set_option maxHeartbeats 1000000 in
theorem ref_PutAll (v : Value) (l : List Nat) (hu : AllU64 l) (hn : l.length ≤ 10000000000000) (w : World) (hr : RdI w.heap.size .u64 w v (nats l)) :
    Calls Try.prog 36 #[v] w fun e w' => e = .returned (.string ⟨(vputs l).toArray⟩) ∧ Below w.heap.size w w' := by
  obtain ⟨a, cap, rfl, hcap, hcell⟩ := hr
  rw [nats_len] at hcap hcell ⊢
  have hlu : U64 l.length := u64_small (by omega)
  have hlw : IntKind.u64.wrap (l.length : Int) = l.length := wu64 (by omega) hlu
  have hlp := vput_len10 hlu
  go_enter Try.func36, Try.ntmps36
  repeat' (first | go_values | go_skip | go_guarded | go_step | go_upon)
  refine Calls.mono (ref_Put l.length _ hlu) ?_
  rintro _ w1 ⟨rfl, hb1⟩
  dsimp only
  repeat' (first | go_values | go_skip | go_guarded | go_step | go_upon)
  go_loopw [3, 12] (fun s3 s12 wr => ∃ (k : Nat) (bs : List UInt8), s12 = .int .i64 k ∧ k ≤ l.length ∧ s3 = .string ⟨bs.toArray⟩ ∧ Hid (bs = vput l.length ++ (l.take k).flatMap vput) ∧ bs.length ≤ 10 * (k + 1) ∧ Below w.heap.size w wr) (fun _ s12 _ => l.length - (intOf s12).toNat)
  case atStart => exact ⟨0, _, rfl, Nat.zero_le _, rfl, Lib.hid (by simp), by omega, hb1⟩
  case round =>
    obtain ⟨k, bs, rfl, hk, rfl, Hbs, hbl, hbel⟩ := hrel
    have hsz := hbel.size
    by_cases hkl : k < l.length
    · rcases hcell with hcell | ⟨b, off, rfl, hbB, hcell⟩
      · have : l.length = 0 := by have := congrArg List.length hcell; rwa [nats_len] at this
        omega
      have hc0 := hcell k hkl
      rw [nats_getD l k hkl] at hc0
      obtain ⟨x, hx⟩ : ∃ x, x = l[k] := ⟨_, rfl⟩
      have hxu : U64 x := by rw [hx]; exact hu _ (List.getElem_mem hkl)
      rw [← hx] at hc0
      have Hx := Lib.hid hx; clear hx
      have hc : wr.cell? ⟨b, off + k, none⟩ = some (.int .u64 x) := by rw [hbel.cell (show b < w.heap.size from hbB)]; exact hc0
      have hxl := vput_len10 hxu
      have hap := fun l' : List UInt8 => ba_append bs ⟨l'.toArray⟩
      repeat' (first | go_values | go_skip | go_guarded | go_step | go_upon)
      refine Calls.mono (ref_Put x _ hxu) ?_
      rintro _ w1 ⟨rfl, hb1⟩
      dsimp only
      repeat' (first | go_values | go_skip | go_guarded | go_step | go_upon)
      go_roundw
      case rel =>
        refine ⟨k + 1, _, by go_num, by omega, rfl, Lib.hid ?_, by simp; omega, hbel.trans (hb1.mono hsz)⟩
        rw [flat_take l k hkl, ← Hx.out, ← List.append_assoc, ← Hbs.out]
      case measure => simp [intOf]; omega
    · obtain rfl : k = l.length := by omega
      repeat' (first | go_values | go_skip | go_guarded | go_step | go_upon)
      go_ret
      refine ⟨ret_s ?_, hbel⟩
      rw [Hbs.out, List.take_length]
      rfl
end Go.Proofs.Ytbomloodllddaaa
