/- Plain laws: a hash's numbers, a key's place, whether a hash may be. No conditions; no program. -/
import Derived.Test.YtkpdcejnanhgoaaOpen
import Derived.Laws.Closers25b
namespace Go.Proofs.Ytkpdcejnanhgoaa
open Go.RowKit
def mx1 (s k : Int) : Int := IntKind.u64.wrap (k + IntKind.u64.wrap ((s + 1) * 11400714819323198485))
def mxr (x d c : Int) : Int := IntKind.u64.wrap (bits .xor .u64 x (x / d) * c)
def mx3 (s k : Int) : Int := mxr (mxr (mx1 s k) 1073741824 13787848793156543929) 134217728 10723151780598845931
/-- a number made of a seed and a key -/
def mixI (s k : Int) : Int := bits .xor .u64 (mx3 s k) (mx3 s k / 2147483648)
theorem mixI_in (s k : Int) : 0 ≤ mixI s k ∧ mixI s k ≤ 18446744073709551615 := by
  have := bits_within .xor .u64 (mx3 s k) (mx3 s k / 2147483648)
  simpa [IntKind.min, IntKind.max, IntKind.signed, IntKind.bits, mixI] using this
/-- by halves: where a key stands among keys that rise -/
def bsI (ks : List Nat) (k : Nat) : Nat → Nat → Nat → Nat
  | 0, lo, _ => lo
  | f + 1, lo, hi => if lo < hi then if ks.getD ((lo + hi) / 2) 0 < k then bsI ks k f ((lo + hi) / 2 + 1) hi else bsI ks k f lo ((lo + hi) / 2) else lo
theorem bsI_stop (ks : List Nat) (k : Nat) : ∀ f lo hi, ¬ lo < hi → bsI ks k f lo hi = lo
  | 0, _, _, _ => rfl
  | f + 1, lo, hi, h => by rw [bsI, if_neg h]
theorem bsI_fuel (ks : List Nat) (k : Nat) : ∀ f g lo hi, hi - lo ≤ f → hi - lo ≤ g → bsI ks k f lo hi = bsI ks k g lo hi
  | 0, g, lo, hi, h, _ => by rw [bsI_stop ks k g lo hi (by omega)]; rfl
  | f + 1, 0, lo, hi, _, h => by rw [bsI_stop ks k (f + 1) lo hi (by omega)]; rfl
  | f + 1, g + 1, lo, hi, h, h' => by
    rw [bsI, bsI]
    split
    · split
      · exact bsI_fuel ks k f g _ _ (by omega) (by omega)
      · exact bsI_fuel ks k f g _ _ (by omega) (by omega)
    · rfl
theorem bsI_le (ks : List Nat) (k : Nat) : ∀ f lo hi, lo ≤ hi → bsI ks k f lo hi ≤ hi
  | 0, _, _, h => h
  | f + 1, lo, hi, h => by
    rw [bsI]
    split
    · split
      · exact bsI_le ks k f _ _ (by omega)
      · exact Nat.le_trans (bsI_le ks k f _ _ (by omega)) (by omega)
    · exact h
/-- a hash -/
structure HashP where
  seeds : List Nat
  keys : List Nat
  vals : List Nat
/-- a key's place -/
def placeI (h : HashP) (k : Nat) : Int :=
  if h.seeds.length = 0 then (bsI h.keys k h.keys.length 0 h.keys.length : Nat)
  else mixI (h.seeds.getD (mixI 0 k % (h.seeds.length : Int)).toNat 0 : Nat) k % (h.keys.length : Int)
/-- does a key stand at its place, and, without seeds, above the one ahead of it? -/
def chkI (h : HashP) (i : Nat) : Bool := decide (placeI h (h.keys.getD i 0) = i) && (decide (h.seeds.length ≠ 0) || (decide (i = 0) || decide (h.keys.getD (i - 1) 0 < h.keys.getD i 0)))
/-- may a hash be? -/
def hokI (h : HashP) : Bool :=
  decide (h.keys.length ≤ 4096) && (decide (h.vals.length = h.keys.length) && (decide (h.seeds.length ≤ 4096) && ((decide (h.keys.length ≠ 0) || decide (h.seeds.length = 0)) &&
    (List.range h.keys.length).all (chkI h))))
theorem hok_len {h : HashP} (hc : ¬ (h.keys.length ≤ 4096 ∧ h.vals.length = h.keys.length ∧ h.seeds.length ≤ 4096 ∧ (h.keys.length ≠ 0 ∨ h.seeds.length = 0))) : hokI h = false := by
  cases e : hokI h with
  | false => rfl
  | true =>
    unfold hokI at e
    simp only [Bool.and_eq_true, Bool.or_eq_true, decide_eq_true_eq] at e
    exact absurd ⟨e.1, e.2.1, e.2.2.1, e.2.2.2.1⟩ hc
theorem hok_bad {h : HashP} {i : Nat} (hi : i < h.keys.length) (hc : chkI h i = false) : hokI h = false := by
  cases e : hokI h with
  | false => rfl
  | true =>
    unfold hokI at e
    simp only [Bool.and_eq_true, List.all_eq_true] at e
    have := e.2.2.2.2 i (List.mem_range.2 hi)
    rw [hc] at this; cases this
theorem hok_good {h : HashP} (hc : h.keys.length ≤ 4096 ∧ h.vals.length = h.keys.length ∧ h.seeds.length ≤ 4096 ∧ (h.keys.length ≠ 0 ∨ h.seeds.length = 0)) (ha : ∀ i, i < h.keys.length → chkI h i = true) : hokI h = true := by
  unfold hokI
  simp only [Bool.and_eq_true, Bool.or_eq_true, decide_eq_true_eq, List.all_eq_true]
  exact ⟨hc.1, hc.2.1, hc.2.2.1, hc.2.2.2, fun i hi => ha i (List.mem_range.1 hi)⟩
end Go.Proofs.Ytkpdcejnanhgoaa
