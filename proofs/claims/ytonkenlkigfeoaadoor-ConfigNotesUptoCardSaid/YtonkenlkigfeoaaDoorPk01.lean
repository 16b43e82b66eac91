/- Regions that draw their order, whose calls make memory but turn nothing that was there: one walk, in the order of the text. No conditions. -/
import Derived.Test.YtonkenlkigfeoaaDoorPk00
import Derived.Deep.QuietTactic
import Derived.BigQuiet
namespace Go.Proofs.YtonkenlkigfeoaaDoor
open Go.RowKit
/-- the worlds in which all that was in w0 is as it was -/
def WB (w0 : World) : Type := { w' : World // Below w0.heap.size w0 w' }
instance (w0 : World) : Nonempty (WB w0) := ⟨⟨w0, Below.refl _ _⟩⟩
theorem WB.cell {w0 : World} (n : WB w0) {a : Addr} (h : a.block < w0.heap.size) : n.1.cell? a = w0.cell? a := n.2.cell h
theorem calls_wb {P : Program} {f : FuncId} {args : Array Value} {w0 : World} {n : WB w0} {v : Value} (h : Calls P f args n.1 fun e w' => e = .returned v ∧ Below n.1.heap.size n.1 w') :
   Calls P f args n.1 fun e w'' => e = .returned v ∧ ∃ m : WB w0, w'' = m.1 :=
 h.mono fun _ w' ⟨he, hb⟩ => ⟨he, ⟨w', n.2.trans (hb.mono n.2.size)⟩, rfl⟩
theorem calls_wb_same {P : Program} {f : FuncId} {args : Array Value} {w0 : World} {n : WB w0} {v : Value} (h : Calls P f args n.1 fun e w' => e = .returned v ∧ n.1 = w') :
   Calls P f args n.1 fun e w'' => e = .returned v ∧ ∃ m : WB w0, w'' = m.1 :=
 h.mono fun _ _ ⟨he, hb⟩ => ⟨he, n, hb.symm⟩
theorem wp_region_wb {P : Program} {id : Nat} {Q : Exit → Act → World → Prop} {a : Act} {w : World} {l : List Oper} (hm : P.follows .mixedOrders = true) (hB : Region.lexB .any l.toArray = true) (w0 : World) (hw : Below w0.heap.size w0 w)
   (h : wpQuiet P l.toArray (fun w' => ∃ n : WB w0, w' = n.1) (fun a' => ∀ w', (∃ n : WB w0, w' = n.1) → Q .normal a' w') l a) : (Code.region id l.toArray true).wp P Q a w :=
 wp_region_quiet (C := fun w' => ∃ n : WB w0, w' = n.1) hm hB ⟨⟨w.drew, hw.drew⟩, rfl⟩ (by simpa using h)
open Go.RowKit
/-- a slice of numbers, all below block B: what it reads as -/
def RdI (B : Nat) (k : IntKind) (w : World) (v : Value) (l : List Int) : Prop :=
 ∃ a cap, v = .slice a l.length cap ∧ l.length ≤ cap ∧ (l = [] ∨ ∃ b off, a = some ⟨b, off, none⟩ ∧ b < B ∧ ∀ i, i < l.length → w.cell? ⟨b, off + i, none⟩ = some (.int k (l.getD i 0)))
theorem RdI.below {B B' : Nat} {k : IntKind} {w w' : World} {v : Value} {l : List Int} (h : RdI B k w v l) (hb : Below B' w w') (hB : B ≤ B') : RdI B k w' v l := by
 obtain ⟨a, cap, rfl, hc, h⟩ := h; refine ⟨a, cap, rfl, hc, ?_⟩
 rcases h with h | ⟨b, off, rfl, hbB, h⟩
 · exact .inl h
 · exact .inr ⟨b, off, rfl, hbB, fun i hi => by rw [hb.cell (show b < B' by omega)]; exact h i hi⟩
theorem RdI.mono {B B' : Nat} {k : IntKind} {w : World} {v : Value} {l : List Int} (h : RdI B k w v l) (hB : B ≤ B') : RdI B' k w v l := by
 obtain ⟨a, cap, rfl, hc, h⟩ := h; refine ⟨a, cap, rfl, hc, ?_⟩
 rcases h with h | ⟨b, off, rfl, hbB, h⟩
 · exact .inl h
 · exact .inr ⟨b, off, rfl, by omega, h⟩
theorem RdI.wb {w0 : World} (n : WB w0) {k : IntKind} {v : Value} {l : List Int} (h : RdI w0.heap.size k w0 v l) : RdI n.1.heap.size k n.1 v l := (h.below n.2 (Nat.le_refl _)).mono n.2.size
theorem RdI.of_row {k : IntKind} {w : World} {a : Option Addr} {len cap : Nat} {zs : List Int} (h : IsRow k w a len cap zs) : RdI w.heap.size k w (.slice a len cap) (zs.take len) := by
 rcases h with ⟨rfl, rfl, rfl, rfl⟩ | ⟨x, rfl, hl, hm, hz, hc, _⟩
 · exact ⟨none, 0, rfl, Nat.le_refl _, .inl rfl⟩
 · have hlen : (zs.take len).length = len := by simp; omega
   refine ⟨some x, cap, by rw [hlen], by omega, ?_⟩
   by_cases h0 : len = 0
   · left; subst h0; simp
   · right
     obtain ⟨b, off, spot⟩ := x; have hc0 := hc 0 (by omega); have hspot : spot = none := by simpa [Addr.add] using World.cell?_spot hc0
     subst hspot; refine ⟨b, off, rfl, World.block_lt_of_cell? w _ (by simpa [Addr.add] using hc0), fun i hi => ?_⟩; have := hc i (by omega); rw [Addr.add_lit] at this; rw [this]
     simp [List.getD, show i < len by omega]
/-- what is owned stays so while only later blocks turn -/
theorem OwnI.keep {B B' : Nat} {e : TypeId} {k : IntKind} {w w' : World} {v : Value} {l : List Int} (h : OwnI B e k w v l) (hb : Below B' w w') (hB : w.heap.size ≤ B') : OwnI B e k w' v l := OwnC.keep h hb hB
theorem OwnI.base {B B' : Nat} {e : TypeId} {k : IntKind} {w : World} {v : Value} {l : List Int} (h : OwnI B e k w v l) (hB : B' ≤ B) : OwnI B' e k w v l := OwnC.base h hB
theorem OwnI.form {B : Nat} {e : TypeId} {k : IntKind} {w : World} {v : Value} {l : List Int} (h : OwnI B e k w v l) : ∃ a cap, v = .slice a l.length cap := by
 rcases h.2 with ⟨rfl, h0⟩ | ⟨g, cap, cur, fz, rfl, _⟩
 · exact ⟨none, 0, by rw [h0]⟩
 · exact ⟨_, cap, rfl⟩
theorem OwnI.max {B : Nat} {e : TypeId} {k : IntKind} {w : World} {v : Value} {l : List Int} (h : OwnI B e k w v l) : l.length ≤ maxLen := by
 rcases h.2 with ⟨rfl, h0⟩ | ⟨g, cap, cur, fz, rfl, _, _, _, hn, hc, _⟩
 · rw [h0]; exact Nat.zero_le _
 · exact Nat.le_trans hn hc
/-- n bits of p, from base on, as a number -/
def wN (p : Nat → Bool) : Nat → Nat → Nat
 | _, 0 => 0
 | base, n + 1 => (p base).toNat + 2 * wN p (base + 1) n
theorem wN_half (p : Nat → Bool) (base n : Nat) : wN p base (n + 1) / 2 = wN p (base + 1) n := by
 rw [wN]; cases p base <;> simp <;> omega
theorem wN_bit (p : Nat → Bool) : ∀ (n base j : Nat), (wN p base n).testBit j = (decide (j < n) && p (base + j))
 | 0, base, j => by simp [wN]
 | n + 1, base, 0 => by
   rw [Nat.testBit_zero, wN]
   cases p base <;> simp <;> omega
 | n + 1, base, j + 1 => by
   rw [Nat.testBit_succ, wN_half, wN_bit p n (base + 1) j, show base + 1 + j = base + (j + 1) from by omega]
   simp
theorem wN_lt (p : Nat → Bool) : ∀ (n base : Nat), wN p base n < 2 ^ n
 | 0, _ => by simp [wN]
 | n + 1, base => by
   have := wN_lt p n (base + 1); rw [wN, Nat.pow_succ]
   cases p base <;> simp <;> omega
theorem exW (p : Nat → Bool) (i : Nat) : ∃ x : Nat, x < 18446744073709551616 ∧ ∀ j, x.testBit j = (decide (j < 64) && p (64 * i + j)) := ⟨wN p (64 * i) 64, wN_lt p 64 _, fun j => wN_bit p 64 _ j⟩
/-- the i-th word of a set (closed: Lean must not work it out) -/
noncomputable def W (p : Nat → Bool) (i : Nat) : Nat := Classical.choose (exW p i)
theorem W_lt (p : Nat → Bool) (i : Nat) : W p i < 18446744073709551616 := (Classical.choose_spec (exW p i)).1
theorem W_u64 (p : Nat → Bool) (i : Nat) : U64 (W p i) := W_lt p i
theorem W_bit (p : Nat → Bool) (i j : Nat) : (W p i).testBit j = (decide (j < 64) && p (64 * i + j)) := (Classical.choose_spec (exW p i)).2 j
theorem W_ext {p : Nat → Bool} {x i : Nat} (hx : U64 x) (h : ∀ j, j < 64 → x.testBit j = p (64 * i + j)) : x = W p i := by
 apply Nat.eq_of_testBit_eq; intro j; rw [W_bit]
 by_cases hj : j < 64
 · rw [h j hj]; simp [hj]
 · have : x < 2 ^ j := Nat.lt_of_lt_of_le (show x < 2 ^ 64 from hx) (Nat.pow_le_pow_right (by omega) (by omega)); rw [Nat.testBit_lt_two_pow this]; simp [hj]
theorem W_congr {p q : Nat → Bool} (h : ∀ b, b < 256 → p b = q b) {i : Nat} (hi : i < 4) : W p i = W q i :=
 W_ext (W_u64 p i) fun j hj => by rw [W_bit, h _ (by omega)]; simp [hj]
theorem W_inj {p q : Nat → Bool} (h : ∀ i, i < 4 → W p i = W q i) (b : Nat) (hb : b < 256) : p b = q b := by
 have := congrArg (fun x => x.testBit (b % 64)) (h (b / 64) (by omega)); simp only [W_bit] at this; have h64 : 64 * (b / 64) + b % 64 = b := by omega
 rw [h64] at this
 simpa [Nat.mod_lt] using this
theorem W_or (p q : Nat → Bool) (i : Nat) : W p i ||| W q i = W (fun b => p b || q b) i :=
 W_ext (Nat.or_lt_two_pow (n := 64) (W_lt p i) (W_lt q i)) fun j hj => by rw [Nat.testBit_or, W_bit, W_bit]; simp [hj]
theorem W_set (p : Nat → Bool) (b : Nat) : W p (b / 64) ||| 2 ^ (b % 64) = W (fun c => p c || c == b) (b / 64) :=
 W_ext (Nat.or_lt_two_pow (n := 64) (W_lt p _) (Nat.pow_lt_pow_right (by omega) (Nat.mod_lt _ (by omega)))) fun j hj => by
   rw [Nat.testBit_or, W_bit, Nat.testBit_two_pow]; have : (64 * (b / 64) + j == b) = decide (b % 64 = j) := by rw [Bool.eq_iff_iff]; simp; omega
   rw [this]; simp [hj]
theorem W_keep (p : Nat → Bool) (b i : Nat) (h : i ≠ b / 64) : W (fun c => p c || c == b) i = W p i :=
 W_ext (W_u64 _ _) fun j hj => by
   rw [W_bit]; have : (64 * i + j == b) = false := by simp; omega
   simp only [this]; simp [hj]
/-- four words, as a predicate -/
def ofW (a0 a1 a2 a3 : Nat) (b : Nat) : Bool := (match b / 64 with | 0 => a0 | 1 => a1 | 2 => a2 | _ => a3).testBit (b % 64)
theorem W_none (i : Nat) : W (fun _ => false) i = 0 := (W_ext (x := 0) (by unfold U64; omega) fun j hj => by simp).symm
/-- a set's bytes, of those below n, rising -/
def bytesTo (p : Nat → Bool) (n : Nat) : List Nat := (List.range n).filter p
theorem bytesTo_lt {p : Nat → Bool} {n b : Nat} (h : b ∈ bytesTo p n) : b < n := by
 unfold bytesTo at h; simp at h; exact h.1
theorem bytesTo_mem {p : Nat → Bool} {n b : Nat} (h : b < n) : (b ∈ bytesTo p n) ↔ p b = true := by
 unfold bytesTo; simp [h]
theorem bytesTo_length (p : Nat → Bool) (n : Nat) : (bytesTo p n).length ≤ n := by
 unfold bytesTo; exact Nat.le_trans (List.length_filter_le _ _) (by simp)
/-- a set as a value -/
noncomputable abbrev vS (p : Nat → Bool) : Value := .agg #[.int .u64 (W p 0 : Nat), .int .u64 (W p 1 : Nat), .int .u64 (W p 2 : Nat), .int .u64 (W p 3 : Nat)]
theorem vS_congr {p q : Nat → Bool} (h : ∀ b, b < 256 → p b = q b) : vS p = vS q := by
 unfold vS; rw [W_congr h (show 0 < 4 by omega), W_congr h (show 1 < 4 by omega), W_congr h (show 2 < 4 by omega), W_congr h (show 3 < 4 by omega)]
end Go.Proofs.YtonkenlkigfeoaaDoor
