/- Walk: where one goes in a trie (trie.step). Condition: the trie may be, the state is one of its. -/
import Derived.Test.YtndekogkfbhabaaTrieRight
namespace Go.Proofs.Ytndekogkfbhabaa
open Go.RowKit
/-- a row of ints that can be read -/
def Row3 (w : World) (b o n : Nat) (f : Nat → Int) : Prop := b < w.heap.size ∧ ∀ i, i < n → w.cell? ⟨b, o + i, none⟩ = some (.int .i64 (f i))
theorem Row3.keep {w w' : World} {b o n : Nat} {f : Nat → Int} (h : Row3 w b o n f) (hb : Below w.heap.size w w') : Row3 w' b o n f :=
  ⟨Nat.lt_of_lt_of_le h.1 hb.size, fun i hi => by rw [hb.cell (show b < w.heap.size from h.1)]; exact h.2 i hi⟩
theorem Row3.alloc {w : World} {b o n : Nat} {f : Nat → Int} (h : Row3 w b o n f) (i : Nat) (hi : i < n) (x : Obj) : (w.alloc x).cell? ⟨b, o + i, none⟩ = some (.int .i64 (f i)) :=
  (h.keep ((Below.refl _ _).alloc (Nat.le_refl _) x)).2 i hi
def stepS (f1 f2 : Nat → Int) (n st b : Nat) : Option Nat :=
  if -400000 ≤ f1 st ∧ f1 st ≤ 400000 ∧ 0 < f1 st + b + 1 ∧ f1 st + b + 1 < n ∧ f2 (f1 st + b + 1).toNat = st then some (f1 st + b + 1).toNat else none
def optI : Option Nat → Int
  | some p => p
  | none => -1
theorem stepS_lt {f1 f2 : Nat → Int} {n st b p : Nat} (h : stepS f1 f2 n st b = some p) : p < n := by
  unfold stepS at h
  split at h
  · simp only [Option.some.injEq] at h; omega
  · cases h
section
variable {b1 o1 c1 b2 o2 c2 b3 o3 c3 n : Nat}
set_option maxRecDepth 100000 in
set_option maxHeartbeats 1000000 in
theorem trie_step (f1 f2 : Nat → Int) (hn : n ≤ 400000) (st : Nat) (hst : st < n) (b : Nat) (hb : b < 256) (w : World) (h1 : Row3 w b1 o1 n f1) (h2 : Row3 w b2 o2 n f2) :
    Calls Try.prog 18 #[(.agg #[.slice (some ⟨b1, o1, none⟩) n c1, .slice (some ⟨b2, o2, none⟩) n c2, .slice (some ⟨b3, o3, none⟩) n c3]), .int .i64 st, .int .u8 b] w fun e w' => e = .returned (.int .i64 (optI (stepS f1 f2 n st b))) ∧ Below w.heap.size w w' := by
  have hc1 := h1.alloc st hst
  have H2 := Lib.hid h2; clear h2 h1
  obtain ⟨r, hr⟩ : ∃ r, stepS f1 f2 n st b = r := ⟨_, rfl⟩
  rw [hr]
  unfold stepS at hr
  obtain ⟨x, hx⟩ : ∃ x, f1 st = x := ⟨_, rfl⟩
  rw [hx] at hr hc1
  clear hx
  have Hr := Lib.hid hr; clear hr
  by_cases k1 : -400000 ≤ x ∧ x ≤ 400000
  · obtain ⟨k1, k2⟩ := k1
    by_cases k3 : 0 < x + b + 1 ∧ x + b + 1 < n
    · obtain ⟨k3, k4⟩ := k3
      obtain ⟨p, hp⟩ := Int.eq_ofNat_of_zero_le (show 0 ≤ x + b + 1 by omega)
      have hpn : p < n := by omega
      have hp0 : 0 < p := by omega
      have hc2 := H2.out.alloc p hpn
      have Hp := Lib.hid hp
      have Hk1 := Lib.hid k1; have Hk2 := Lib.hid k2; have Hk3 := Lib.hid k3; have Hk4 := Lib.hid k4
      by_cases k5 : f2 p = st
      · have e5 : (f2 p == (st : Int)) = true := by simpa using k5
        have Hk5 := Lib.hid k5; clear k5
        have e : r = some p := by
          rw [← Hr.out, if_pos ⟨Hk1.out, Hk2.out, Hk3.out, Hk4.out, by rw [Hp.out]; exact Hk5.out⟩, Hp.out]; rfl
        subst e
        go_enter Try.func18, Try.ntmps18
        repeat' (first | go_values | go_skip | go_guarded | go_step | go_upon)
        all_goals go_ret
        all_goals exact ⟨rfl, (Below.refl _ _).alloc (Nat.le_refl _) _⟩
      · have e5 : (f2 p == (st : Int)) = false := by simpa using k5
        have Hk5 := Lib.hid k5; clear k5
        have e : r = none := by
          rw [← Hr.out, if_neg (fun h => Hk5.out (by have := h.2.2.2.2; rw [Hp.out] at this; exact this))]
        subst e
        go_enter Try.func18, Try.ntmps18
        repeat' (first | go_values | go_skip | go_guarded | go_step | go_upon)
        all_goals go_ret
        all_goals exact ⟨rfl, (Below.refl _ _).alloc (Nat.le_refl _) _⟩
    · have e : r = none := by rw [← Hr.out, if_neg (fun h => k3 ⟨h.2.2.1, h.2.2.2.1⟩)]
      subst e
      go_enter Try.func18, Try.ntmps18
      repeat' (first | go_values | go_skip | go_guarded | go_step | go_upon)
      all_goals go_ret
      all_goals exact ⟨rfl, (Below.refl _ _).alloc (Nat.le_refl _) _⟩
  · have e : r = none := by rw [← Hr.out, if_neg (fun h => k1 ⟨h.1, h.2.1⟩)]
    subst e
    go_enter Try.func18, Try.ntmps18
    repeat' (first | go_values | go_skip | go_guarded | go_step | go_upon)
    all_goals go_ret
    all_goals exact ⟨rfl, (Below.refl _ _).alloc (Nat.le_refl _) _⟩
end
end Go.Proofs.Ytndekogkfbhabaa
