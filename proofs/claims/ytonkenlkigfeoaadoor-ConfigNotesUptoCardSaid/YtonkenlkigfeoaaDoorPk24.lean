/- Walks: slices.Contains of texts, slices.ContainsFunc of ints (whether a frame names what there is), and the reference's frame. Condition: the rows lie in memory. -/
import Derived.Test.YtonkenlkigfeoaaDoorPk20
import Derived.Test.YtonkenlkigfeoaaDoorPk09
namespace Go.Proofs.YtonkenlkigfeoaaDoor
open Go.RowKit Go.Lib
theorem strC_len17 (l : List UInt8) : (strC l).length = 1 := rfl
theorem intC_len17 (x : Int) : (intC x).length = 1 := rfl
theorem str_cell {w : World} {b off : Nat} {l : List (List UInt8)} (h : ∀ (i : Nat) (x : List UInt8) (j : Nat), l[i]? = some x → j < 1 → w.cell? ⟨b, off + (i * 1 + j), none⟩ = (strC x)[j]?) {k : Nat} {x : List UInt8} (hx : l[k]? = some x) : w.cell? ⟨b, off + k, none⟩ = some (.string ⟨x.toArray⟩) := by
 have := h k x 0 hx (by decide); rw [Nat.mul_one, Nat.add_zero] at this; exact this
theorem int_cell {w : World} {b off : Nat} {l : List Int} (h : ∀ (i : Nat) (x : Int) (j : Nat), l[i]? = some x → j < 1 → w.cell? ⟨b, off + (i * 1 + j), none⟩ = (intC x)[j]?) {k : Nat} {x : Int} (hx : l[k]? = some x) : w.cell? ⟨b, off + k, none⟩ = some (.int .i64 x) := by
 have := h k x 0 hx (by decide); rw [Nat.mul_one, Nat.add_zero] at this; exact this
/-- the first so many of a row -/
theorem RowOf.pre {α : Type} {f : α → List Value} {sz : Nat} {w : World} {a : Option Addr} {n cap : Nat} {l : List α} (hf : ∀ x, (f x).length = sz) (h : RowOf f sz w (.slice a n cap) l) {k : Nat} (hk : k ≤ l.length) : RowOf f sz w (.slice a k cap) (l.take k) := by
 obtain ⟨a', cap', he, h1, h2, h3, h4⟩ := h; simp only [Value.slice.injEq] at he; obtain ⟨rfl, _, rfl⟩ := he; have hl : (l.take k).length = k := by rw [List.length_take]; omega
 have hfl : ∀ m : List α, (m.flatMap f).length = m.length * sz := fun m => by
   induction m with
   | nil => simp
   | cons y m ih => rw [List.flatMap_cons, List.length_append, hf, ih, List.length_cons, Nat.succ_mul]; omega
 unfold RowOf RdC; rw [hl]; refine ⟨a, cap, rfl, by omega, h2, by rw [hfl, hl], ?_⟩
 rcases h4 with h4 | ⟨b, off, rfl, hb, hc⟩
 · exact .inl (by omega)
 · refine .inr ⟨b, off, rfl, hb, fun i hi => ?_⟩; have hle : k * sz ≤ l.length * sz := Nat.mul_le_mul_right _ hk; rw [hc i (by omega)]; have e : l.flatMap f = (l.take k).flatMap f ++ (l.drop k).flatMap f := by rw [← List.flatMap_append, List.take_append_drop]
   rw [e, List.getElem?_append_left (by rw [hfl, hl]; exact hi)]
set_option maxRecDepth 100000 in
theorem index_str (l : List (List UInt8)) (v : Value) (x : List UInt8) (w : World) (hrow : RowOf strC 1 w v l) :
   Calls Tryd.prog 47 #[v, .string ⟨x.toArray⟩] w fun e w' => (∃ n : Int, e = .returned (.int .i64 n) ∧ (0 ≤ n ↔ x ∈ l)) ∧ Below w.heap.size w w' := by
 obtain ⟨a, cap, rfl, hcap, hmx, hc⟩ := hrow.open strC_len17; obtain ⟨n, hn⟩ : ∃ n, n = l.length := ⟨_, rfl⟩; have Hn := Lib.hid hn; rw [← hn] at hc hcap ⊢; unfold maxLen at hmx; clear hn hrow; go_enter Tryd.func47, Tryd.ntmps47; wkk
 go_loopg [5, 8] n (fun gk _ s8 w' => ∃ k : Nat, s8 = .int .i64 k ∧ k + gk = n ∧ Hid (∀ j y, j < k → l[j]? = some y → y ≠ x) ∧ Hid (Below w.heap.size w w'))
 case atStart => exact ⟨0, rfl, by omega, Lib.hid (fun j _ hj => absurd hj (Nat.not_lt_zero _)), Lib.hid (Below.refl _ _)⟩
 case round =>
   obtain ⟨k, rfl, hk, HA, HB⟩ := hrel
   by_cases hlt : k < n
   · have hlt' : (k : Int) < n := by omega
     obtain ⟨y, hy⟩ : ∃ y, l[k]? = some y := ⟨_, List.getElem?_eq_getElem (by rw [← Hn.out]; exact hlt)⟩
     rcases hc with hc | ⟨b, off, rfl, hb, hc⟩
     · omega
     have c0 := str_cell hc hy; rw [← HB.out.cell (show b < w.heap.size from hb)] at c0; have Hy := Lib.hid hy; clear hc hy
     by_cases he : x = y
     · subst he; wkk; go_ret; exact ⟨⟨k, rfl, by simp only [Int.natCast_nonneg, true_iff]; exact List.mem_of_getElem? Hy.out⟩, HB.out⟩
     · have heb : (x == y) = false := beq_false_of_ne he; wkk; go_roundg (gk - 1)
       case rel => exact ⟨k + 1, by go_num, by omega, Lib.hid (fun j z hj hz => by
         by_cases e : j = k
         · subst e; rw [Hy.out] at hz; simp only [Option.some.injEq] at hz; exact fun h => he (by rw [← h, ← hz])
         · exact HA.out j z (by omega) hz), HB⟩
       case measure => omega
   · obtain rfl : n = k := by omega
     wkk; go_ret; refine ⟨⟨-1, rfl, ?_⟩, HB.out⟩
     constructor
     · intro h; omega
     · intro hm; obtain ⟨i, hi⟩ := List.getElem?_of_mem hm; exact absurd rfl (HA.out i x (by have := (List.getElem?_eq_some_iff.1 hi).1; have := Hn.out; omega) hi)
set_option maxRecDepth 100000 in
theorem contains_str (l : List (List UInt8)) (v : Value) (x : List UInt8) (w : World) (hrow : RowOf strC 1 w v l) :
   Calls Tryd.prog 38 #[v, .string ⟨x.toArray⟩] w fun e w' => (∃ B, e = .returned (.bool B) ∧ (B = true ↔ x ∈ l)) ∧ Below w.heap.size w w' := by
 have hidx := index_str l v x w hrow; obtain ⟨a, cap, rfl, _⟩ := hrow.open strC_len17; clear hrow; go_enter Tryd.func38, Tryd.ntmps38; wkk; refine Calls.mono (hidx) ?_; rintro _ w1 ⟨⟨n, rfl, hn⟩, hb1⟩; dsimp only; have Hn := Lib.hid hn; clear hn; wkk; go_ret; exact ⟨⟨_, rfl, by rw [← Hn.out]; simp⟩, hb1⟩
section
variable (p : Int → Bool) (g : Nat) (lb : Array Value)
set_option maxRecDepth 100000 in
theorem index_ci (eg : ∀ args w, (callFunc g args).run Tryd.prog w = .ok (.enter g args) w) (l : List Int) (v : Value) (w : World) (hrow : RowOf intC 1 w v l)
   (hp : ∀ W, Below w.heap.size w W → ∀ x, Calls Tryd.prog g (#[.int .i64 x] ++ lb) W fun e w' => e = .returned (.bool (p x)) ∧ Below W.heap.size W w') :
   Calls Tryd.prog 55 #[v, .func (.func g) #[] lb] w fun e w' => (∃ n : Int, e = .returned (.int .i64 n) ∧ (0 ≤ n ↔ ∃ x ∈ l, p x = true)) ∧ Below w.heap.size w w' := by
 obtain ⟨a, cap, rfl, hcap, hmx, hc⟩ := hrow.open intC_len17; obtain ⟨n, hn⟩ : ∃ n, n = l.length := ⟨_, rfl⟩; have Hn := Lib.hid hn; rw [← hn] at hc hcap ⊢; unfold maxLen at hmx; clear hn hrow; go_enter Tryd.func55, Tryd.ntmps55; wkk
 go_loopg [5, 8] n (fun gk _ s8 w' => ∃ k : Nat, s8 = .int .i64 k ∧ k + gk = n ∧ Hid (∀ j y, j < k → l[j]? = some y → p y = false) ∧ Hid (Below w.heap.size w w'))
 case atStart => exact ⟨0, rfl, by omega, Lib.hid (fun j _ hj => absurd hj (Nat.not_lt_zero _)), Lib.hid (Below.refl _ _)⟩
 case round =>
   obtain ⟨k, rfl, hk, HA, HB⟩ := hrel
   by_cases hlt : k < n
   · have hlt' : (k : Int) < n := by omega
     obtain ⟨y, hy⟩ : ∃ y, l[k]? = some y := ⟨_, List.getElem?_eq_getElem (by rw [← Hn.out]; exact hlt)⟩
     rcases hc with hc | ⟨b, off, rfl, hb, hc⟩
     · omega
     have c0 := int_cell hc hy; rw [← HB.out.cell (show b < w.heap.size from hb)] at c0; have Hy := Lib.hid hy; have hcall := hp _ HB.out y; obtain ⟨x, hx⟩ : ∃ x, p y = x := ⟨_, rfl⟩; rw [hx] at hcall; have Hx := Lib.hid hx; clear hp hc hx hy
     cases x with
     | true =>
       wkka (first | (go_at_fn g; refine hcall.mono ?_; rintro e w1 ⟨rfl, hb1⟩; dsimp only)); go_ret; exact ⟨⟨k, rfl, by simp only [Int.natCast_nonneg, true_iff]; exact ⟨y, List.mem_of_getElem? Hy.out, Hx.out⟩⟩, HB.out.trans (hb1.mono HB.out.size)⟩
     | false =>
       wkka (first | (go_at_fn g; refine hcall.mono ?_; rintro e w1 ⟨rfl, hb1⟩; dsimp only)); go_roundg (gk - 1)
       case rel => exact ⟨k + 1, by go_num, by omega, Lib.hid (fun j z hj hz => by
         by_cases e : j = k
         · subst e; rw [Hy.out] at hz; simp only [Option.some.injEq] at hz; rw [← hz]; exact Hx.out
         · exact HA.out j z (by omega) hz), Lib.hid (HB.out.trans (hb1.mono HB.out.size))⟩
       case measure => omega
   · obtain rfl : n = k := by omega
     wkk; go_ret; refine ⟨⟨-1, rfl, ?_⟩, HB.out⟩
     constructor
     · intro h; omega
     · rintro ⟨x, hm, h⟩; obtain ⟨i, hi⟩ := List.getElem?_of_mem hm; rw [HA.out i x (by have := (List.getElem?_eq_some_iff.1 hi).1; have := Hn.out; omega) hi] at h; cases h
set_option maxRecDepth 100000 in
theorem contains_ci (eg : ∀ args w, (callFunc g args).run Tryd.prog w = .ok (.enter g args) w) (l : List Int) (v : Value) (w : World) (hrow : RowOf intC 1 w v l)
   (hp : ∀ W, Below w.heap.size w W → ∀ x, Calls Tryd.prog g (#[.int .i64 x] ++ lb) W fun e w' => e = .returned (.bool (p x)) ∧ Below W.heap.size W w') :
   Calls Tryd.prog 39 #[v, .func (.func g) #[] lb] w fun e w' => e = .returned (.bool (l.any p)) ∧ Below w.heap.size w w' := by
 have hidx := index_ci p g lb eg l v w hrow hp; clear hp hrow; obtain ⟨B, hB⟩ : ∃ B, l.any p = B := ⟨_, rfl⟩; rw [hB]; have HB := Lib.hid hB; clear hB; go_enter Tryd.func39, Tryd.ntmps39; wkk; refine Calls.mono (hidx) ?_; rintro _ w1 ⟨⟨n, rfl, hn⟩, hb1⟩; dsimp only; have e : B = decide (0 ≤ n) := by
   rw [← HB.out, Bool.eq_iff_iff, List.any_eq_true, decide_eq_true_iff, hn]
 have He := Lib.hid e; clear hn e HB; wkk; go_ret; exact ⟨by rw [He.out]; rfl, hb1⟩
end
/-- an id that is no name's -/
def noName (n : Nat) (x : Int) : Bool := decide (x < 0) || decide ((n : Int) ≤ x)
theorem enters_right1 : ∀ args w, (callFunc 40 args).run Tryd.prog w = .ok (.enter 40 args) w := enters_of Tryd.func40 (by kernel_rfl) rfl
set_option maxRecDepth 100000 in
theorem right_1 (x : Int) (g : Nat) (a : Option Addr) (n cap : Nat) (w : World) (hc : w.cell? ⟨g, 10, none⟩ = some (.slice a n cap)) :
   Calls Tryd.prog 40 (#[.int .i64 x] ++ #[.pointer (some ⟨g, 0, none⟩)]) w fun e w' => e = .returned (.bool (noName n x)) ∧ Below w.heap.size w w' := by
 show Calls Tryd.prog 40 #[_, _] w _
 by_cases h1 : x < 0
 · have e : noName n x = true := by unfold noName; rw [decide_eq_true h1]; rfl
   rw [e]; clear e; go_enter Tryd.func40, Tryd.ntmps40; wkk; go_ret; exact ⟨rfl, Below.refl _ _⟩
 · by_cases h2 : (n : Int) ≤ x
   · have e : noName n x = true := by unfold noName; rw [decide_eq_true h2, Bool.or_true]
     rw [e]; clear e; go_enter Tryd.func40, Tryd.ntmps40; wkk; go_ret; exact ⟨rfl, Below.refl _ _⟩
   · have e : noName n x = false := by unfold noName; rw [decide_eq_false h1, decide_eq_false h2]; rfl
     rw [e]; clear e; go_enter Tryd.func40, Tryd.ntmps40; wkk; go_ret; exact ⟨rfl, Below.refl _ _⟩
end Go.Proofs.YtonkenlkigfeoaaDoor
