/- Walk: whether a node may be (ref one). No conditions. -/
import Derived.Test.YtonkenlkigfeoaaDoorPk09
import Derived.Test.YtonkenlkigfeoaaDoorPk11
import Derived.Test.YtonkenlkigfeoaaDoorPk07
namespace Go.Proofs.YtonkenlkigfeoaaDoor
open Go.RowKit Go.Lib
theorem ret_bool {x B : Bool} {P : Prop} (h : x = true ↔ P) (hB : B = true ↔ P) : Ending.returned (Value.bool x) = Ending.returned (Value.bool B) := by
 have : x = B := Bool.eq_iff_iff.2 (h.trans hB.symm); rw [this]
theorem re_box (w : World) (r : RN) : Below w.heap.size w (w.alloc (.cells (reC r).toArray 33)) := (Below.refl _ _).alloc (Nat.le_refl _) _
open Go.RowKit Go.Lib
theorem ReAt.kindOf {w : World} {h : Nat} {r : RN} {t : Re} (hr : ReAt w h r t) : r.k = t.kind := by
 cases h with
 | zero => exact hr.elim
 | succ h =>
   obtain ⟨k, s, mn, mx, kids⟩ := t; exact hr.1.1
/-- the kind of a kid -/
def kdOf (kids : List Re) (i : Nat) : Int := ((kids[i]?).map Re.kind).getD 0
theorem kd_iff {kids : List Re} {n : Nat} {K : Int} (hn : n = kids.length) : (∀ i, i < n → kdOf kids i ≠ K) ↔ ∀ t ∈ kids, t.kind ≠ K := by
 subst hn
 constructor
 · intro h t ht; obtain ⟨i, hi⟩ := List.getElem?_of_mem ht; have := h i (List.getElem?_eq_some_iff.1 hi).1
   simpa [kdOf, hi] using this
 · intro h i hi; have hx := List.getElem?_eq_getElem hi; simp only [kdOf, hx, Option.map_some, Option.getD_some]; exact h _ (List.mem_of_getElem? hx)
/-- a node and its kids, in plain words -/
theorem ReAt.node {w : World} {h : Nat} {r : RN} {t : Re} (hr : ReAt w (h + 1) r t) : ∃ (k : Int) (s0 s1 s2 s3 : Nat) (mn mx : Int) (a : Option Addr) (n cap : Nat) (kids : List Re) (rs : List RN), t = .mk k (s0, s1, s2, s3) mn mx kids ∧ r = ⟨k, (s0, s1, s2, s3), mn, mx, .slice a n cap⟩ ∧ n = rs.length ∧ n = kids.length ∧ n ≤ 9223372036854775807 ∧
   (I64 k ∧ I64 mn ∧ I64 mx) ∧ RowOf reC 8 w (.slice a n cap) rs ∧ (∀ (i : Nat) r', rs[i]? = some r' → ∃ t', kids[i]? = some t' ∧ ReAt w h r' t') ∧ (∀ (i : Nat) r', rs[i]? = some r' → r'.v.oneCell' = true) ∧ ∀ (i : Nat) r', rs[i]? = some r' → r'.k = kdOf kids i := by
 obtain ⟨rs0, h0, hl0, hk⟩ := hr.kids; have hlen := h0.lenOk; obtain ⟨a, cap, hv, _⟩ := h0.open reC_length; obtain ⟨k, ⟨s0, s1, s2, s3⟩, mn, mx, kids⟩ := t; obtain ⟨⟨e1, e2, e3, e4⟩, hi, _, _⟩ := hr; obtain ⟨rk, rs', rmn, rmx, rv⟩ := r; simp only at e1 e2 e3 e4 hv h0; subst e1 e2 e3 e4 hv; refine ⟨rk, s0, s1, s2, s3, rmn, rmx, a, rs0.length, cap, kids, rs0, rfl, rfl, rfl, hl0, hlen, hi, h0, hk, fun i r' hi => ?_, fun i r' hi => ?_⟩
 · obtain ⟨t', _, h'⟩ := hk i r' hi; exact h'.one
 · obtain ⟨t', ht', h'⟩ := hk i r' hi; have e : kids[i]? = some t' := ht'; rw [h'.kindOf, kdOf, e]; rfl
section
end
open Go.RowKit Go.Lib
theorem enters_shaped1 : ∀ args w, (callFunc 67 args).run Tryd.prog w = .ok (.enter 67 args) w := enters_of Tryd.func67 (by kernel_rfl) rfl
theorem enters_shaped2 : ∀ args w, (callFunc 68 args).run Tryd.prog w = .ok (.enter 68 args) w := enters_of Tryd.func68 (by kernel_rfl) rfl
set_option maxRecDepth 100000 in
theorem shaped_same (r : RN) (g : Nat) (K : Int) (w : World) (hg : g < w.heap.size) (hc : w.cell? ⟨g, 0, none⟩ = some (.int .i64 K)) :
   Calls Tryd.prog 67 (#[reV r] ++ #[.pointer (some ⟨g, 0, none⟩)]) w fun e w' => e = .returned (.bool (r.k == K)) ∧ Below w.heap.size w w' := by
 have HB : Hid (Below w.heap.size w (w.alloc (.cells (reC r).toArray 33))) := Lib.hid (re_box w r); have hc1 : (w.alloc (.cells (reC r).toArray 33)).cell? ⟨g, 0, none⟩ = some (.int .i64 K) := by rw [HB.out.cell hg]; exact hc
 clear hc; obtain ⟨b, hb⟩ : ∃ b, (r.k == K) = b := ⟨_, rfl⟩; rw [hb]; simp only [reV, reC] at hc1 HB ⊢; show Calls Tryd.prog 67 #[_, _] w _; go_enter Tryd.func67, Tryd.ntmps67; wkk; go_ret; exact ⟨rfl, HB.out⟩
set_option maxRecDepth 100000 in
theorem shaped_not {h : Nat} (IH : ∀ (r : RN) (t : Re) (w : World), ReAt w h r t → Calls Tryd.prog 53 #[reV r] w fun e w' => e = .returned (.bool (shp h t)) ∧ Below w.heap.size w w') (r : RN) (t : Re) (w : World) (hr : ReAt w h r t) :
   Calls Tryd.prog 68 (#[reV r] ++ #[]) w fun e w' => e = .returned (.bool (!shp h t)) ∧ Below w.heap.size w w' := by
 have HB : Hid (Below w.heap.size w (w.alloc (.cells (reC r).toArray 33))) := Lib.hid (re_box w r); have hcall := IH r t _ (hr.keep HB.out); clear IH hr; obtain ⟨x, hx⟩ : ∃ x, shp h t = x := ⟨_, rfl⟩; rw [hx] at hcall ⊢; clear hx; simp only [reV, reC] at hcall HB ⊢; show Calls Tryd.prog 68 #[_] w _; go_enter Tryd.func68, Tryd.ntmps68; wkk; refine Calls.mono (hcall) ?_; rintro _ w1 ⟨rfl, hb1⟩; dsimp only; clear hcall; wkk; go_ret; exact ⟨rfl, HB.out.trans (hb1.mono HB.out.size)⟩
/-- the kids asked, each: none that may not be? -/
def KidsSay (w : World) (v : Value) (bA : Bool) : Prop := ∀ W, Below w.heap.size w W → Calls Tryd.prog 65 #[v, .func (.func 68) #[] #[]] W fun e w' => e = .returned (.bool bA) ∧ Below W.heap.size W w'
section
variable {w : World} {a : Option Addr} {n cap : Nat} {bA B : Bool}
set_option maxRecDepth 100000 in
set_option maxHeartbeats 4000000 in
theorem shaped_1 (s : Nat × Nat × Nat × Nat) (mn mx : Int) (hK : KidsSay w (.slice a n cap) bA) (hB : Hid (B = true ↔ (mn = 0 ∧ mx = 0 ∧ (n : Int) = 0) ∧ bA = false)) :
   Calls Tryd.prog 53 #[reV ⟨1, s, mn, mx, .slice a n cap⟩] w fun e w' => e = .returned (.bool B) ∧ Below w.heap.size w w' := by
 have HK := Lib.hid hK; clear hK; simp only [reV, reC]
 rcases Nat.eq_zero_or_pos n with rfl | hn
 · simp only [Int.natCast_zero, and_true] at hB; go_enter Tryd.func53, Tryd.ntmps53; wkk
   all_goals first
     | (go_ret
        refine ⟨ret_bool ?_ hB.out, (Below.refl _ _).alloc (Nat.le_refl _) _⟩; simp only [Bool.false_eq_true, false_iff]
        omega)
     | (refine Calls.mono (HK.out _ ((Below.refl _ _).alloc (Nat.le_refl _) _)) ?_
        rintro _ w1 ⟨rfl, hb1⟩; dsimp only
        (wkk)
        go_ret; refine ⟨ret_bool ?_ hB.out, ((Below.refl _ _).alloc (Nat.le_refl _) _).trans (hb1.mono (by simp))⟩
        cases bA <;> simp [-Int.natCast_eq_zero] <;> omega)
 · have hn0 : ((n : Int) == 0) = false := beq_false_of_ne (by omega); clear HK; go_enter Tryd.func53, Tryd.ntmps53; wkk
   all_goals
     go_ret; refine ⟨ret_bool ?_ hB.out, (Below.refl _ _).alloc (Nat.le_refl _) _⟩; simp only [Bool.false_eq_true, false_iff]; omega
set_option maxRecDepth 100000 in
set_option maxHeartbeats 4000000 in
theorem shaped_0 (k : Int) (hk : k ≠ 1 ∧ k ≠ 2 ∧ k ≠ 3 ∧ k ≠ 4) (s : Nat × Nat × Nat × Nat) (mn mx : Int) (v : Value) (w : World) :
   Calls Tryd.prog 53 #[reV ⟨k, s, mn, mx, v⟩] w fun e w' => e = .returned (.bool false) ∧ Below w.heap.size w w' := by
 obtain ⟨h1, h2, h3, h4⟩ := hk; have e1 : (k == 1) = false := beq_false_of_ne h1; have e2 : (k == 2) = false := beq_false_of_ne h2; have e3 : (k == 3) = false := beq_false_of_ne h3; have e4 : (k == 4) = false := beq_false_of_ne h4; simp only [reV, reC]; go_enter Tryd.func53, Tryd.ntmps53; wkk; go_ret; exact ⟨rfl, (Below.refl _ _).alloc (Nat.le_refl _) _⟩
set_option maxRecDepth 100000 in
set_option maxHeartbeats 4000000 in
theorem shaped_bad (K : Int) (hK : K = 2 ∨ K = 3) (s0 s1 s2 s3 n : Nat) (mn mx : Int) (a : Option Addr) (cap : Nat) (w : World) (hl : n ≤ 9223372036854775807)
   (hF : ¬ (((s0 : Int) == 0 && ((s1 : Int) == 0 && ((s2 : Int) == 0 && (s3 : Int) == 0))) = true ∧ mn = 0 ∧ mx = 0 ∧ (2 ≤ (n : Int) ∨ (K = 2 ∧ (n : Int) = 0)))) :
   Calls Tryd.prog 53 #[reV ⟨K, (s0, s1, s2, s3), mn, mx, .slice a n cap⟩] w fun e w' => e = .returned (.bool false) ∧ Below w.heap.size w w' := by
 obtain ⟨bS, hS⟩ : ∃ b, ((s0 : Int) == 0 && ((s1 : Int) == 0 && ((s2 : Int) == 0 && (s3 : Int) == 0))) = b := ⟨_, rfl⟩; rw [hS] at hF; simp only [reV, reC]
 rcases hK with rfl | rfl
 all_goals
   cases bS with
   | false =>
     clear hF; go_enter Tryd.func53, Tryd.ntmps53; wkk
     all_goals
       go_ret; exact ⟨rfl, (Below.refl _ _).alloc (Nat.le_refl _) _⟩
   | true =>
     simp only [true_and] at hF; go_enter Tryd.func53, Tryd.ntmps53; wkk
     all_goals
       go_ret; exact ⟨rfl, (Below.refl _ _).alloc (Nat.le_refl _) _⟩
set_option maxRecDepth 100000 in
set_option maxHeartbeats 4000000 in
theorem shaped_ok2 (s0 s1 s2 s3 : Nat) (hn : 2 ≤ n) (hl : n ≤ 9223372036854775807) (hS : ((s0 : Int) == 0 && ((s1 : Int) == 0 && ((s2 : Int) == 0 && (s3 : Int) == 0))) = true) (bK : Bool) (hK : KidsSay w (.slice a n cap) bA)
   (hsame : Calls Tryd.prog 65 #[.slice a n cap, .func (.func 67) #[] #[.pointer (some ⟨w.heap.size, 0, none⟩)]] (w.alloc (.cells (reC ⟨2, (s0, s1, s2, s3), 0, 0, .slice a n cap⟩).toArray 33)) fun e w' => e = .returned (.bool bK) ∧ Below (w.alloc (.cells (reC ⟨2, (s0, s1, s2, s3), 0, 0, .slice a n cap⟩).toArray 33)).heap.size (w.alloc (.cells (reC ⟨2, (s0, s1, s2, s3), 0, 0, .slice a n cap⟩).toArray 33)) w') :
   Calls Tryd.prog 53 #[reV ⟨2, (s0, s1, s2, s3), 0, 0, .slice a n cap⟩] w fun e w' => e = .returned (.bool (!bK && !bA)) ∧ Below w.heap.size w w' := by
 have HK := Lib.hid hK; clear hK; have HB := Lib.hid (re_box w ⟨2, (s0, s1, s2, s3), 0, 0, .slice a n cap⟩); simp only [reV, reC] at hsame HB ⊢; go_enter Tryd.func53, Tryd.ntmps53; wkk; refine Calls.mono (hsame) ?_; rintro _ w0 ⟨rfl, hb0⟩; dsimp only; have H0 := Lib.hid (HB.out.trans (hb0.mono HB.out.size)); have hx7 : w0.cell? ⟨w.heap.size, 7, none⟩ = some (.slice a n cap) := by
   rw [hb0.cell (show w.heap.size < _ by simp), cell_of_row _ _ _ _ _ _ (Go.heap_alloc_new _ _)]; rfl
 have HK0 := Lib.hid (HK.out w0 H0.out); clear hb0 HB hsame HK
 cases bK with
 | true =>
   wkk; go_ret; exact ⟨rfl, H0.out⟩
 | false =>
   wkk; refine Calls.mono HK0.out ?_; rintro _ w1 ⟨rfl, hb1⟩; dsimp only; wkk; go_ret; exact ⟨by cases bA <;> rfl, H0.out.trans (hb1.mono H0.out.size)⟩
set_option maxRecDepth 100000 in
set_option maxHeartbeats 4000000 in
theorem shaped_ok3 (s0 s1 s2 s3 : Nat) (hn : 2 ≤ n) (hl : n ≤ 9223372036854775807) (hS : ((s0 : Int) == 0 && ((s1 : Int) == 0 && ((s2 : Int) == 0 && (s3 : Int) == 0))) = true) (bK : Bool) (hK : KidsSay w (.slice a n cap) bA)
   (hsame : Calls Tryd.prog 65 #[.slice a n cap, .func (.func 67) #[] #[.pointer (some ⟨w.heap.size, 0, none⟩)]] (w.alloc (.cells (reC ⟨3, (s0, s1, s2, s3), 0, 0, .slice a n cap⟩).toArray 33)) fun e w' => e = .returned (.bool bK) ∧ Below (w.alloc (.cells (reC ⟨3, (s0, s1, s2, s3), 0, 0, .slice a n cap⟩).toArray 33)).heap.size (w.alloc (.cells (reC ⟨3, (s0, s1, s2, s3), 0, 0, .slice a n cap⟩).toArray 33)) w') :
   Calls Tryd.prog 53 #[reV ⟨3, (s0, s1, s2, s3), 0, 0, .slice a n cap⟩] w fun e w' => e = .returned (.bool (!bK && !bA)) ∧ Below w.heap.size w w' := by
 have HK := Lib.hid hK; clear hK; have HB := Lib.hid (re_box w ⟨3, (s0, s1, s2, s3), 0, 0, .slice a n cap⟩); simp only [reV, reC] at hsame HB ⊢; go_enter Tryd.func53, Tryd.ntmps53; wkk; refine Calls.mono (hsame) ?_; rintro _ w0 ⟨rfl, hb0⟩; dsimp only; have H0 := Lib.hid (HB.out.trans (hb0.mono HB.out.size)); have hx7 : w0.cell? ⟨w.heap.size, 7, none⟩ = some (.slice a n cap) := by
   rw [hb0.cell (show w.heap.size < _ by simp), cell_of_row _ _ _ _ _ _ (Go.heap_alloc_new _ _)]; rfl
 have HK0 := Lib.hid (HK.out w0 H0.out); clear hb0 HB hsame HK
 cases bK with
 | true =>
   wkk; go_ret; exact ⟨rfl, H0.out⟩
 | false =>
   wkk; refine Calls.mono HK0.out ?_; rintro _ w1 ⟨rfl, hb1⟩; dsimp only; wkk; go_ret; exact ⟨by cases bA <;> rfl, H0.out.trans (hb1.mono H0.out.size)⟩
set_option maxRecDepth 100000 in
set_option maxHeartbeats 4000000 in
theorem shaped_empty (s0 s1 s2 s3 : Nat) (hS : ((s0 : Int) == 0 && ((s1 : Int) == 0 && ((s2 : Int) == 0 && (s3 : Int) == 0))) = true) (bK : Bool) (hK : KidsSay w (.slice a 0 cap) bA)
   (hsame : Calls Tryd.prog 65 #[.slice a 0 cap, .func (.func 67) #[] #[.pointer (some ⟨w.heap.size, 0, none⟩)]] (w.alloc (.cells (reC ⟨2, (s0, s1, s2, s3), 0, 0, .slice a 0 cap⟩).toArray 33)) fun e w' => e = .returned (.bool bK) ∧ Below (w.alloc (.cells (reC ⟨2, (s0, s1, s2, s3), 0, 0, .slice a 0 cap⟩).toArray 33)).heap.size (w.alloc (.cells (reC ⟨2, (s0, s1, s2, s3), 0, 0, .slice a 0 cap⟩).toArray 33)) w') :
   Calls Tryd.prog 53 #[reV ⟨2, (s0, s1, s2, s3), 0, 0, .slice a 0 cap⟩] w fun e w' => e = .returned (.bool (!bK && !bA)) ∧ Below w.heap.size w w' := by
 have HK := Lib.hid hK; clear hK; have HB := Lib.hid (re_box w ⟨2, (s0, s1, s2, s3), 0, 0, .slice a 0 cap⟩); simp only [reV, reC] at hsame HB ⊢; go_enter Tryd.func53, Tryd.ntmps53; wkk; refine Calls.mono (hsame) ?_; rintro _ w0 ⟨rfl, hb0⟩; dsimp only; have H0 := Lib.hid (HB.out.trans (hb0.mono HB.out.size)); have hx7 : w0.cell? ⟨w.heap.size, 7, none⟩ = some (.slice a 0 cap) := by
   rw [hb0.cell (show w.heap.size < _ by simp), cell_of_row _ _ _ _ _ _ (Go.heap_alloc_new _ _)]; rfl
 have HK0 := Lib.hid (HK.out w0 H0.out); clear hb0 HB hsame HK
 cases bK with
 | true =>
   wkk; go_ret; exact ⟨rfl, H0.out⟩
 | false =>
   wkk; refine Calls.mono HK0.out ?_; rintro _ w1 ⟨rfl, hb1⟩; dsimp only; wkk; go_ret; exact ⟨by cases bA <;> rfl, H0.out.trans (hb1.mono H0.out.size)⟩
end
open Go.RowKit Go.Lib
section
variable {w : World} {a : Option Addr} {n cap : Nat} {bA B : Bool}
set_option maxRecDepth 100000 in
set_option maxHeartbeats 4000000 in
theorem shaped_4 (s0 s1 s2 s3 : Nat) (mn mx : Int) (hK : KidsSay w (.slice a n cap) bA) (hB : Hid (B = true ↔ (((s0 : Int) == 0 && ((s1 : Int) == 0 && ((s2 : Int) == 0 && (s3 : Int) == 0))) = true ∧ (n : Int) = 1 ∧ 0 ≤ mn ∧ mn ≤ 20 ∧ (mx = -1 ∨ (mn ≤ mx ∧ mx ≤ 20 ∧ ¬ (mn = 1 ∧ mx = 1)))) ∧ bA = false)) :
   Calls Tryd.prog 53 #[reV ⟨4, (s0, s1, s2, s3), mn, mx, .slice a n cap⟩] w fun e w' => e = .returned (.bool B) ∧ Below w.heap.size w w' := by
 have HK := Lib.hid hK; clear hK; obtain ⟨bS, hS⟩ : ∃ b, ((s0 : Int) == 0 && ((s1 : Int) == 0 && ((s2 : Int) == 0 && (s3 : Int) == 0))) = b := ⟨_, rfl⟩; rw [hS] at hB; simp only [reV, reC]
 cases bS with
 | false =>
   have HF : Hid (B = false) := Lib.hid (Bool.eq_false_iff.2 fun h => by have := hB.out.1 h; simp at this); clear hB HK; go_enter Tryd.func53, Tryd.ntmps53; wkk
   all_goals
     go_ret; exact ⟨by rw [HF.out]; rfl, (Below.refl _ _).alloc (Nat.le_refl _) _⟩
 | true =>
   simp only [true_and] at hB; go_enter Tryd.func53, Tryd.ntmps53; wkk
   all_goals first
     | (go_ret
        refine ⟨ret_bool ?_ hB.out, (Below.refl _ _).alloc (Nat.le_refl _) _⟩; simp only [Bool.false_eq_true, false_iff]
        omega)
     | (refine Calls.mono (HK.out _ ((Below.refl _ _).alloc (Nat.le_refl _) _)) ?_
        rintro _ w1 ⟨rfl, hb1⟩; dsimp only
        (wkk)
        go_ret; refine ⟨ret_bool ?_ hB.out, ((Below.refl _ _).alloc (Nat.le_refl _) _).trans (hb1.mono (by simp))⟩
        cases bA <;> simp [-Int.natCast_eq_zero] <;> omega)
end
open Go.RowKit Go.Lib
theorem any_getD {α : Type} (l : List α) (f : α → Bool) (n : Nat) (hn : n = l.length) : (List.range n).any (fun i => (l[i]?.map f).getD false) = l.any f := by
 subst hn; exact range_any _ _ _ fun i a hi => by simp [hi]
theorem all_not {α : Type} (l : List α) (f : α → Bool) : l.all f = !l.any (fun a => !f a) := by
 induction l with
 | nil => rfl
 | cons x l ih => simp only [List.all_cons, List.any_cons, ih, Bool.not_or, Bool.not_not]
section
variable {h : Nat} (IH : ∀ (r : RN) (t : Re) (w : World), ReAt w h r t → Calls Tryd.prog 53 #[reV r] w fun e w' => e = .returned (.bool (shp h t)) ∧ Below w.heap.size w w')
include IH
theorem kids_say {w : World} {v : Value} {rs : List RN} {kids : List Re} (hn : rs.length = kids.length) (hrow : RowOf reC 8 w v rs) (hk : ∀ (i : Nat) r', rs[i]? = some r' → ∃ t', kids[i]? = some t' ∧ ReAt w h r' t') : KidsSay w v (kids.any fun k => !shp h k) := by
 intro W hW
 have := contains_re (fun i => (kids[i]?.map fun k => !shp h k).getD false) 68 #[] enters_shaped2 rs v W (hrow.keep hW) (fun W' hW' i r' hi => by
   obtain ⟨t', ht', hr'⟩ := hk i r' hi; simp only [ht', Option.map_some, Option.getD_some]
   exact shaped_not IH r' t' W' (hr'.keep (hW.trans (hW'.mono hW.size))))
 rw [any_getD _ _ _ hn] at this; exact this
theorem shaped_next (r : RN) (t : Re) (w : World) (hr : ReAt w (h + 1) r t) :
   Calls Tryd.prog 53 #[reV r] w fun e w' => e = .returned (.bool (shp (h + 1) t)) ∧ Below w.heap.size w w' := by
 obtain ⟨k, s0, s1, s2, s3, mn, mx, a, n, cap, kids, rs, rfl, rfl, hn, hnk, hl, _, hrow, hk, hone, hkd⟩ := hr.node; have hK := kids_say IH (hn.symm.trans hnk) hrow hk; have hshp : shp (h + 1) (.mk k (s0, s1, s2, s3) mn mx kids) = (okN (.mk k (s0, s1, s2, s3) mn mx kids) && !kids.any fun k => !shp h k) := by
   rw [shp, all_not]; rfl
 obtain ⟨bA, hbA⟩ : ∃ b, (kids.any fun k => !shp h k) = b := ⟨_, rfl⟩; rw [hbA] at hK hshp; rw [hshp]
 have hokB : ∀ {P : Prop}, (okP (.mk k (s0, s1, s2, s3) mn mx kids) ↔ P) → Hid ((okN (.mk k (s0, s1, s2, s3) mn mx kids) && !bA) = true ↔ P ∧ bA = false) := fun hP => Lib.hid (by
   rw [Bool.and_eq_true, okN_iff, hP, Bool.not_eq_true'])
 by_cases h1 : k = 1
 · subst h1; exact shaped_1 _ _ _ hK (hokB (by simp [okP, hnk]))
 by_cases h4 : k = 4
 · subst h4; exact shaped_4 _ _ _ _ _ _ hK (hokB (by simp [okP, noS, hnk]))
 by_cases h23 : k = 2 ∨ k = 3
 · by_cases hF : ((s0 : Int) == 0 && ((s1 : Int) == 0 && ((s2 : Int) == 0 && (s3 : Int) == 0))) = true ∧ mn = 0 ∧ mx = 0 ∧ (2 ≤ (n : Int) ∨ (k = 2 ∧ (n : Int) = 0))
   · obtain ⟨hS, rfl, rfl, hF⟩ := hF; have hok : okP (.mk k (s0, s1, s2, s3) 0 0 kids) ↔ ∀ i, i < n → kdOf kids i ≠ k := by
       rw [kd_iff hnk]; simp only [okP, noS, hS]
       constructor
       · rintro (⟨h, _⟩ | ⟨_, _, _, _, _, h⟩ | ⟨h, _⟩)
         · exact absurd h h1
         · exact h
         · exact absurd h h4
       · intro h; exact .inr (.inl ⟨h23, trivial, trivial, trivial, by rw [← hnk]; exact hF, h⟩)
     -- the kids of the same kind
     have hsame := contains_re (fun i => kdOf kids i == k) 67 #[.pointer (some ⟨w.heap.size, 0, none⟩)] enters_shaped1 rs (.slice a n cap) _ (hrow.keep (re_box w ⟨k, (s0, s1, s2, s3), 0, 0, .slice a n cap⟩)) (fun W hW i r' hi => by
       have hg := Go.heap_alloc_new w (.cells (reC ⟨k, (s0, s1, s2, s3), 0, 0, .slice a n cap⟩).toArray 33); have hlt : w.heap.size < (w.alloc (.cells (reC ⟨k, (s0, s1, s2, s3), 0, 0, .slice a n cap⟩).toArray 33)).heap.size := by simp
       have := shaped_same r' w.heap.size k W (Nat.lt_of_lt_of_le hlt hW.size) (by rw [hW.cell hlt, cell_of_row _ _ _ _ _ _ hg]; rfl); rw [hkd i r' hi] at this
       exact this)
     obtain ⟨bK, hbK⟩ : ∃ b, ((List.range rs.length).any fun i => kdOf kids i == k) = b := ⟨_, rfl⟩; rw [hbK] at hsame; have hokb : okN (.mk k (s0, s1, s2, s3) 0 0 kids) = !bK := by
       rw [Bool.eq_iff_iff, okN_iff, hok, Bool.not_eq_true', ← hbK, Bool.eq_false_iff, ne_eq, List.any_eq_true, hn]
       constructor
       · rintro hx ⟨i, hi, he⟩; exact hx i (List.mem_range.1 hi) (by simpa using he)
       · intro hx i hi he; exact hx ⟨i, List.mem_range.2 hi, by simpa using he⟩
     rw [hokb]
     by_cases h2 : 2 ≤ n
     · rcases h23 with rfl | rfl
       · exact shaped_ok2 s0 s1 s2 s3 h2 hl hS bK hK hsame
       · exact shaped_ok3 s0 s1 s2 s3 h2 hl hS bK hK hsame
     · have e2 : k = 2 := by omega
       have e0 : n = 0 := by omega
       subst e2; clear hok hrow hn hnk hl hF h2 hbK hokb hshp hokB hr hbA; subst e0; exact shaped_empty s0 s1 s2 s3 hS bK hK hsame
   · have : okN (.mk k (s0, s1, s2, s3) mn mx kids) = false := by
       rw [Bool.eq_false_iff]; intro h; have h := okN_iff.1 h; simp only [okP, noS, ← hnk] at h
       rcases h with ⟨h, _⟩ | ⟨_, h3, h4, h5, h6, _⟩ | ⟨h, _⟩
       · exact h1 h
       · exact hF ⟨h3, h4, h5, h6⟩
       · exact h4 h
     rw [this, Bool.false_and]; exact shaped_bad k h23 s0 s1 s2 s3 n mn mx a cap w hl hF
 · have : okN (.mk k (s0, s1, s2, s3) mn mx kids) = false := by
     rw [Bool.eq_false_iff]; intro h; have h := okN_iff.1 h; simp only [okP] at h
     rcases h with ⟨h, _⟩ | ⟨h, _⟩ | ⟨h, _⟩
     · exact h1 h
     · exact h23 h
     · exact h4 h
   rw [this, Bool.false_and]; exact shaped_0 k ⟨h1, fun h => h23 (.inl h), fun h => h23 (.inr h), h4⟩ _ _ _ _ w
end
/-- whether a tree may be -/
theorem regex_shaped : ∀ (h : Nat) (r : RN) (t : Re) (w : World), ReAt w h r t → Calls Tryd.prog 53 #[reV r] w fun e w' => e = .returned (.bool (shp h t)) ∧ Below w.heap.size w w'
 | 0, _, _, _, hr => hr.elim
 | _ + 1, r, t, w, hr => shaped_next (regex_shaped _) r t w hr
/-- is it an expression's? -/
noncomputable def rgt (h : Nat) (t : Re) : Int := if 30 < dep h t then 2 else if 512 < cnt h t then 2 else if shp h t then 0 else 61
theorem rgt_of {h : Nat} {t : Re} (R : Int) (h1 : 30 < dep h t → R = 2) (h2 : ¬ 30 < dep h t → 512 < cnt h t → R = 2) (h3 : ¬ 30 < dep h t → ¬ 512 < cnt h t → R = if shp h t then 0 else 61) : rgt h t = R := by
 unfold rgt
 by_cases a : 30 < dep h t
 · rw [if_pos a, h1 a]
 · rw [if_neg a]
   by_cases b : 512 < cnt h t
   · rw [if_pos b, h2 a b]
   · rw [if_neg b, h3 a b]
set_option maxRecDepth 100000 in
set_option maxHeartbeats 1000000 in
theorem regex_Right (h : Nat) (r : RN) (t : Re) (w : World) (hr : ReAt w h r t) : Calls Tryd.prog 35 #[reV r] w fun e w' => e = .returned (.int .i64 (rgt h t)) ∧ Below w.heap.size w w' := by
 have HB := Lib.hid (re_box w r); have HD : Calls Tryd.prog 51 #[reV r, .int .i64 30] _ _ := regex_deep h r t 30 _ (by decide) (hr.keep HB.out); have HC : Hid (∀ W, Below w.heap.size w W → Calls Tryd.prog 52 #[reV r, .int .i64 512] W fun e w' => e = .returned (.int .i64 (min (cnt h t) 513 : Nat)) ∧ Below W.heap.size W w') := Lib.hid (fun W hW => regex_nodes h r t 512 W (by decide) (hr.keep hW))
 have HS : Hid (∀ W, Below w.heap.size w W → Calls Tryd.prog 53 #[reV r] W fun e w' => e = .returned (.bool (shp h t)) ∧ Below W.heap.size W w') := Lib.hid (fun W hW => regex_shaped h r t W (hr.keep hW)); have hone := hr.one; have HR := Lib.hid (@rgt_of h t); obtain ⟨R, hR⟩ : ∃ R, rgt h t = R := ⟨_, rfl⟩; rw [hR] at HR ⊢; obtain ⟨d, hd⟩ : ∃ d, decide (30 < dep h t) = d := ⟨_, rfl⟩; obtain ⟨c, hc⟩ : ∃ c : Nat, min (cnt h t) 513 = c := ⟨_, rfl⟩; obtain ⟨x, hx⟩ : ∃ x, shp h t = x := ⟨_, rfl⟩; rw [hd] at HD; rw [hc] at HC; rw [hx] at HS HR; have Hd := Lib.hid hd; have Hc := Lib.hid hc
 clear hd hR hc hx; have cells : ∀ W, Below (w.alloc (.cells (reC r).toArray 33)).heap.size (w.alloc (.cells (reC r).toArray 33)) W → Cells8 W w.heap.size 0 r := fun W hW => by
   have hlt : w.heap.size < (w.alloc (.cells (reC r).toArray 33)).heap.size := by simp
   have hg := Go.heap_alloc_new w (.cells (reC r).toArray 33); refine ⟨?_, ?_, ?_, ?_, ?_, ?_, ?_, ?_⟩ <;> (rw [hW.cell hlt, cell_of_row _ _ _ _ _ _ hg]; rfl)
 have HX := Lib.hid cells; clear cells; simp only [reV, reC] at HD HB HC HS HX ⊢; go_enter Tryd.func35, Tryd.ntmps35; wkk; refine Calls.mono (HD) ?_; rintro _ w1 ⟨rfl, hb1⟩; dsimp only; have H1 := Lib.hid (HB.out.trans (hb1.mono HB.out.size)); have Hb1 := Lib.hid hb1; obtain ⟨c0, c1, c2, c3, c4, c5, c6, c7⟩ := HX.out w1 hb1; clear hb1 HB HD
 cases d with
 | true =>
   clear HX; wkk; go_ret; refine ⟨?_, H1.out⟩; have := HR.out 2 (fun _ => rfl) (fun h => absurd (of_decide_eq_true Hd.out) h) (fun h => absurd (of_decide_eq_true Hd.out) h); rw [this]; rfl
 | false =>
 have HC1 := Lib.hid (HC.out w1 H1.out); clear HC; wkk; refine Calls.mono (HC1.out) ?_; rintro _ w2 ⟨rfl, hb2⟩; dsimp only; have H2 := Lib.hid (H1.out.trans (hb2.mono H1.out.size)); obtain ⟨d0, d1, d2, d3, d4, d5, d6, d7⟩ := HX.out w2 (Hb1.out.trans (hb2.mono Hb1.out.size)); clear hb2 HX HC1 Hb1 c0 c1 c2 c3 c4 c5 c6 c7; have Hnd : Hid (¬ 30 < dep h t) := Lib.hid (of_decide_eq_false Hd.out)
 by_cases hc5 : 512 < c
 · have hc5' : (512 : Int) < c := by omega
   have H5 := Lib.hid hc5; clear hc5 HS; wkk; go_ret; refine ⟨?_, H2.out⟩; have := HR.out 2 (fun _ => rfl) (fun _ _ => rfl) (fun _ h => absurd (by have := Hc.out; have := H5.out; omega) h); rw [this]; rfl
 · have hc5' : ¬ (512 : Int) < c := by omega
   have H5 := Lib.hid hc5; have HS2 := Lib.hid (HS.out w2 H2.out); clear hc5 HS; wkk; refine Calls.mono (HS2.out) ?_; rintro _ w3 ⟨rfl, hb3⟩; dsimp only; clear HS2; have HE := HR.out (if x then 0 else 61) (fun h => absurd h Hnd.out) (fun _ h => absurd h (by have := Hc.out; have := H5.out; omega)) (fun _ _ => rfl)
   cases x with
   | true =>
     wkk; go_ret; exact ⟨by rw [HE]; rfl, H2.out.trans (hb3.mono H2.out.size)⟩
   | false =>
     wkk; go_ret; exact ⟨by rw [HE]; rfl, H2.out.trans (hb3.mono H2.out.size)⟩
open Go.RowKit Go.Lib
end Go.Proofs.YtonkenlkigfeoaaDoor
