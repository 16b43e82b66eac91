/- Expressions' trees as they lie in memory (api.Re). No conditions. -/
import Derived.Test.YtonkenlkigfeoaaDoorPk04
import Derived.Test.YtonkenlkigfeoaaDoorPk03
import Derived.Test.YtonkenlkigfeoaaDoorProg
import Derived.Test.YtonkenlkigfeoaaDoorPk01
namespace Go.Proofs.YtonkenlkigfeoaaDoor
open Go.RowKit
inductive Re where
 | mk (kind : Int) (s : Nat × Nat × Nat × Nat) (mn mx : Int) (kids : List Re)
/-- a node as it lies in memory -/
structure RN where
 k : Int
 s : Nat × Nat × Nat × Nat
 mn : Int
 mx : Int
 v : Value
/-- a node's cells -/
def reC (r : RN) : List Value :=
 [.int .i64 r.k, .int .u64 (r.s.1 : Nat), .int .u64 (r.s.2.1 : Nat), .int .u64 (r.s.2.2.1 : Nat), .int .u64 (r.s.2.2.2 : Nat), .int .i64 r.mn, .int .i64 r.mx, r.v]
theorem reC_length (r : RN) : (reC r).length = 8 := rfl
/-- cells that hold a tree of at most so many levels -/
def ReAt (w : World) : Nat → RN → Re → Prop
 | 0, _, _ => False
 | h + 1, r, .mk k s mn mx kids => (r.k = k ∧ r.s = s ∧ r.mn = mn ∧ r.mx = mx) ∧ (I64 k ∧ I64 mn ∧ I64 mx) ∧ kids.length ≤ 140737488351232 ∧
     ∃ rs : List RN, RowOf reC 8 w r.v rs ∧ rs.length = kids.length ∧ ∀ (i : Nat) (r' : RN) (t : Re), rs[i]? = some r' → kids[i]? = some t → ReAt w h r' t
theorem ReAt.keep {w w' : World} (hb : Below w.heap.size w w') : ∀ {h : Nat} {r : RN} {t : Re}, ReAt w h r t → ReAt w' h r t
 | 0, _, _, h => h.elim
 | h + 1, r, .mk k s mn mx kids, hr => by
   obtain ⟨h1, h2, h3, rs, h4, h5, h6⟩ := hr; exact ⟨h1, h2, h3, rs, h4.keep hb, h5, fun i r' t hi ht => (h6 i r' t hi ht).keep hb⟩
theorem ReAt.up {w : World} : ∀ {h : Nat} {r : RN} {t : Re}, ReAt w h r t → ReAt w (h + 1) r t
 | 0, _, _, h => h.elim
 | h + 1, r, .mk k s mn mx kids, hr => by
   obtain ⟨h1, h2, h3, rs, h4, h5, h6⟩ := hr; exact ⟨h1, h2, h3, rs, h4, h5, fun i r' t hi ht => (h6 i r' t hi ht).up⟩
section
variable {H : Type} {enc : TypeId × Value → H} {P : Program} {w : World} {spare : Nat → Bool} {held : Bool}
end
def Re.kids : Re → List Re | .mk _ _ _ _ l => l
def Re.kind : Re → Int | .mk k _ _ _ _ => k
def mxl : List Nat → Nat
 | [] => 0
 | x :: l => max x (mxl l)
theorem mxl_lt {n : Nat} : ∀ {l : List Nat}, n < mxl l ↔ ∃ x ∈ l, n < x
 | [] => by simp [mxl]
 | x :: l => by
   simp only [mxl, List.mem_cons, exists_eq_or_imp, ← mxl_lt (n := n) (l := l)]; omega
/-- how deep (at most so many levels lie in memory) -/
def dep : Nat → Re → Nat
 | 0, _ => 0
 | h + 1, t => 1 + mxl (t.kids.map (dep h))
/-- how many nodes -/
def cnt : Nat → Re → Nat
 | 0, _ => 0
 | h + 1, t => 1 + (t.kids.map (cnt h)).sum
/-- a set's words are nought -/
def noS (s : Nat × Nat × Nat × Nat) : Bool := ((s.1 : Nat) : Int) == 0 && (((s.2.1 : Nat) : Int) == 0 && (((s.2.2.1 : Nat) : Int) == 0 && ((s.2.2.2 : Nat) : Int) == 0))
/-- may a node be? -/
def okP : Re → Prop
 | .mk k s mn mx kids =>
   (k = 1 ∧ mn = 0 ∧ mx = 0 ∧ (kids.length : Int) = 0) ∨
   ((k = 2 ∨ k = 3) ∧ noS s = true ∧ mn = 0 ∧ mx = 0 ∧ (2 ≤ (kids.length : Int) ∨ (k = 2 ∧ (kids.length : Int) = 0)) ∧ ∀ t ∈ kids, t.kind ≠ k) ∨
   (k = 4 ∧ noS s = true ∧ (kids.length : Int) = 1 ∧ 0 ≤ mn ∧ mn ≤ 20 ∧ (mx = -1 ∨ (mn ≤ mx ∧ mx ≤ 20 ∧ ¬ (mn = 1 ∧ mx = 1))))
noncomputable def okN (t : Re) : Bool := @decide (okP t) (Classical.propDecidable _)
theorem okN_iff {t : Re} : okN t = true ↔ okP t := by unfold okN; exact @decide_eq_true_iff _ (Classical.propDecidable _)
/-- may a tree be? -/
noncomputable def shp : Nat → Re → Bool
 | 0, _ => false
 | h + 1, t => okN t && t.kids.all (shp h)
theorem range_any {α : Type} (l : List α) (f : α → Bool) (p : Nat → Bool) (h : ∀ (i : Nat) a, l[i]? = some a → p i = f a) : (List.range l.length).any p = l.any f := by
 rw [Bool.eq_iff_iff, List.any_eq_true, List.any_eq_true]
 constructor
 · rintro ⟨i, hi, hp⟩; have hl := List.getElem?_eq_getElem (l := l) (i := i) (by simpa using hi); exact ⟨_, List.mem_of_getElem? hl, by rw [← h i _ hl]; exact hp⟩
 · rintro ⟨a, ha, hf⟩; obtain ⟨i, hi⟩ := List.getElem?_of_mem ha; exact ⟨i, List.mem_range.2 (List.getElem?_eq_some_iff.1 hi).1, by rw [h i a hi]; exact hf⟩
theorem dep_pos {h : Nat} {t : Re} : 0 < dep (h + 1) t := by rw [dep]; omega
theorem dep_lt {h m : Nat} {t : Re} : decide (m + 1 < dep (h + 1) t) = t.kids.any fun k => decide (m < dep h k) := by
 rw [Bool.eq_iff_iff, decide_eq_true_iff, List.any_eq_true, dep]; have : m + 1 < 1 + mxl (t.kids.map (dep h)) ↔ m < mxl (t.kids.map (dep h)) := by omega
 rw [this, mxl_lt]
 constructor
 · rintro ⟨x, hx, h⟩; obtain ⟨a, ha, rfl⟩ := List.mem_map.1 hx; exact ⟨a, ha, by simpa using h⟩
 · rintro ⟨a, ha, h⟩; exact ⟨_, List.mem_map.2 ⟨a, ha, rfl⟩, by simpa using h⟩
/-- what the first so many kids count -/
def cntTo (h : Nat) (l : List Re) (k : Nat) : Nat := ((l.take k).map (cnt h)).sum
theorem cntTo_zero {h : Nat} {l : List Re} : cntTo h l 0 = 0 := rfl
theorem cntTo_succ {h k : Nat} {l : List Re} {t : Re} (ht : l[k]? = some t) : cntTo h l (k + 1) = cntTo h l k + cnt h t := by
 have hk := (List.getElem?_eq_some_iff.1 ht).1; unfold cntTo; rw [List.take_add_one, ht]
 simp
theorem cntTo_le {h : Nat} {l : List Re} (k : Nat) : cntTo h l k ≤ (l.map (cnt h)).sum := by
 have : (l.map (cnt h)).sum = cntTo h l k + ((l.drop k).map (cnt h)).sum := by
   unfold cntTo; rw [← List.sum_append, ← List.map_append, List.take_append_drop]
 omega
theorem cntTo_all {h : Nat} {l : List Re} : cntTo h l l.length = (l.map (cnt h)).sum := by
 unfold cntTo; rw [List.take_length]
open Go.RowKit
/-- a rule: what it looks for, what it puts -/
abbrev RuleP := List UInt8 × List UInt8
def frm (l : List RuleP) (i : Nat) : List UInt8 := (l.getD i ([], [])).1
def rto (l : List RuleP) (i : Nat) : List UInt8 := (l.getD i ([], [])).2
/-- a rule that may not be -/
def badR (l : List RuleP) (i : Nat) : Prop := (frm l i).length < 1 ∨ 16 < (frm l i).length ∨ 32 < (rto l i).length ∨ ∃ j, j < i ∧ frm l j = frm l i
open Classical in
noncomputable def ruleE (l : List RuleP) : Int := if 64 < l.length then 2 else if ∃ i, i < l.length ∧ badR l i then 110 else 0
theorem ruleE_long {l : List RuleP} (h : 64 < l.length) : ruleE l = 2 := by unfold ruleE; rw [if_pos h]
theorem ruleE_bad {l : List RuleP} (h : ¬ 64 < l.length) {i : Nat} (hi : i < l.length) (hb : badR l i) : ruleE l = 110 := by
 unfold ruleE; rw [if_neg h, if_pos ⟨i, hi, hb⟩]
theorem ruleE_ok {l : List RuleP} (h : ¬ 64 < l.length) (hb : ∀ i, i < l.length → ¬ badR l i) : ruleE l = 0 := by
 unfold ruleE; rw [if_neg h, if_neg (by rintro ⟨i, hi, h⟩; exact hb i hi h)]
theorem ruleE_open {l : List RuleP} (h : ruleE l = 0) : l.length ≤ 64 ∧ ∀ i, i < l.length → ¬ badR l i := by
 by_cases h1 : 64 < l.length
 · rw [ruleE_long h1] at h; exact absurd h (by decide)
 · refine ⟨by omega, fun i hi hb => ?_⟩; rw [ruleE_bad h1 hi hb] at h; exact absurd h (by decide)
/-- how many bytes a byte may become -/
def upN (f t : Nat) : Nat := (t + f - 1) / f
def growTo (l : List RuleP) : Nat → Nat
 | 0 => 1
 | k + 1 => max (growTo l k) (upN (frm l k).length (rto l k).length)
def growN (l : List RuleP) : Nat := growTo l l.length
theorem upN_le {f t : Nat} (hf : 1 ≤ f) (ht : t ≤ 32) : upN f t ≤ 32 := by
 unfold upN; exact Nat.div_le_of_le_mul (by omega)
theorem growTo_le {l : List RuleP} (h : ruleE l = 0) : ∀ k, k ≤ l.length → 1 ≤ growTo l k ∧ growTo l k ≤ 32
 | 0, _ => ⟨Nat.le_refl _, by show 1 ≤ 32; omega⟩
 | k + 1, hk => by
   have ih := growTo_le h k (by omega); have hb := (ruleE_open h).2 k (by omega); unfold badR at hb; have h3 : 1 ≤ (frm l k).length ∧ (rto l k).length ≤ 32 := by
     constructor
     · by_cases h : (frm l k).length < 1
       · exact absurd (.inl h) hb
       · omega
     · by_cases h : 32 < (rto l k).length
       · exact absurd (.inr (.inr (.inl h))) hb
       · omega
   have h2 := upN_le h3.1 h3.2; rw [growTo]; omega
/-- the error of the first passes -/
noncomputable def passE (ps : List (List RuleP)) : Nat → Int
 | 0 => 0
 | k + 1 => if passE ps k = 0 then ruleE (ps.getD k []) else passE ps k
def growAll (ps : List (List RuleP)) : Nat → Nat
 | 0 => 1
 | k + 1 => growAll ps k * growN (ps.getD k [])
theorem passE_stay {ps : List (List RuleP)} {k : Nat} (h : passE ps k ≠ 0) : ∀ {n : Nat}, k ≤ n → passE ps n = passE ps k
 | 0, hn => by rw [show k = 0 by omega]
 | n + 1, hn => by
   by_cases e : k = n + 1
   · rw [e]
   · have ih := passE_stay (n := n) h (by omega); rw [passE, if_neg (by rw [ih]; exact h), ih]
theorem passE_step {ps : List (List RuleP)} {k : Nat} (h : passE ps k = 0) (e : ruleE (ps.getD k []) ≠ 0) {n : Nat} (hn : k < n) : passE ps n = ruleE (ps.getD k []) := by
 have h1 : passE ps (k + 1) = ruleE (ps.getD k []) := by rw [passE, if_pos h]
 rw [passE_stay (k := k + 1) (by rw [h1]; exact e) (by omega), h1]
theorem growAll_le {ps : List (List RuleP)} : ∀ k, k ≤ 4 → passE ps k = 0 → growAll ps k ≤ 32 ^ k
 | 0, _, _ => Nat.le_refl _
 | k + 1, hk, h => by
   rw [passE] at h
   by_cases e : passE ps k = 0
   · rw [if_pos e] at h; have ih := growAll_le k (by omega) e; have h2 := (growTo_le h _ (Nat.le_refl _)).2; rw [growAll, Nat.pow_succ]; exact Nat.mul_le_mul ih h2
   · rw [if_neg e] at h; exact absurd h e
/-- the texts of all ids behind so many merges, or none -/
def tx0 : List (List UInt8) := (List.range 256).map fun b => [u8 b]
open Classical in
noncomputable def txStep (k : Nat) (m : Int × Int) (ts : List (List UInt8)) : Option (List (List UInt8)) :=
 if (0 ≤ m.1 ∧ m.1 < 256 + k) ∧ (0 ≤ m.2 ∧ m.2 < 256 + k) ∧ (ts.getD m.1.toNat [] ++ ts.getD m.2.toNat []).length ≤ 64 ∧ (ts.getD m.1.toNat [] ++ ts.getD m.2.toNat []) ∉ ts.drop 256
 then some (ts ++ [ts.getD m.1.toNat [] ++ ts.getD m.2.toNat []]) else none
noncomputable def txTo (l : List (Int × Int)) : Nat → Option (List (List UInt8))
 | 0 => some tx0
 | k + 1 => (txTo l k).bind (txStep k (l.getD k (0, 0)))
noncomputable def textsE (l : List (Int × Int)) : Int := if 1024 < l.length then 2 else if (txTo l l.length).isSome = true then 0 else 130
theorem textsE_long {l : List (Int × Int)} (h : 1024 < l.length) : textsE l = 2 := by unfold textsE; rw [if_pos h]
theorem txTo_stay {l : List (Int × Int)} {k : Nat} (h : txTo l k = none) : ∀ {n : Nat}, k ≤ n → txTo l n = none
 | 0, hn => by rw [← h, show k = 0 by omega]
 | n + 1, hn => by
   by_cases e : k = n + 1
   · rw [← e]; exact h
   · rw [txTo, txTo_stay (n := n) h (by omega)]; rfl
theorem textsE_bad {l : List (Int × Int)} (h : ¬ 1024 < l.length) {k : Nat} (hk : k < l.length) {ts : List (List UInt8)} (ht : txTo l k = some ts) (hs : txStep k (l.getD k (0, 0)) ts = none) : textsE l = 130 := by
 unfold textsE; rw [if_neg h, txTo_stay (k := k + 1) (by rw [txTo, ht]; exact hs) (by omega)]; rfl
theorem textsE_ok {l : List (Int × Int)} (h : ¬ 1024 < l.length) {ts : List (List UInt8)} (ht : txTo l l.length = some ts) : textsE l = 0 := by
 unfold textsE; rw [if_neg h, ht]; rfl
/-- a name that may not be -/
def nam (l : List (List UInt8)) (i : Nat) : List UInt8 := l.getD i []
def badN (l : List (List UInt8)) (i : Nat) : Prop := (nam l i).length < 1 ∨ 32 < (nam l i).length ∨ ∃ j, j < i ∧ nam l j = nam l i
def namesBad (l : List (List UInt8)) : Prop := ∃ i, i < l.length ∧ badN l i
/-- how often a node's kids count -/
def timesOf (t : Re) : Int := match t with | .mk k _ a b _ => if k = 4 then max 1 (max a b) else 1
theorem times_pos (t : Re) : 1 ≤ timesOf t := by
 obtain ⟨k, s, a, b, l⟩ := t; unfold timesOf; dsimp only
 split <;> omega
theorem times_le {t : Re} (h : okP t) : timesOf t ≤ 20 := by
 obtain ⟨k, s, a, b, l⟩ := t; unfold okP at h; unfold timesOf; dsimp only at h ⊢
 split <;> omega
/-- the size of an expression, up to 1001 -/
def szR : Nat → Re → Int
 | 0, _ => 2
 | h + 1, t => min (2 + (t.kids.map fun k => szR h k * timesOf t).sum) 1001
def szTo (h : Nat) (t : Re) (k : Nat) : Int := 2 + ((t.kids.take k).map fun k => szR h k * timesOf t).sum
theorem sum_nn : ∀ {l : List Int}, (∀ x ∈ l, 0 ≤ x) → 0 ≤ l.sum
 | [], _ => Int.le_refl _
 | x :: l, h => by
   have h1 := h x (by simp); have h2 := sum_nn (l := l) fun y hy => h y (by simp [hy])
   rw [List.sum_cons]; omega
theorem szR_nn : ∀ (h : Nat) (t : Re), 0 ≤ szR h t ∧ szR h t ≤ 1001
 | 0, _ => ⟨by show (0 : Int) ≤ 2; omega, by show (2 : Int) ≤ 1001; omega⟩
 | h + 1, t => by
   have hs : 0 ≤ (t.kids.map fun k => szR h k * timesOf t).sum := sum_nn fun x hx => by
     obtain ⟨k, _, rfl⟩ := List.mem_map.1 hx; exact Int.mul_nonneg (szR_nn h k).1 (by have := times_pos t; omega)
   rw [szR]; omega
theorem szTo_zero {h : Nat} {t : Re} : szTo h t 0 = 2 := rfl
theorem szTo_succ {h : Nat} {t : Re} {k : Nat} {u : Re} (hu : t.kids[k]? = some u) : szTo h t (k + 1) = szTo h t k + szR h u * timesOf t := by
 unfold szTo; rw [List.take_add_one, hu]; simp only [Option.toList_some, List.map_append, List.map_cons, List.map_nil, List.sum_append, List.sum_cons, List.sum_nil]; omega
theorem szTo_all {h : Nat} {t : Re} {k : Nat} (hk : t.kids.length ≤ k) : szR (h + 1) t = min (szTo h t k) 1001 := by
 unfold szTo; rw [List.take_of_length_le hk, szR]
theorem szTo_over {h : Nat} {t : Re} {k : Nat} (hk : 1001 < szTo h t k) : szR (h + 1) t = 1001 := by
 have e : (t.kids.map fun k => szR h k * timesOf t).sum = ((t.kids.take k).map fun k => szR h k * timesOf t).sum + ((t.kids.drop k).map fun k => szR h k * timesOf t).sum := by
   rw [← List.sum_append, ← List.map_append, List.take_append_drop]
 have h2 : 0 ≤ ((t.kids.drop k).map fun k => szR h k * timesOf t).sum := sum_nn fun x hx => by
   obtain ⟨u, _, rfl⟩ := List.mem_map.1 hx; exact Int.mul_nonneg (szR_nn h u).1 (by have := times_pos t; omega)
 unfold szTo at hk; rw [szR, e]; omega
/-- a configuration -/
structure ConfP where
 ps : List (List RuleP)
 re : Re
 ms : List (Int × Int)
 ns : List (List UInt8)
 bf : List Int
 af : List Int
open Go.RowKit
/-- what reading tells: a thing and where it ends; or why it can't go on, and where -/
inductive PR (α : Type) where
 | ok (a : α) (i : Nat)
 | bad (e i : Nat)
 | out
def PR.bind {α β : Type} (x : PR α) (f : α → Nat → PR β) : PR β :=
 match x with
 | .ok a i => f a i
 | .bad e i => .bad e i
 | .out => .out
def bt (s : List UInt8) (i : Nat) : Nat := (s.getD i 0).toNat
/-- does this byte stand there? -/
def isC (s : List UInt8) (i c : Nat) : Prop := i < s.length ∧ bt s i = c
instance (s : List UInt8) (i c : Nat) : Decidable (isC s i c) := by unfold isC; infer_instance
def isD (s : List UInt8) (i : Nat) : Prop := i < s.length ∧ 48 ≤ bt s i ∧ bt s i ≤ 57
instance (s : List UInt8) (i : Nat) : Decidable (isD s i) := by unfold isD; infer_instance
def sgP : List Nat := [92, 40, 41, 91, 93, 123, 125, 46, 42, 43, 63, 124, 94, 36]
/-- a number of a bound -/
def numR (s : List UInt8) (least i : Nat) : PR Nat :=
 if isD s i then
   if isD s (i + 1) then
     if 20 < 10 * (bt s i - 48) + (bt s (i + 1) - 48) ∨ 10 * (bt s i - 48) + (bt s (i + 1) - 48) < least then .bad 60 i else .ok (10 * (bt s i - 48) + (bt s (i + 1) - 48)) (i + 2)
   else if bt s i - 48 < least then .bad 60 i else .ok (bt s i - 48) (i + 1)
 else .bad 60 i
def hexV (c : Nat) : Option Nat :=
 if 48 ≤ c ∧ c ≤ 57 then some (c - 48) else if 97 ≤ c ∧ c ≤ 102 then some (c - 87) else if 65 ≤ c ∧ c ≤ 70 then some (c - 55) else none
def hexR (s : List UInt8) (i : Nat) : PR Nat :=
 if i < s.length then match hexV (bt s i) with
   | some n => .ok n (i + 1)
   | none => .bad 60 i
 else .bad 60 i
/-- what stands behind a backslash: a byte -/
def escR (s : List UInt8) (i : Nat) : PR Nat :=
 if i < s.length then
   if bt s i = 110 then .ok 10 (i + 1) else if bt s i = 116 then .ok 9 (i + 1) else if bt s i = 114 then .ok 13 (i + 1)
   else if bt s i = 120 then (hexR s (i + 1)).bind fun h j => (hexR s j).bind fun l k => .ok (16 * h + l) k
   else if bt s i ∈ sgP ∨ bt s i = 45 ∨ bt s i = 47 then .ok (bt s i) (i + 1) else .bad 60 i
 else .bad 60 i
def rngB (lo hi : Nat) : Nat → Bool := fun b => decide (lo ≤ b) && decide (b < hi + 1)
def orB (p q : Nat → Bool) : Nat → Bool := fun b => p b || q b
def notB (p : Nat → Bool) : Nat → Bool := fun b => !p b
def oneB (c : Nat) : Nat → Bool := fun b => b == c
def digB : Nat → Bool := rngB 48 57
def wordB : Nat → Bool := orB (orB (rngB 48 57) (rngB 65 90)) (orB (rngB 97 122) (oneB 95))
def spcB : Nat → Bool := orB (rngB 9 13) (oneB 32)
/-- a class by a letter -/
def kndC (c : Nat) : Option (Nat → Bool) :=
 if c = 100 then some digB else if c = 68 then some (notB digB) else if c = 119 then some wordB else if c = 87 then some (notB wordB)
 else if c = 115 then some spcB else if c = 83 then some (notB spcB) else none
def kndR (s : List UInt8) (i : Nat) : Option (Nat → Bool) := if i < s.length then kndC (bt s i) else none
/-- an end of a range -/
def pntR (s : List UInt8) (i : Nat) : PR Nat :=
 if isC s i 92 then escR s (i + 1) else if i < s.length ∧ bt s i ≠ 93 ∧ bt s i ≠ 45 then .ok (bt s i) (i + 1) else .bad 60 i
/-- a class's parts -/
def clsL (s : List UInt8) : Nat → (Nat → Bool) → Bool → Nat → PR (Nat → Bool)
 | 0, _, _, _ => .out
 | f + 1, a, first, i =>
   if first = false ∧ isC s i 93 then .ok a i
   else match (if isC s i 92 then kndR s (i + 1) else none) with
     | some k => clsL s f (orB a k) false (i + 2)
     | none => (pntR s i).bind fun lo j =>
         if isC s j 45 then (pntR s (j + 1)).bind fun hi k => if hi < lo then .bad 60 (j + 1) else clsL s f (orB a (rngB lo hi)) false k
         else clsL s f (orB a (rngB lo lo)) false j
noncomputable def wS (p : Nat → Bool) : Nat × Nat × Nat × Nat := (W p 0, W p 1, W p 2, W p 3)
noncomputable def setT (p : Nat → Bool) : Re := .mk 1 (wS p) 0 0 []
noncomputable def clsR (s : List UInt8) (f i : Nat) : PR Re :=
 if isC s i 94 then (clsL s f (fun _ => false) true (i + 1)).bind fun a j => .ok (setT (notB a)) (j + 1)
 else (clsL s f (fun _ => false) true i).bind fun a j => .ok (setT a) (j + 1)
def Re.kindP : Re → Int | .mk k _ _ _ _ => k
def Re.kidsP : Re → List Re | .mk _ _ _ _ l => l
/-- a node of several -/
def joinT (kind : Int) (l : List Re) : Re :=
 match l.flatMap (fun t => if t.kindP = kind then t.kidsP else [t]) with
 | [t] => t
 | k => .mk kind (0, 0, 0, 0) 0 0 k
def repT (lo : Nat) (hi : Int) (t : Re) : Re := if lo = 1 ∧ hi = 1 then t else .mk 4 (0, 0, 0, 0) lo hi [t]
/-- a bound: how often, and where its text ends (its last bracket is still to come) -/
def bndR (s : List UInt8) (i : Nat) : PR (Nat × Int) :=
 (numR s 0 i).bind fun lo j => if isC s j 44 then (if isC s (j + 1) 125 then .ok (lo, -1) (j + 1) else (numR s lo (j + 1)).bind fun hi k => .ok (lo, hi) k) else .ok (lo, lo) j
inductive Tk where
 | alt
 | altL (l : List Re)
 | cat (l : List Re)
 | item
 | itemL (t : Re)
 | atom
noncomputable def prs (s : List UInt8) : Nat → Tk → Nat → Nat → PR Re
 | 0, _, _, _ => .out
 | f + 1, .alt, d, i => (prs s f (.cat []) d i).bind fun t j => prs s f (.altL [t]) d j
 | f + 1, .altL l, d, i => if isC s i 124 then (prs s f (.cat []) d (i + 1)).bind fun t j => prs s f (.altL (l ++ [t])) d j else .ok (joinT 3 l) i
 | f + 1, .cat l, d, i => if i < s.length ∧ bt s i ≠ 124 ∧ bt s i ≠ 41 then (prs s f .item d i).bind fun t j => prs s f (.cat (l ++ [t])) d j else .ok (joinT 2 l) i
 | f + 1, .item, d, i => (prs s f .atom d i).bind fun t j => prs s f (.itemL t) d j
 | f + 1, .itemL t, d, i =>
   if isC s i 42 then prs s f (.itemL (repT 0 (-1) t)) d (i + 1)
   else if isC s i 43 then prs s f (.itemL (repT 1 (-1) t)) d (i + 1)
   else if isC s i 63 then prs s f (.itemL (repT 0 1 t)) d (i + 1)
   else if isC s i 123 then (bndR s (i + 1)).bind fun b j => if isC s j 125 then prs s f (.itemL (repT b.1 b.2 t)) d (j + 1) else .bad 60 j
   else .ok t i
 | f + 1, .atom, d, i =>
   if isC s i 40 then
     if 30 ≤ d then .bad 2 i else (prs s f .alt (d + 1) (i + 1)).bind fun t j => if isC s j 41 then .ok t (j + 1) else .bad 60 j
   else if isC s i 91 then clsR s f (i + 1)
   else if isC s i 46 then .ok (setT (notB (oneB 10))) (i + 1)
   else if isC s i 92 then match kndR s (i + 1) with
     | some k => .ok (setT k) (i + 2)
     | none => (escR s (i + 1)).bind fun c j => .ok (setT (oneB c)) j
   else if i < s.length ∧ ¬ bt s i ∈ sgP then .ok (setT (oneB (bt s i))) (i + 1) else .bad 60 i
/-- the whole of a text (but for the tree being too deep) -/
noncomputable def prsA (s : List UInt8) : PR Re :=
 if 512 < s.length then .bad 2 0
 else match prs s 4200 .alt 0 0 with
   | .ok t j => if j < s.length then .bad 60 j else .ok t 0
   | x => x
open Go.RowKit
/-- a text that must stand there, within a line that ends at en -/
def mustR (s : List UInt8) (en : Nat) : List UInt8 → Nat → PR Unit
 | [], i => .ok () i
 | c :: u, i => if i < en ∧ bt s i = c.toNat then mustR s en u (i + 1) else .bad 170 i
/-- the line's end must be there -/
def doneR (en i : Nat) : PR Unit := if i < en then .bad 170 i else .ok () i
/-- the next byte of the line -/
def nextR (s : List UInt8) (en i : Nat) : PR Nat := if i < en then .ok (bt s i) (i + 1) else .bad 170 i
/-- a digit of sixteen of a quoted text -/
def hexQ (s : List UInt8) (en i : Nat) : PR Nat := (nextR s en i).bind fun c j => match hexV c with
 | some n => .ok n j
 | none => .bad 170 i
/-- what stands behind a backslash of a quoted text -/
def bslR (s : List UInt8) (en i : Nat) : PR Nat := (nextR s en i).bind fun c j =>
 if c = 34 ∨ c = 92 then .ok c j else if c = 110 then .ok 10 j else if c = 116 then .ok 9 j else if c = 114 then .ok 13 j
 else if c = 120 then (hexQ s en j).bind fun h k => (hexQ s en k).bind fun l m => .ok (16 * h + l) m
 else .bad 170 i
/-- a quoted text's rest -/
def qtR (s : List UInt8) (en : Nat) : Nat → List UInt8 → Nat → PR (List UInt8)
 | 0, _, _ => .out
 | f + 1, b, i => (nextR s en i).bind fun c j =>
   if c = 34 then .ok b j else if c < 32 ∨ 126 < c then .bad 170 i else if c ≠ 92 then qtR s en f (b ++ [u8 c]) j
   else (bslR s en j).bind fun c k => qtR s en f (b ++ [u8 c]) k
def quotedR (s : List UInt8) (en f i : Nat) : PR (List UInt8) := (mustR s en [34] i).bind fun _ j => qtR s en f [] j
/-- what is read so far: the configuration, is there a split?, the texts of ids -/
structure CS where
 c : ConfP
 split : Bool
 ids : List (List UInt8 × Int)
def idOf (ids : List (List UInt8 × Int)) (t : List UInt8) : Option Int := (ids.find? fun x => x.1 == t).map (·.2)
def idR (ids : List (List UInt8 × Int)) (t : List UInt8) (at' i : Nat) : PR Int :=
 if t.length = 1 then .ok ((t.getD 0 0).toNat : Nat) i else match idOf ids t with
   | some n => .ok n i
   | none => .bad 171 at'
/-- a name that is known -/
def knownR (s : List UInt8) (en f : Nat) (ns : List (List UInt8)) (i : Nat) : PR Int :=
 (quotedR s en f i).bind fun n j => (doneR en j).bind fun _ k => match ns.findIdx? (· == n) with
   | some m => .ok (m : Int) k
   | none => .bad 171 i
/-- a tree of more than 30 levels -/
def tooDeep (t : Re) : Prop := ∃ (h : Nat) (w : World) (r : RN), ReAt w h r t ∧ 30 < dep h t
open Classical in
/-- an expression's error lies behind the place where it begins; the tree may be too deep -/
noncomputable def splitR (s : List UInt8) (en i : Nat) : PR Re := match prsA ((s.drop i).take (en - i)) with
 | .ok t _ => if tooDeep t then .bad 2 i else .ok t en
 | .bad e j => .bad e (i + j)
 | .out => .out
/-- how lines begin -/
def wordsC : List (List UInt8) := [[112, 97, 115, 115], [114, 117, 108, 101, 32], [115, 112, 108, 105, 116, 32], [109, 101, 114, 103, 101, 32], [110, 97, 109, 101, 32], [98, 101, 102, 111, 114, 101, 32], [97, 102, 116, 101, 114, 32]]
/-- how far two texts agree -/
def agreeN : List UInt8 → List UInt8 → Nat
 | a :: l, b :: m => if a = b then agreeN l m + 1 else 0
 | _, _ => 0
/-- one line, from b on, up to en -/
noncomputable def lineR (s : List UInt8) (en f b : Nat) (st : CS) : PR CS :=
 if b = en ∨ bt s b = 35 then .ok st b
 else match wordsC.findIdx? (fun w => w.isPrefixOf ((s.drop b).take (en - b))) with
   | some 0 => (doneR en (b + 4)).bind fun _ j => if 4 ≤ st.c.ps.length then .bad 172 b else .ok { st with c := { st.c with ps := st.c.ps ++ [[]] } } j
   | some 1 => (quotedR s en f (b + 5)).bind fun u i => (mustR s en [32, 45, 62, 32] i).bind fun _ j => (quotedR s en f j).bind fun v k => (doneR en k).bind fun _ m =>
       if st.c.ps.length = 0 then .bad 172 b else .ok { st with c := { st.c with ps := st.c.ps.take (st.c.ps.length - 1) ++ [st.c.ps.getD (st.c.ps.length - 1) [] ++ [(u, v)]] } } m
   | some 2 => if st.split then .bad 172 b else (splitR s en (b + 6)).bind fun t j => .ok { st with c := { st.c with re := t }, split := true } j
   | some 3 => (quotedR s en f (b + 6)).bind fun u i => (mustR s en [32] i).bind fun _ j => (quotedR s en f j).bind fun v k => (doneR en k).bind fun _ m =>
       (idR st.ids u (b + 6) m).bind fun l _ => (idR st.ids v j m).bind fun r _ =>
         .ok { st with c := { st.c with ms := st.c.ms ++ [(l, r)] }, ids := if (idOf st.ids (u ++ v)).isSome then st.ids else st.ids ++ [(u ++ v, ((256 + st.c.ms.length : Nat) : Int))] } m
   | some 4 => (quotedR s en f (b + 5)).bind fun u i => (doneR en i).bind fun _ j => .ok { st with c := { st.c with ns := st.c.ns ++ [u] } } j
   | some 5 => (knownR s en f st.c.ns (b + 7)).bind fun n j => .ok { st with c := { st.c with bf := st.c.bf ++ [n] } } j
   | some 6 => (knownR s en f st.c.ns (b + 6)).bind fun n j => .ok { st with c := { st.c with af := st.c.af ++ [n] } } j
   | _ => .bad 170 (b + (wordsC.map fun w => agreeN w ((s.drop b).take (en - b))).foldl max 0)
/-- where a line ends that begins at i -/
def endL (s : List UInt8) (i : Nat) : Nat := i + ((s.drop i).takeWhile (· != 10)).length
/-- all lines from i on -/
noncomputable def linesR (s : List UInt8) : Nat → Nat → CS → PR CS
 | 0, _, _ => .out
 | f + 1, i, st =>
   if i < s.length then
     (if i = 0 then (mustR s (endL s i) [102, 114, 101, 116, 115, 97, 119, 32, 49] 0).bind fun _ j => (doneR (endL s i) j).bind fun _ k => .ok st k
       else lineR s (endL s i) (s.length + 1) i st).bind fun st' _ => linesR s f (endL s i + 1) st'
   else .ok st i
open Go.RowKit
section
variable {α β : Type}
/-- where it ends: k bytes behind i at least; n at most -/
def PR.In (i k n : Nat) : PR α → Prop
 | .ok _ j => i + k ≤ j ∧ j ≤ n
 | .bad _ j => i ≤ j ∧ j ≤ n
 | .out => True
theorem PR.In.bind {x : PR α} {f : α → Nat → PR β} {i k k' n : Nat} (h : x.In i k n) (h2 : ∀ a j, i + k ≤ j → j ≤ n → (f a j).In i k' n) : (x.bind f).In i k' n := by
 cases x with
 | ok a j => exact h2 a j h.1 h.2
 | bad e j => exact h
 | out => trivial
theorem PR.In.mono {x : PR α} {i k i' k' n : Nat} (h : x.In i k n) (h1 : i' ≤ i) (h2 : i' + k' ≤ i + k) : x.In i' k' n := by
 cases x with
 | ok a j => exact ⟨by have := h.1; omega, h.2⟩
 | bad e j => exact ⟨by have := h.1; omega, h.2⟩
 | out => trivial
/-- of two readings: what ends at k or ahead of it, or fails at k, the other one does too -/
def PR.Sim (k : Nat) (x y : PR α) : Prop :=
 match x with
 | .ok a j => j ≤ k → y = .ok a j
 | .bad e j => j = k → y = .bad e j
 | .out => True
theorem PR.Sim.far {x y : PR α} {i k l n : Nat} (h : x.In i l n) (hk : k < i) : x.Sim k y := by
 cases x with
 | ok a j => intro hj; have := h.1; omega
 | bad e j => intro hj; have := h.1; omega
 | out => trivial
theorem PR.Sim.bind {x y : PR α} {f g : α → Nat → PR β} {k n : Nat} (h : x.Sim k y) (hf : ∀ a j, x = .ok a j → (f a j).In j 0 n) (hs : ∀ a j, x = .ok a j → j ≤ k → (f a j).Sim k (g a j)) : (x.bind f).Sim k (y.bind g) := by
 cases x with
 | ok a j =>
   by_cases hj : j ≤ k
   · rw [h hj]; exact hs a j rfl hj
   · exact PR.Sim.far (hf a j rfl) (by omega)
 | bad e j => intro hj; rw [h hj]; rfl
 | out => trivial
end
section
variable {s : List UInt8} {i : Nat}
theorem numR_in (hi : i ≤ s.length) (least : Nat) : (numR s least i).In i 1 s.length := by
 unfold numR; split
 · rename_i h0; have h0 := h0.1; split
   · rename_i h1; have h1 := h1.1
     split <;> (simp only [PR.In]; omega)
   · split <;> (simp only [PR.In]; omega)
 · simp only [PR.In]; omega
theorem hexR_in (hi : i ≤ s.length) : (hexR s i).In i 1 s.length := by
 unfold hexR
 repeat' split
 all_goals (simp only [PR.In]; omega)
theorem escR_in (hi : i ≤ s.length) : (escR s i).In i 1 s.length := by
 unfold escR
 by_cases h : i < s.length
 · rw [if_pos h]; split
   · simp only [PR.In]; omega
   split
   · simp only [PR.In]; omega
   split
   · simp only [PR.In]; omega
   split
   · exact ((hexR_in h).mono (i' := i) (k' := 2) (by omega) (by omega)).bind fun a j h1 h2 => ((hexR_in h2).mono (i' := i) (k' := 1) (by omega) (by omega)).bind fun b j' h3 h4 => by simp only [PR.In]; omega
   split
   · simp only [PR.In]; omega
   · simp only [PR.In]; omega
 · rw [if_neg h]; simp only [PR.In]; omega
theorem pntR_in (hi : i ≤ s.length) : (pntR s i).In i 1 s.length := by
 unfold pntR; split
 · rename_i h; exact (escR_in (Nat.succ_le_of_lt h.1)).mono (by omega) (by omega)
 split
 · simp only [PR.In]; omega
 · simp only [PR.In]; omega
theorem kndR_lt {k : Nat → Bool} (h : kndR s i = some k) : i < s.length := by
 unfold kndR at h
 split at h
 · assumption
 · cases h
theorem bndR_in (hi : i ≤ s.length) : (bndR s i).In i 1 s.length := by
 unfold bndR; refine (numR_in hi 0).bind fun a j h1 h2 => ?_
 split
 · rename_i hc; split
   · simp only [PR.In]; have := hc.1; omega
   · exact ((numR_in (i := j + 1) (by have := hc.1; omega) a).mono (i' := i) (k' := 1) (by omega) (by omega)).bind fun b j' h3 h4 => by simp only [PR.In]; omega
 · simp only [PR.In]; omega
theorem clsL_in : ∀ (f : Nat) (a : Nat → Bool) (first : Bool) (i : Nat), i ≤ s.length → (clsL s f a first i).In i 0 s.length
 | 0, _, _, _, _ => trivial
 | f + 1, a, first, i, hi => by
   rw [clsL]; split
   · simp only [PR.In]; omega
   split
   · rename_i k hk; have hc : isC s i 92 ∧ kndR s (i + 1) = some k := by
       split at hk
       · exact ⟨by assumption, hk⟩
       · cases hk
     have := kndR_lt hc.2; exact (clsL_in f _ false (i + 2) (by omega)).mono (by omega) (by omega)
   · refine (pntR_in hi).bind fun lo j h1 h2 => ?_
     split
     · rename_i hc; refine ((pntR_in (i := j + 1) (by have := hc.1; omega)).mono (i' := i) (k' := 1) (by omega) (by omega)).bind fun hi' k h3 h4 => ?_
       split
       · simp only [PR.In]; have := hc.1; omega
       · exact (clsL_in f _ false k h4).mono (by omega) (by omega)
     · exact (clsL_in f _ false j h2).mono (by omega) (by omega)
theorem clsL_end : ∀ (f : Nat) (a : Nat → Bool) (first : Bool) (i : Nat) (b : Nat → Bool) (j : Nat), clsL s f a first i = .ok b j → isC s j 93
 | 0, _, _, _, _, _, h => by rw [clsL] at h; cases h
 | f + 1, a, first, i, b, j, h => by
   rw [clsL] at h
   split at h
   · rename_i hc; simp only [PR.ok.injEq] at h; rw [← h.2]; exact hc.2
   split at h
   · exact clsL_end f _ _ _ b j h
   · cases hp : pntR s i with
     | ok lo j' =>
       rw [hp] at h; dsimp only [PR.bind] at h
       split at h
       · cases hq : pntR s (j' + 1) with
         | ok lo2 j2 =>
           rw [hq] at h; dsimp only at h
           split at h
           · cases h
           · exact clsL_end f _ _ _ b j h
         | bad e j2 => rw [hq] at h; cases h
         | out => rw [hq] at h; cases h
       · exact clsL_end f _ _ _ b j h
     | bad e j' => rw [hp] at h; cases h
     | out => rw [hp] at h; cases h
theorem PR.In.tight {α : Type} {x : PR α} {i k n : Nat} (h : x.In i k n) (h2 : ∀ a j, x = .ok a j → j < n) {β : Type} {f : α → PR β} (hf : ∀ a j, x = .ok a j → (f a).In j 1 n) : (x.bind fun a _ => f a).In i 1 n := by
 cases x with
 | ok a j => exact (hf a j rfl).mono (by have := h.1; omega) (by have := h.1; omega)
 | bad e j => exact h
 | out => trivial
theorem clsR_in (f : Nat) (hi : i ≤ s.length) : (clsR s f i).In i 1 s.length := by
 unfold clsR; split
 · rename_i hc; have h1 := clsL_in f (fun _ => false) true (i + 1) hc.1; have h2 := clsL_end (s := s) f (fun _ => false) true (i + 1)
   cases hx : clsL s f (fun _ => false) true (i + 1) with
   | ok a j =>
     rw [hx] at h1; have h3 := (h2 _ _ hx).1; simp only [PR.In, PR.bind] at h1 ⊢; omega
   | bad e j => rw [hx] at h1; simp only [PR.In, PR.bind] at h1 ⊢; omega
   | out => trivial
 · have h1 := clsL_in f (fun _ => false) true i hi; have h2 := clsL_end (s := s) f (fun _ => false) true i
   cases hx : clsL s f (fun _ => false) true i with
   | ok a j =>
     rw [hx] at h1; have h3 := (h2 _ _ hx).1; simp only [PR.In, PR.bind] at h1 ⊢; omega
   | bad e j => rw [hx] at h1; simp only [PR.In, PR.bind] at h1 ⊢; omega
   | out => trivial
/-- how far a part goes at least -/
def Tk.least : Tk → Nat
 | .item => 1
 | .atom => 1
 | _ => 0
theorem prs_in : ∀ (f : Nat) (t : Tk) (d i : Nat), i ≤ s.length → (prs s f t d i).In i t.least s.length
 | 0, _, _, _, _ => trivial
 | f + 1, .alt, d, i, hi => by
   rw [prs]; exact (prs_in f (.cat []) d i hi).bind fun a j h1 h2 => (prs_in f (.altL [a]) d j h2).mono (by have : (Tk.cat []).least = 0 := rfl; omega) (by have : (Tk.cat []).least = 0 := rfl; simp only [Tk.least]; omega)
 | f + 1, .altL l, d, i, hi => by
   rw [prs]; split
   · rename_i hc; refine ((prs_in f (.cat []) d (i + 1) hc.1).mono (i' := i) (k' := 1) (by omega) (by simp only [Tk.least]; omega)).bind fun a j h1 h2 => (prs_in f (.altL _) d j h2).mono (by omega) (by simp only [Tk.least]; omega)
   · simp only [PR.In, Tk.least]; omega
 | f + 1, .cat l, d, i, hi => by
   rw [prs]; split
   · exact (prs_in f .item d i hi).bind fun a j h1 h2 => (prs_in f (.cat _) d j h2).mono (by omega) (by simp only [Tk.least]; omega)
   · simp only [PR.In, Tk.least]; omega
 | f + 1, .item, d, i, hi => by
   rw [prs]; exact (prs_in f .atom d i hi).bind fun a j h1 h2 => (prs_in f (.itemL a) d j h2).mono (by omega) (by simp only [Tk.least] at h1 ⊢; omega)
 | f + 1, .itemL t, d, i, hi => by
   rw [prs]; split
   · rename_i hc; exact (prs_in f (.itemL _) d (i + 1) hc.1).mono (by omega) (by simp only [Tk.least]; omega)
   split
   · rename_i hc; exact (prs_in f (.itemL _) d (i + 1) hc.1).mono (by omega) (by simp only [Tk.least]; omega)
   split
   · rename_i hc; exact (prs_in f (.itemL _) d (i + 1) hc.1).mono (by omega) (by simp only [Tk.least]; omega)
   split
   · rename_i hc; refine ((bndR_in (i := i + 1) hc.1).mono (i' := i) (k' := 1) (by omega) (by omega)).bind fun b j h1 h2 => ?_
     split
     · rename_i hd; exact (prs_in f (.itemL _) d (j + 1) hd.1).mono (by omega) (by simp only [Tk.least]; omega)
     · simp only [PR.In]; omega
   · simp only [PR.In, Tk.least]; omega
 | f + 1, .atom, d, i, hi => by
   rw [prs]; split
   · rename_i hc; split
     · simp only [PR.In]; omega
     · refine ((prs_in f .alt (d + 1) (i + 1) hc.1).mono (i' := i) (k' := 1) (by omega) (by simp only [Tk.least]; omega)).bind fun a j h1 h2 => ?_
       split
       · rename_i hd; simp only [PR.In, Tk.least]; have := hd.1; omega
       · simp only [PR.In]; omega
   split
   · rename_i hc; exact (clsR_in f (i := i + 1) hc.1).mono (by omega) (by simp only [Tk.least]; omega)
   split
   · rename_i hc; simp only [PR.In, Tk.least]; have := hc.1; omega
   split
   · rename_i hc; split
     · rename_i k hk; have := kndR_lt hk; simp only [PR.In, Tk.least]; omega
     · refine ((escR_in (i := i + 1) hc.1).mono (i' := i) (k' := 1) (by omega) (by omega)).bind fun a j h1 h2 => by simp only [PR.In, Tk.least]; omega
   split
   · simp only [PR.In, Tk.least]; omega
   · simp only [PR.In]; omega
/-- how much a part needs -/
def Tk.need : Tk → Nat
 | .alt => 5
 | .altL _ => 1
 | .cat _ => 4
 | .item => 3
 | .itemL _ => 1
 | .atom => 2
theorem PR.bind_out {α β : Type} {x : PR α} {f : α → Nat → PR β} (hx : x ≠ .out) (hf : ∀ a j, x = .ok a j → f a j ≠ .out) : x.bind f ≠ .out := by
 cases x with
 | ok a j => exact hf a j rfl
 | bad e j => intro h; cases h
 | out => exact absurd rfl hx
theorem numR_out {least : Nat} : numR s least i ≠ .out := by
 unfold numR
 repeat' split
 all_goals (intro h; cases h)
theorem hexR_out {i : Nat} : hexR s i ≠ .out := by
 unfold hexR
 repeat' split
 all_goals (intro h; cases h)
theorem escR_out {i : Nat} : escR s i ≠ .out := by
 unfold escR
 repeat' split
 all_goals first
   | (refine PR.bind_out hexR_out fun a j _ => PR.bind_out hexR_out fun b k _ => ?_; intro h; cases h)
   | (intro h; cases h)
theorem pntR_out {i : Nat} : pntR s i ≠ .out := by
 unfold pntR
 repeat' split
 all_goals first
   | exact escR_out
   | (intro h; cases h)
theorem bndR_out {i : Nat} : bndR s i ≠ .out := by
 unfold bndR; refine PR.bind_out numR_out fun a j _ => ?_
 repeat' split
 all_goals first
   | (refine PR.bind_out numR_out fun b k _ => ?_; intro h; cases h)
   | (intro h; cases h)
theorem PR.In.okB {α : Type} {x : PR α} {i k n : Nat} (h : x.In i k n) {a : α} {j : Nat} (hx : x = .ok a j) : i + k ≤ j ∧ j ≤ n := by
 rw [hx] at h; exact h
theorem clsL_out : ∀ (f : Nat) (a : Nat → Bool) (first : Bool) (i : Nat), i ≤ s.length → s.length - i < f → clsL s f a first i ≠ .out
 | 0, _, _, _, _, h => absurd h (Nat.not_lt_zero _)
 | f + 1, a, first, i, hi, hf => by
   rw [clsL]; split
   · intro h; cases h
   split
   · rename_i k hk; have hc : isC s i 92 ∧ kndR s (i + 1) = some k := by
       split at hk
       · exact ⟨by assumption, hk⟩
       · cases hk
     have := kndR_lt hc.2; exact clsL_out f _ _ _ (by omega) (by omega)
   · refine PR.bind_out pntR_out fun lo j hp => ?_
     have h1 := (pntR_in hi).okB hp; split
     · rename_i hc; refine PR.bind_out pntR_out fun hi' k hq => ?_
       have h2 := (pntR_in (i := j + 1) hc.1).okB hq; split
       · intro h; cases h
       · exact clsL_out f _ _ _ (by omega) (by omega)
     · exact clsL_out f _ _ _ (by omega) (by omega)
theorem clsR_out (f : Nat) (hi : i ≤ s.length) (hf : s.length - i < f) : clsR s f i ≠ .out := by
 unfold clsR; split
 · rename_i hc; have := hc.1; refine PR.bind_out (clsL_out f _ _ _ (by omega) (by omega)) fun a j _ => ?_
   intro h; cases h
 · refine PR.bind_out (clsL_out f _ _ _ hi (by omega)) fun a j _ => ?_
   intro h; cases h
theorem prs_out : ∀ (f : Nat) (t : Tk) (d i : Nat), i ≤ s.length → 8 * (s.length - i) + t.need ≤ f → prs s f t d i ≠ .out
 | 0, t, _, _, _, h => by cases t <;> simp only [Tk.need] at h <;> omega
 | f + 1, .alt, d, i, hi, hf => by
   rw [prs]; simp only [Tk.need] at hf; refine PR.bind_out (prs_out f (.cat []) d i hi (by simp only [Tk.need]; omega)) fun a j hp => ?_
   have h1 := (prs_in f (.cat []) d i hi).okB hp; simp only [Tk.least] at h1; exact prs_out f _ d j h1.2 (by simp only [Tk.need]; omega)
 | f + 1, .altL l, d, i, hi, hf => by
   rw [prs]; simp only [Tk.need] at hf; split
   · rename_i hc; have := hc.1; refine PR.bind_out (prs_out f (.cat []) d (i + 1) hc.1 (by simp only [Tk.need]; omega)) fun a j hp => ?_
     have h1 := (prs_in f (.cat []) d (i + 1) hc.1).okB hp; simp only [Tk.least] at h1; exact prs_out f _ d j h1.2 (by simp only [Tk.need]; omega)
   · intro h; cases h
 | f + 1, .cat l, d, i, hi, hf => by
   rw [prs]; simp only [Tk.need] at hf; split
   · refine PR.bind_out (prs_out f .item d i hi (by simp only [Tk.need]; omega)) fun a j hp => ?_
     have h1 := (prs_in f .item d i hi).okB hp; simp only [Tk.least] at h1; exact prs_out f _ d j h1.2 (by simp only [Tk.need]; omega)
   · intro h; cases h
 | f + 1, .item, d, i, hi, hf => by
   rw [prs]; simp only [Tk.need] at hf; refine PR.bind_out (prs_out f .atom d i hi (by simp only [Tk.need]; omega)) fun a j hp => ?_
   have h1 := (prs_in f .atom d i hi).okB hp; simp only [Tk.least] at h1; exact prs_out f _ d j h1.2 (by simp only [Tk.need]; omega)
 | f + 1, .itemL t, d, i, hi, hf => by
   rw [prs]; simp only [Tk.need] at hf; split
   · rename_i hc; have := hc.1; exact prs_out f _ d _ hc.1 (by simp only [Tk.need]; omega)
   split
   · rename_i hc; have := hc.1; exact prs_out f _ d _ hc.1 (by simp only [Tk.need]; omega)
   split
   · rename_i hc; have := hc.1; exact prs_out f _ d _ hc.1 (by simp only [Tk.need]; omega)
   split
   · rename_i hc; have := hc.1; refine PR.bind_out bndR_out fun b j hp => ?_
     have h1 := (bndR_in (i := i + 1) hc.1).okB hp; split
     · rename_i hd; have := hd.1; exact prs_out f _ d _ hd.1 (by simp only [Tk.need]; omega)
     · intro h; cases h
   · intro h; cases h
 | f + 1, .atom, d, i, hi, hf => by
   rw [prs]; simp only [Tk.need] at hf; split
   · rename_i hc; have := hc.1; split
     · intro h; cases h
     · refine PR.bind_out (prs_out f .alt (d + 1) (i + 1) hc.1 (by simp only [Tk.need]; omega)) fun a j hp => ?_
       split <;> (intro h; cases h)
   split
   · rename_i hc; have := hc.1; exact clsR_out f hc.1 (by omega)
   split
   · intro h; cases h
   split
   · split
     · intro h; cases h
     · refine PR.bind_out escR_out fun b j _ => ?_
       intro h; cases h
   split <;> (intro h; cases h)
end
open Go.RowKit
section
variable {s : List UInt8} {en : Nat}
theorem mustR_in : ∀ (u : List UInt8) (i : Nat), i ≤ en → (mustR s en u i).In i u.length en
 | [], i, hi => by rw [mustR]; simp only [PR.In, List.length_nil]; omega
 | c :: u, i, hi => by
   rw [mustR]; split
   · rename_i hc; exact (mustR_in u (i + 1) (by omega)).mono (by omega) (by rw [List.length_cons]; omega)
   · simp only [PR.In]; omega
theorem nextR_in {i : Nat} (hi : i ≤ en) : (nextR s en i).In i 1 en := by
 unfold nextR; split
 · simp only [PR.In]; omega
 · simp only [PR.In]; omega
theorem hexQ_in {i : Nat} (hi : i ≤ en) : (hexQ s en i).In i 1 en := by
 unfold hexQ; refine (nextR_in hi).bind fun c j h1 h2 => ?_
 split
 · simp only [PR.In]; omega
 · simp only [PR.In]; omega
theorem bslR_in {i : Nat} (hi : i ≤ en) : (bslR s en i).In i 1 en := by
 unfold bslR; refine (nextR_in hi).bind fun c j h1 h2 => ?_
 have ok : ∀ n, (PR.ok n j : PR Nat).In i 1 en := fun n => by simp only [PR.In]; omega
 split
 · exact ok _
 split
 · exact ok _
 split
 · exact ok _
 split
 · exact ok _
 split
 · exact ((hexQ_in h2).mono (i' := i) (k' := 1) (by omega) (by omega)).bind fun a k h3 h4 => ((hexQ_in h4).mono (i' := i) (k' := 1) (by omega) (by omega)).bind fun b m h5 h6 => by simp only [PR.In]; omega
 · simp only [PR.In]; omega
theorem qtR_in : ∀ (f : Nat) (b : List UInt8) (i : Nat), i ≤ en → (qtR s en f b i).In i 1 en
 | 0, _, _, _ => trivial
 | f + 1, b, i, hi => by
   rw [qtR]; refine (nextR_in hi).bind fun c j h1 h2 => ?_
   split
   · simp only [PR.In]; omega
   split
   · simp only [PR.In]; omega
   split
   · exact (qtR_in f _ j h2).mono (by omega) (by omega)
   · exact ((bslR_in h2).mono (i' := i) (k' := 1) (by omega) (by omega)).bind fun c k h3 h4 => (qtR_in f _ k h4).mono (by omega) (by omega)
theorem qtR_out : ∀ (f : Nat) (b : List UInt8) (i : Nat), i ≤ en → en - i < f → qtR s en f b i ≠ .out
 | 0, _, _, _, h => absurd h (Nat.not_lt_zero _)
 | f + 1, b, i, hi, hf => by
   rw [qtR]; have hnx : nextR s en i ≠ .out := by
     unfold nextR
     split <;> (intro h; cases h)
   refine PR.bind_out hnx fun c j hc => ?_
   have h1 := (nextR_in hi).okB hc; split
   · intro h; cases h
   split
   · intro h; cases h
   split
   · exact qtR_out f _ j h1.2 (by omega)
   · have hq : ∀ i, hexQ s en i ≠ .out := fun i => by
       unfold hexQ; refine PR.bind_out ?_ fun c j _ => ?_
       · unfold nextR
         split <;> (intro h; cases h)
       · split <;> (intro h; cases h)
     have hb : bslR s en j ≠ .out := by
       unfold bslR; refine PR.bind_out ?_ fun c j _ => ?_
       · unfold nextR
         split <;> (intro h; cases h)
       · repeat' split
         all_goals first
           | (refine PR.bind_out (hq _) fun _ _ _ => PR.bind_out (hq _) fun _ _ _ => ?_; intro h; cases h)
           | (intro h; cases h)
     refine PR.bind_out hb fun c k hk => ?_
     have h2 := (bslR_in h1.2).okB hk; exact qtR_out f _ k h2.2 (by omega)
theorem quotedR_in {f i : Nat} (hi : i ≤ en) : (quotedR s en f i).In i 2 en :=
 (mustR_in [34] i hi).bind fun _ j h1 h2 => (qtR_in f [] j h2).mono (by omega) (by simp at h1; omega)
theorem quotedR_out {f i : Nat} (hi : i ≤ en) (hf : en - i < f) : quotedR s en f i ≠ .out := by
 unfold quotedR; refine PR.bind_out ?_ fun _ j hj => ?_
 · rw [mustR]; split
   · rw [mustR]; intro h; cases h
   · intro h; cases h
 · have := (mustR_in [34] i hi).okB hj; exact qtR_out f [] j this.2 (by omega)
end
open Go.RowKit Go.Deep
section
variable {H : Type} {enc : TypeId × Value → H} {w : World} {spare : Nat → Bool} {held : Bool}
end
open Go.RowKit
mutual
def Re.sz : Re → Nat
 | .mk _ _ _ _ kids => 1 + Re.szL kids
def Re.szL : List Re → Nat
 | [] => 0
 | t :: l => Re.sz t + Re.szL l
end
theorem szL_append : ∀ (l m : List Re), Re.szL (l ++ m) = Re.szL l + Re.szL m
 | [], m => by simp [Re.szL]
 | t :: l, m => by rw [List.cons_append, Re.szL, Re.szL, szL_append l m]; omega
theorem sz_pos (t : Re) : 1 ≤ t.sz := by cases t; rw [Re.sz]; omega
theorem szL_len : ∀ l : List Re, l.length ≤ Re.szL l
 | [] => Nat.zero_le _
 | t :: l => by rw [List.length_cons, Re.szL]; have := sz_pos t; have := szL_len l; omega
/-- a row of trees, those of one kind taken in -/
def flatT (kind : Int) (l : List Re) : List Re := l.flatMap (fun t => if t.kindP = kind then t.kidsP else [t])
theorem flatT_snoc (kind : Int) (l : List Re) (t : Re) : flatT kind (l ++ [t]) = flatT kind l ++ (if t.kindP = kind then t.kidsP else [t]) := by
 unfold flatT; rw [List.flatMap_append]; simp
theorem flatT_le (kind : Int) : ∀ l : List Re, Re.szL (flatT kind l) ≤ Re.szL l
 | [] => Nat.le_refl _
 | t :: l => by
   have ih := flatT_le kind l; unfold flatT at ih ⊢; rw [List.flatMap_cons, szL_append, Re.szL]; have : Re.szL (if t.kindP = kind then t.kidsP else [t]) ≤ t.sz := by
     split
     · cases t; rw [Re.sz]; show Re.szL _ ≤ _; simp only [Re.kidsP]; omega
     · simp [Re.szL]
   omega
theorem joinT_eq (kind : Int) (l : List Re) : joinT kind l = match flatT kind l with | [t] => t | k => .mk kind (0, 0, 0, 0) 0 0 k := rfl
theorem joinT_one {kind : Int} {l : List Re} {t : Re} (h : flatT kind l = [t]) : joinT kind l = t := by rw [joinT_eq, h]
theorem joinT_many {kind : Int} {l : List Re} (h : (flatT kind l).length ≠ 1) : joinT kind l = .mk kind (0, 0, 0, 0) 0 0 (flatT kind l) := by
 rw [joinT_eq]; split
 · rename_i t e; rw [e] at h; simp at h
 · rfl
theorem joinT_sz (kind : Int) (l : List Re) : (joinT kind l).sz ≤ 1 + Re.szL l := by
 have h := flatT_le kind l
 by_cases h1 : (flatT kind l).length = 1
 · obtain ⟨t, ht⟩ := List.length_eq_one_iff.1 h1; rw [joinT_one ht]; rw [ht, Re.szL, Re.szL] at h; omega
 · rw [joinT_many h1, Re.sz]; omega
theorem setT_sz (p : Nat → Bool) : (setT p).sz = 1 := by unfold setT; rw [Re.sz, Re.szL]
theorem repT_sz (lo : Nat) (hi : Int) (t : Re) : (repT lo hi t).sz ≤ 1 + t.sz := by
 unfold repT; split
 · omega
 · rw [Re.sz, Re.szL, Re.szL]; omega
/-- how many nodes at most, what went into it and is read from i to j -/
def Tk.bound (i j : Nat) : Tk → Nat
 | .alt => 2 * (j - i) + 2
 | .altL l => Re.szL l + 2 * (j - i) + 1
 | .cat l => Re.szL l + 2 * (j - i) + 1
 | .item => 2 * (j - i) - 1
 | .itemL t => t.sz + 2 * (j - i)
 | .atom => 2 * (j - i) - 1
theorem PR.bind_ok {α β : Type} {x : PR α} {f : α → Nat → PR β} {b : β} {j : Nat} (h : x.bind f = .ok b j) : ∃ a k, x = .ok a k ∧ f a k = .ok b j := by
 cases x with
 | ok a k => exact ⟨a, k, rfl, h⟩
 | bad e k => cases h
 | out => cases h
section
variable {s : List UInt8}
theorem clsR_sz {f i : Nat} {t : Re} {j : Nat} (h : clsR s f i = .ok t j) : t.sz = 1 := by
 unfold clsR at h
 split at h
 all_goals
   obtain ⟨a, k, _, h2⟩ := PR.bind_ok h; simp only [PR.ok.injEq] at h2; rw [← h2.1]; exact setT_sz _
theorem prs_sz : ∀ (f : Nat) (k : Tk) (d i : Nat), i ≤ s.length → ∀ t j, prs s f k d i = .ok t j → t.sz ≤ k.bound i j
 | 0, _, _, _, _, _, _, h => by rw [prs] at h; cases h
 | f + 1, .alt, d, i, hi, t, j, h => by
   rw [prs] at h; obtain ⟨a, k, h1, h2⟩ := PR.bind_ok h; have b1 := (prs_in f (.cat []) d i hi).okB h1; have b2 := (prs_in f (.altL [a]) d k b1.2).okB h2; have c1 := prs_sz f _ d i hi _ _ h1; have c2 := prs_sz f _ d k b1.2 _ _ h2; simp only [Tk.bound, Tk.least, Re.szL] at *; omega
 | f + 1, .altL l, d, i, hi, t, j, h => by
   rw [prs] at h
   split at h
   · rename_i hc; obtain ⟨a, k, h1, h2⟩ := PR.bind_ok h; have b1 := (prs_in f (.cat []) d (i + 1) hc.1).okB h1; have b2 := (prs_in f (.altL (l ++ [a])) d k b1.2).okB h2; have c1 := prs_sz f _ d (i + 1) hc.1 _ _ h1; have c2 := prs_sz f _ d k b1.2 _ _ h2; simp only [Tk.bound, Tk.least, Re.szL, szL_append] at *; omega
   · simp only [PR.ok.injEq] at h; have := joinT_sz 3 l; rw [← h.1]; simp only [Tk.bound]; omega
 | f + 1, .cat l, d, i, hi, t, j, h => by
   rw [prs] at h
   split at h
   · obtain ⟨a, k, h1, h2⟩ := PR.bind_ok h; have b1 := (prs_in f .item d i hi).okB h1; have b2 := (prs_in f (.cat (l ++ [a])) d k b1.2).okB h2; have c1 := prs_sz f _ d i hi _ _ h1; have c2 := prs_sz f _ d k b1.2 _ _ h2; simp only [Tk.bound, Tk.least, Re.szL, szL_append] at *; omega
   · simp only [PR.ok.injEq] at h; have := joinT_sz 2 l; rw [← h.1]; simp only [Tk.bound]; omega
 | f + 1, .item, d, i, hi, t, j, h => by
   rw [prs] at h; obtain ⟨a, k, h1, h2⟩ := PR.bind_ok h; have b1 := (prs_in f .atom d i hi).okB h1; have b2 := (prs_in f (.itemL a) d k b1.2).okB h2; have c1 := prs_sz f _ d i hi _ _ h1; have c2 := prs_sz f _ d k b1.2 _ _ h2; simp only [Tk.bound, Tk.least] at *; omega
 | f + 1, .itemL t0, d, i, hi, t, j, h => by
   rw [prs] at h; have step : ∀ lo hi' (k : Nat), i + 1 ≤ k → k ≤ s.length → prs s f (.itemL (repT lo hi' t0)) d k = .ok t j → t.sz ≤ t0.sz + 2 * (j - i) := by
     intro lo hi' k h1 h2 h3; have b2 := (prs_in f (.itemL (repT lo hi' t0)) d k h2).okB h3; have c2 := prs_sz f _ d k h2 _ _ h3; have := repT_sz lo hi' t0; simp only [Tk.bound, Tk.least] at *; omega
   split at h
   · rename_i hc; exact step _ _ _ (Nat.le_refl _) hc.1 h
   split at h
   · rename_i hc; exact step _ _ _ (Nat.le_refl _) hc.1 h
   split at h
   · rename_i hc; exact step _ _ _ (Nat.le_refl _) hc.1 h
   split at h
   · rename_i hc; obtain ⟨b, k, h1, h2⟩ := PR.bind_ok h; have b1 := (bndR_in (i := i + 1) hc.1).okB h1
     split at h2
     · rename_i hd; exact step _ _ _ (by omega) hd.1 h2
     · cases h2
   · simp only [PR.ok.injEq] at h; rw [← h.1]; simp only [Tk.bound]; omega
 | f + 1, .atom, d, i, hi, t, j, h => by
   have hin := (prs_in (f + 1) .atom d i hi).okB h; simp only [Tk.least, Tk.bound] at hin ⊢; rw [prs] at h
   split at h
   · rename_i hc
     split at h
     · cases h
     · obtain ⟨a, k, h1, h2⟩ := PR.bind_ok h; have b1 := (prs_in f .alt (d + 1) (i + 1) hc.1).okB h1; have c1 := prs_sz f _ (d + 1) (i + 1) hc.1 _ _ h1
       split at h2
       · simp only [PR.ok.injEq] at h2; simp only [Tk.bound, Tk.least] at *; rw [← h2.1]; omega
       · cases h2
   split at h
   · have := clsR_sz h; omega
   split at h
   · simp only [PR.ok.injEq] at h; rw [← h.1, setT_sz]; omega
   split at h
   · split at h
     · simp only [PR.ok.injEq] at h; rw [← h.1, setT_sz]; omega
     · obtain ⟨a, k, h1, h2⟩ := PR.bind_ok h; simp only [PR.ok.injEq] at h2; rw [← h2.1, setT_sz]; omega
   split at h
   · simp only [PR.ok.injEq] at h; rw [← h.1, setT_sz]; omega
   · cases h
end
end Go.Proofs.YtonkenlkigfeoaaDoor
