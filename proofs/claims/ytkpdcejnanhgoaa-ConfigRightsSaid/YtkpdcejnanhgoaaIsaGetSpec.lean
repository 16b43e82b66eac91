/- Plain laws: instructions read from bytes (P21.2). No conditions; no program. -/
import Derived.Test.YtkpdcejnanhgoaaIsaSpec
import Derived.Test.YtkpdcejnanhgoaaWireSpec
namespace Go.Proofs.Ytkpdcejnanhgoaa
/-- an instruction with an operation alone -/
def opI (o : Int) : Nat → Int := fun j => if j = 0 then o else 0
/-- fields of an instruction: the error, the instruction, the place behind it -/
def flds (t : List UInt8) : List Nat → (Nat → Int) → Int → Int × (Nat → Int) × Int
  | [], v, a => (0, v, a)
  | x :: l, v, a => if (vget t a).2.2 ≠ 0 then ((vget t a).2.2, v, a) else if mst x < (vget t a).1 then (210, v, a) else flds t l (upd v (pos x) ((vget t a).1 : Nat)) (vget t a).2.1
def ins1 (t : List UInt8) (a : Int) : Int × (Nat → Int) × Int :=
  if (vget t a).2.2 ≠ 0 then ((vget t a).2.2, opI 0, a) else if (vget t a).1 < 1 ∨ 17 < (vget t a).1 then (210, opI 0, a) else flds t (letr (vget t a).1) (opI ((vget t a).1 : Nat)) (vget t a).2.1
def many (t : List UInt8) : Nat → Int → List (Nat → Int) → Int × List (Nat → Int) × Int
  | 0, a, acc => (0, acc, a)
  | n + 1, a, acc => if (ins1 t a).1 ≠ 0 then ((ins1 t a).1, [], a) else many t n (ins1 t a).2.2 (acc ++ [(ins1 t a).2.1])
def getI2 (len e1 : Int) (n : Nat) (m : Int × List (Nat → Int) × Int) : Int × List (Nat → Int) :=
  if e1 ≠ 0 then (e1, []) else if 4096 < n then (2, []) else if m.1 ≠ 0 then (m.1, []) else if m.2.2 ≠ len then (210, []) else (0, m.2.1)
/-- what Get tells: the error, the instructions -/
def getI (t : List UInt8) : Int × List (Nat → Int) := getI2 t.length (vget t 0).2.2 (vget t 0).1 (many t (vget t 0).1 (vget t 0).2.1 [])
theorem flds_bad {t : List UInt8} {x : Nat} {l : List Nat} {v : Nat → Int} {a : Int} {e : Int} (h : (vget t a).2.2 = e) (he : e ≠ 0) : (flds t (x :: l) v a).1 = e := by
  rw [flds, if_pos (by rw [h]; exact he)]; exact h
theorem flds_most {t : List UInt8} {x : Nat} {l : List Nat} {v : Nat → Int} {a : Int} (h : (vget t a).2.2 = 0) (hm : mst x < (vget t a).1) : (flds t (x :: l) v a).1 = 210 := by
  rw [flds, if_neg (by rw [h]; simp), if_pos hm]
theorem flds_on {t : List UInt8} {x : Nat} {l : List Nat} {v : Nat → Int} {a : Int} (h : (vget t a).2.2 = 0) (hm : ¬ mst x < (vget t a).1) : flds t (x :: l) v a = flds t l (upd v (pos x) ((vget t a).1 : Nat)) (vget t a).2.1 := by
  rw [flds, if_neg (by rw [h]; simp), if_neg hm]
theorem ins1_bad {t : List UInt8} {a e : Int} (h : (vget t a).2.2 = e) (he : e ≠ 0) : (ins1 t a).1 = e := by
  unfold ins1; rw [if_pos (by rw [h]; exact he)]; exact h
theorem ins1_op {t : List UInt8} {a : Int} (h : (vget t a).2.2 = 0) (ho : (vget t a).1 < 1 ∨ 17 < (vget t a).1) : (ins1 t a).1 = 210 := by
  unfold ins1; rw [if_neg (by rw [h]; simp), if_pos ho]
theorem ins1_on {t : List UInt8} {a : Int} (h : (vget t a).2.2 = 0) (h1 : 1 ≤ (vget t a).1) (h2 : (vget t a).1 ≤ 17) : ins1 t a = flds t (letr (vget t a).1) (opI ((vget t a).1 : Nat)) (vget t a).2.1 := by
  unfold ins1; rw [if_neg (by rw [h]; simp), if_neg (by omega)]
theorem many_bad {t : List UInt8} {n : Nat} {a e : Int} {acc : List (Nat → Int)} (h : (ins1 t a).1 = e) (he : e ≠ 0) : (many t (n + 1) a acc).1 = e := by
  rw [many, if_pos (by rw [h]; exact he)]; exact h
theorem many_on {t : List UInt8} {n : Nat} {a : Int} {acc : List (Nat → Int)} (h : (ins1 t a).1 = 0) : many t (n + 1) a acc = many t n (ins1 t a).2.2 (acc ++ [(ins1 t a).2.1]) := by
  rw [many, if_neg (by rw [h]; simp)]
theorem getI2_bad {len e : Int} {n : Nat} {m : Int × List (Nat → Int) × Int} (he : e ≠ 0) : getI2 len e n m = (e, []) := by unfold getI2; rw [if_pos he]
theorem getI2_long {len : Int} {n : Nat} {m : Int × List (Nat → Int) × Int} (h : 4096 < n) : getI2 len 0 n m = (2, []) := by unfold getI2; rw [if_neg (by simp), if_pos h]
theorem getI2_many {len e : Int} {n : Nat} {m : Int × List (Nat → Int) × Int} (h : ¬ 4096 < n) (he : m.1 = e) (h0 : e ≠ 0) : getI2 len 0 n m = (e, []) := by unfold getI2; rw [if_neg (by simp), if_neg h, if_pos (by rw [he]; exact h0), he]
theorem getI2_end {len b : Int} {n : Nat} {l : List (Nat → Int)} (h : ¬ 4096 < n) : getI2 len 0 n (0, l, b) = if b ≠ len then (210, []) else (0, l) := by unfold getI2; rw [if_neg (by simp), if_neg h, if_neg (by simp)]
theorem getI_bad {t : List UInt8} {e : Int} (h : (vget t 0).2.2 = e) (he : e ≠ 0) : getI t = (e, []) := by
  unfold getI; rw [h]; exact getI2_bad he
theorem getI_long {t : List UInt8} (h : (vget t 0).2.2 = 0) (hl : 4096 < (vget t 0).1) : getI t = (2, []) := by
  unfold getI; rw [h]; exact getI2_long hl
theorem getI_many {t : List UInt8} {n : Nat} {a e : Int} (h : (vget t 0).2.2 = 0) (hl : ¬ 4096 < n) (hn : n = (vget t 0).1) (ha : a = (vget t 0).2.1) (he : (many t n a []).1 = e) (h0 : e ≠ 0) : getI t = (e, []) := by
  unfold getI; rw [h, ← hn, ← ha]; exact getI2_many hl he h0
theorem getI_end {t : List UInt8} {n : Nat} {a b : Int} {l : List (Nat → Int)} (h : (vget t 0).2.2 = 0) (hl : ¬ 4096 < n) (hn : n = (vget t 0).1) (ha : a = (vget t 0).2.1) (he : many t n a [] = (0, l, b)) : getI t = if b ≠ (t.length : Int) then (210, []) else (0, l) := by
  unfold getI; rw [h, ← hn, ← ha, he]; exact getI2_end hl
/-- an instruction's cells -/
def icL (v : Nat → Int) : List Value := [.int .i64 (v 0), .int .i64 (v 1), .int .i64 (v 2), .int .i64 (v 3), .int .i64 (v 4)]
theorem icL_len (v : Nat → Int) : (icL v).length = 5 := rfl
end Go.Proofs.Ytkpdcejnanhgoaa
