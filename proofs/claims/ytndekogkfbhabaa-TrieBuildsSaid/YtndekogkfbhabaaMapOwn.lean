/- Maps of the call's own, keyed by arrays: asked, given a new key, counted; in plain words. No conditions. -/
import Derived.Test.YtndekogkfbhabaaRegion
import Derived.ChangeMaps5
import Derived.MapKept
import Derived.Carry
namespace Go.Proofs.Ytndekogkfbhabaa
open Go.RowKit
section
variable {α : Type} (enc : α → Value) (val : Nat → Value)
def entAt (i : Nat) (a : α) : MapEntry := { key := enc a, val := val i, born := i }
def entsFrom : Nat → List α → List MapEntry
  | _, [] => []
  | i, a :: l => entAt enc val i a :: entsFrom (i + 1) l
theorem entsFrom_append (i : Nat) (l : List α) (a : α) : entsFrom enc val i (l ++ [a]) = entsFrom enc val i l ++ [entAt enc val (i + l.length) a] := by
  induction l generalizing i with
  | nil => rfl
  | cons b l ih => simp only [List.cons_append, entsFrom, ih, List.length_cons]; rw [show i + 1 + l.length = i + (l.length + 1) by omega]
/-- block b is a map with just these keys, in the order in which they came -/
def MapAt (w : World) (b : Nat) (l : List α) : Prop := w.heap[b]? = some (.map (entsFrom enc val 0 l).toArray l.length)
variable {enc val}
theorem MapAt.lt {w : World} {b : Nat} {l : List α} (h : MapAt enc val w b l) : b < w.heap.size := (Array.getElem?_eq_some_iff.1 h).1
theorem MapAt.keep {w w' : World} {b : Nat} {l : List α} (h : MapAt enc val w b l) (hb : Below w.heap.size w w') : MapAt enc val w' b l := by
  unfold MapAt; rw [hb.block b h.lt]; exact h
theorem MapAt.keepB {w w' : World} {b B : Nat} {l : List α} (h : MapAt enc val w b l) (hb : Below B w w') (hg : b < B) : MapAt enc val w' b l := by
  unfold MapAt; rw [hb.block b hg]; exact h
theorem MapAt.new (w : World) : MapAt enc val (w.alloc (.map #[] 0)) w.heap.size ([] : List α) := Go.heap_alloc_new _ _
/-- what the key's type must bear -/
structure KeyT [DecidableEq α] (P : Program) (enc : α → Value) (k : TypeId) : Prop where
  arr : ∃ n e, P.underlying k = some (.array n e)
  chk : ∀ em (a : α) (w : World), (Instr.checkKey em 10000 k (enc a)).run P w = .ok () w
  eq : ∀ (a b : α) (w : World), (Op.equal k (enc a) (enc b)).run P w = .ok (decide (a = b)) w
variable {P : Program} {k : TypeId}
/-- where a key stands -/
def findIn [DecidableEq α] (a : α) : Nat → List α → Option Nat
  | _, [] => none
  | i, b :: l => if a = b then some i else findIn a (i + 1) l
theorem run_findAsking [DecidableEq α] (K : KeyT P enc k) (a : α) (w : World) : ∀ (l : List α) (i : Nat), (Instr.findAsking k (enc a) (entsFrom enc val i l) i).run P w = .ok ((findIn a i l).map fun j => (j, val j)) w
  | [], i => by simp [entsFrom, Instr.findAsking, findIn]
  | b :: l, i => by
    have h := run_findAsking K a w l (i + 1)
    by_cases hab : a = b
    · simp [entsFrom, Instr.findAsking, findIn, Sem.run_bind, K.eq, entAt, hab]
    · simp [entsFrom, Instr.findAsking, findIn, Sem.run_bind, K.eq, entAt, hab, h]
theorem run_findKey [DecidableEq α] (K : KeyT P enc k) (a : α) (w : World) (l : List α) : (Instr.findKey k (enc a) (entsFrom enc val 0 l)).run P w = .ok ((findIn a 0 l).map fun j => (j, val j)) w := by
  obtain ⟨n, e, hu⟩ := K.arr
  have h := run_findAsking (val := val) K a w l 0
  unfold Instr.findKey
  cases l with
  | nil => simp [run_underlying hu, entsFrom, Instr.findNow, findIn]
  | cons b l => simp [Sem.run_bind, run_underlying hu, entsFrom, Instr.findNow, Instr.sameNow] at h ⊢; exact h
/-- 'v, ok := m[k]' -/
theorem run_look [DecidableEq α] (K : KeyT P enc k) {t e : TypeId} (ht : P.underlying t = some (.map k e)) {z : Value} (hz : ∀ w, (zeroValue e).run P w = .ok z w) (a : α) {w : World} {b : Nat} {l : List α} (h : MapAt enc val w b l) :
    (Instr.lookup t (.map (some b)) (enc a) true).run P w = .ok (.tuple #[((findIn a 0 l).map val).getD z, .bool (findIn a 0 l).isSome]) w := by
  unfold Instr.lookup
  simp only [Sem.run_bind, run_underlying ht, MapKept.run_getObj_map h, Result.andThen_ok, K.chk]
  cases hf : findIn a 0 l with
  | none => simp [hf, hz, run_findKey K]
  | some j => simp [hf, run_findKey K]
/-- 'm[k] = v', the key being a new one -/
theorem run_put [DecidableEq α] (K : KeyT P enc k) {t e : TypeId} (ht : P.underlying t = some (.map k e)) (a : α) {w : World} {b : Nat} {l : List α} (h : MapAt enc val w b l) (hn : findIn a 0 l = none) :
    (Instr.mapUpdate t (.map (some b)) (enc a) (val l.length)).run P w = .ok () (Go.ChangeMaps.setBlock w b (.map (entsFrom enc val 0 (l ++ [a])).toArray (l.length + 1))) := by
  unfold Instr.mapUpdate
  simp [Sem.run_bind, run_underlying ht, MapKept.run_getObj_map h, K.chk, run_findKey K, hn, MapKept.run_setObj_map _ h, entsFrom_append, entAt, Go.ChangeMaps.setBlock]
theorem MapAt.put {w : World} {b : Nat} {l : List α} (h : MapAt enc val w b l) (a : α) : MapAt enc val (Go.ChangeMaps.setBlock w b (.map (entsFrom enc val 0 (l ++ [a])).toArray (l.length + 1))) b (l ++ [a]) := by
  unfold MapAt
  rw [Go.ChangeMaps.heap_setBlock_same h, List.length_append]; rfl
theorem entsFrom_len (i : Nat) (l : List α) : (entsFrom enc val i l).length = l.length := by
  induction l generalizing i with
  | nil => rfl
  | cons b l ih => simp [entsFrom, ih]
end
end Go.Proofs.Ytndekogkfbhabaa
