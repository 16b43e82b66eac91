/- Maps of the call's own from texts to numbers: asked, given a new key; in plain words. No conditions. -/
import Derived.Test.YtonkenlkigfeoaaDoorPk05
import Derived.Test.YtonkenlkigfeoaaDoorPk07
namespace Go.Proofs.YtonkenlkigfeoaaDoor
open Go.RowKit
def kvAt (i : Nat) (x : List UInt8 × Int) : MapEntry := { key := encS x.1, val := .int .i64 x.2, born := i }
def kvFrom : Nat → List (List UInt8 × Int) → List MapEntry
 | _, [] => []
 | i, x :: l => kvAt i x :: kvFrom (i + 1) l
theorem kvFrom_append (i : Nat) (l : List (List UInt8 × Int)) (a : List UInt8 × Int) : kvFrom i (l ++ [a]) = kvFrom i l ++ [kvAt (i + l.length) a] := by
 induction l generalizing i with
 | nil => rfl
 | cons b l ih => simp only [List.cons_append, kvFrom, ih, List.length_cons]; rw [show i + 1 + l.length = i + (l.length + 1) by omega]
/-- block b is a map with just these keys and numbers, in the order in which they came -/
def KvAt (w : World) (b : Nat) (l : List (List UInt8 × Int)) : Prop := w.heap[b]? = some (.map (kvFrom 0 l).toArray l.length)
section
variable {w w' : World} {b : Nat} {l : List (List UInt8 × Int)}
theorem KvAt.lt (h : KvAt w b l) : b < w.heap.size := (Array.getElem?_eq_some_iff.1 h).1
theorem KvAt.keep (h : KvAt w b l) (hb : Below w.heap.size w w') : KvAt w' b l := by unfold KvAt; rw [hb.block b h.lt]; exact h
theorem KvAt.keepB {B : Nat} (h : KvAt w b l) (hb : Below B w w') (hg : b < B) : KvAt w' b l := by unfold KvAt; rw [hb.block b hg]; exact h
theorem KvAt.new (w : World) : KvAt (w.alloc (.map #[] 0)) w.heap.size [] := Go.heap_alloc_new _ _
end
def findKv (a : List UInt8) : Nat → List (List UInt8 × Int) → Option (Nat × Value)
 | _, [] => none
 | i, x :: l => if a = x.1 then some (i, .int .i64 x.2) else findKv a (i + 1) l
theorem findKv_id (a : List UInt8) : ∀ (l : List (List UInt8 × Int)) (i : Nat), (findKv a i l).map (·.2) = (idOf l a).map fun n => Value.int .i64 n
 | [], _ => rfl
 | x :: l, i => by
   have ih := findKv_id a l (i + 1); unfold idOf at ih ⊢; rw [findKv, List.find?_cons]
   by_cases h : a = x.1
   · have hb : (x.1 == a) = true := by rw [h]; exact beq_self_eq_true _
     rw [if_pos h, hb]; rfl
   · have hb : (x.1 == a) = false := beq_false_of_ne fun e => h e.symm
     rw [if_neg h, hb]; exact ih
section
variable {P : Program} {k : TypeId}
theorem findNow_kv (a : List UInt8) : ∀ (l : List (List UInt8 × Int)) (i : Nat), Instr.findNow .string (encS a) (kvFrom i l) i = some (findKv a i l)
 | [], i => by simp [kvFrom, Instr.findNow, findKv]
 | b :: l, i => by
   have h := findNow_kv a l (i + 1)
   by_cases hab : a = b.1
   · subst hab
     simp [kvFrom, Instr.findNow, Instr.sameNow, kvAt, findKv, encS_eq]
   · simp [kvFrom, Instr.findNow, Instr.sameNow, kvAt, findKv, encS_eq, hab, h]
theorem run_findKv (hk : P.underlying k = some .string) (a : List UInt8) (w : World) (l : List (List UInt8 × Int)) : (Instr.findKey k (encS a) (kvFrom 0 l)).run P w = .ok (findKv a 0 l) w := by
 unfold Instr.findKey
 simp [Sem.run_bind, run_underlying hk, findNow_kv]
/-- 'v, ok := m[k]' -/
theorem run_lookKv (hk : P.underlying k = some .string) {t e : TypeId} (ht : P.underlying t = some (.map k e)) {z : Value} (hz : ∀ w, (zeroValue e).run P w = .ok z w) (a : List UInt8) {w : World} {b : Nat} {l : List (List UInt8 × Int)} (h : KvAt w b l) :
   (Instr.lookup t (.map (some b)) (encS a) true).run P w = .ok (.tuple #[((idOf l a).map fun n => Value.int .i64 n).getD z, .bool (idOf l a).isSome]) w := by
 have hid := findKv_id a l 0; unfold Instr.lookup; simp only [Sem.run_bind, run_underlying ht, MapKept.run_getObj_map h, Result.andThen_ok, run_checkS hk]
 cases hf : findKv a 0 l with
 | none =>
   rw [hf] at hid
   cases hi : idOf l a with
   | none => simp [hf, hz, run_findKv hk]
   | some n => rw [hi] at hid; simp at hid
 | some j =>
   rw [hf] at hid
   cases hi : idOf l a with
   | none => rw [hi] at hid; simp at hid
   | some n =>
     rw [hi] at hid; simp only [Option.map_some, Option.some.injEq] at hid; obtain ⟨j1, j2⟩ := j; dsimp only at hid; subst hid
     simp [hf, run_findKv hk]
/-- 'm[k] = v', the key being a new one -/
theorem run_putKv (hk : P.underlying k = some .string) {t e : TypeId} (ht : P.underlying t = some (.map k e)) (a : List UInt8) (n : Int) {w : World} {b : Nat} {l : List (List UInt8 × Int)} (h : KvAt w b l) (hn : (idOf l a).isSome = false) :
   (Instr.mapUpdate t (.map (some b)) (encS a) (.int .i64 n)).run P w = .ok () (Go.ChangeMaps.setBlock w b (.map (kvFrom 0 (l ++ [(a, n)])).toArray (l.length + 1))) := by
 have hid := findKv_id a l 0; have hn' : findKv a 0 l = none := by
   cases hf : findKv a 0 l with
   | none => rfl
   | some j =>
     rw [hf] at hid
     cases hi : idOf l a with
     | none => rw [hi] at hid; simp at hid
     | some m => rw [hi] at hn; simp at hn
 unfold Instr.mapUpdate
 simp [Sem.run_bind, run_underlying ht, MapKept.run_getObj_map h, run_checkS hk, run_findKv hk, hn', MapKept.run_setObj_map _ h, kvFrom_append, kvAt, Go.ChangeMaps.setBlock]
theorem KvAt.put {w : World} {b : Nat} {l : List (List UInt8 × Int)} (h : KvAt w b l) (x : List UInt8 × Int) : KvAt (Go.ChangeMaps.setBlock w b (.map (kvFrom 0 (l ++ [x])).toArray (l.length + 1))) b (l ++ [x]) := by
 unfold KvAt; rw [Go.ChangeMaps.heap_setBlock_same h, List.length_append]; rfl
end
end Go.Proofs.YtonkenlkigfeoaaDoor
