/- Maps of the call's own from bytes to pointers: asked, given a new key; in plain words. No conditions. -/
import Derived.Test.YtndekogkfbhabaaMapStr
namespace Go.Proofs.Ytndekogkfbhabaa
open Go.RowKit
abbrev encB (c : UInt8) : Value := .int .u8 (c.toNat : Nat)
abbrev ptrV (q : Nat) : Value := .pointer (some ⟨q, 0, none⟩)
def bpEnt (i : Nat) (x : UInt8 × Nat) : MapEntry := { key := encB x.1, val := ptrV x.2, born := i }
def bpFrom : Nat → List (UInt8 × Nat) → List MapEntry
  | _, [] => []
  | i, x :: l => bpEnt i x :: bpFrom (i + 1) l
theorem bpFrom_append (i : Nat) (l : List (UInt8 × Nat)) (a : UInt8 × Nat) : bpFrom i (l ++ [a]) = bpFrom i l ++ [bpEnt (i + l.length) a] := by
  induction l generalizing i with
  | nil => rfl
  | cons b l ih => simp only [List.cons_append, bpFrom, ih, List.length_cons]; rw [show i + 1 + l.length = i + (l.length + 1) by omega]
/-- block b is a map with just these keys and pointers, in the order in which they came -/
def BpAt (w : World) (b : Nat) (l : List (UInt8 × Nat)) : Prop := w.heap[b]? = some (.map (bpFrom 0 l).toArray l.length)
section
variable {w w' : World} {b : Nat} {l : List (UInt8 × Nat)}
theorem BpAt.lt (h : BpAt w b l) : b < w.heap.size := (Array.getElem?_eq_some_iff.1 h).1
theorem BpAt.keep (h : BpAt w b l) (hb : Below w.heap.size w w') : BpAt w' b l := by unfold BpAt; rw [hb.block b h.lt]; exact h
theorem BpAt.new (w : World) : BpAt (w.alloc (.map #[] 0)) w.heap.size [] := Go.heap_alloc_new _ _
end
/-- what a byte leads to -/
def bpOf (l : List (UInt8 × Nat)) (c : UInt8) : Option Nat := (l.find? fun x => x.1 == c).map (·.2)
def findBp (a : UInt8) : Nat → List (UInt8 × Nat) → Option (Nat × Value)
  | _, [] => none
  | i, x :: l => if a = x.1 then some (i, ptrV x.2) else findBp a (i + 1) l
theorem findBp_of (a : UInt8) : ∀ (l : List (UInt8 × Nat)) (i : Nat), (findBp a i l).map (·.2) = (bpOf l a).map fun n => ptrV n
  | [], _ => rfl
  | x :: l, i => by
    have ih := findBp_of a l (i + 1)
    unfold bpOf at ih ⊢
    rw [findBp, List.find?_cons]
    by_cases h : a = x.1
    · have hb : (x.1 == a) = true := by rw [h]; exact beq_self_eq_true _
      rw [if_pos h, hb]; rfl
    · have hb : (x.1 == a) = false := beq_false_of_ne fun e => h e.symm
      rw [if_neg h, hb]; exact ih
theorem byte_cast {a b : UInt8} : ((a.toNat : Int) == (b.toNat : Int)) = decide (a = b) := by
  rw [Bool.eq_iff_iff, beq_iff_eq, decide_eq_true_iff]
  constructor
  · intro h
    exact UInt8.toNat_inj.1 (by omega)
  · rintro rfl; rfl
section
variable {P : Program} {k : TypeId}
theorem findNow_bp (a : UInt8) : ∀ (l : List (UInt8 × Nat)) (i : Nat), Instr.findNow (.int .u8) (encB a) (bpFrom i l) i = some (findBp a i l)
  | [], i => by simp [bpFrom, Instr.findNow, findBp]
  | b :: l, i => by
    have h := findNow_bp a l (i + 1)
    by_cases hab : a = b.1
    · subst hab
      simp [bpFrom, Instr.findNow, Instr.sameNow, bpEnt, findBp]
    · have e : ((a.toNat : Int) == (b.1.toNat : Int)) = false := by rw [byte_cast]; exact decide_eq_false hab
      simp [bpFrom, Instr.findNow, Instr.sameNow, bpEnt, findBp, hab, e, h]
theorem run_findBp (hk : P.underlying k = some (.int .u8)) (a : UInt8) (w : World) (l : List (UInt8 × Nat)) : (Instr.findKey k (encB a) (bpFrom 0 l)).run P w = .ok (findBp a 0 l) w := by
  unfold Instr.findKey
  simp [Sem.run_bind, run_underlying hk, findNow_bp]
theorem run_checkB (hk : P.underlying k = some (.int .u8)) (em : Bool) (a : UInt8) (w : World) : (Instr.checkKey em 10000 k (encB a)).run P w = .ok () w := by
  unfold Instr.checkKey
  simp [Sem.run_bind, run_underlying hk]
/-- 'v, ok := m[k]' -/
theorem run_lookBp (hk : P.underlying k = some (.int .u8)) {t e : TypeId} (ht : P.underlying t = some (.map k e)) {z : Value} (hz : ∀ w, (zeroValue e).run P w = .ok z w) (a : UInt8) {w : World} {b : Nat} {l : List (UInt8 × Nat)} (h : BpAt w b l) :
    (Instr.lookup t (.map (some b)) (encB a) true).run P w = .ok (.tuple #[((bpOf l a).map fun n => ptrV n).getD z, .bool (bpOf l a).isSome]) w := by
  have hid := findBp_of a l 0
  unfold Instr.lookup
  simp only [Sem.run_bind, run_underlying ht, MapKept.run_getObj_map h, Result.andThen_ok, run_checkB hk]
  cases hf : findBp a 0 l with
  | none =>
    rw [hf] at hid
    cases hi : bpOf l a with
    | none => simp [hf, hz, run_findBp hk]
    | some n => rw [hi] at hid; simp at hid
  | some j =>
    rw [hf] at hid
    cases hi : bpOf l a with
    | none => rw [hi] at hid; simp at hid
    | some n =>
      rw [hi] at hid
      simp only [Option.map_some, Option.some.injEq] at hid
      obtain ⟨j1, j2⟩ := j
      dsimp only at hid
      subst hid
      simp [hf, run_findBp hk]
/-- 'm[k] = v', the key being a new one -/
theorem run_putBp (hk : P.underlying k = some (.int .u8)) {t e : TypeId} (ht : P.underlying t = some (.map k e)) (a : UInt8) (n : Nat) {w : World} {b : Nat} {l : List (UInt8 × Nat)} (h : BpAt w b l) (hn : bpOf l a = none) :
    (Instr.mapUpdate t (.map (some b)) (encB a) (ptrV n)).run P w = .ok () (Go.ChangeMaps.setBlock w b (.map (bpFrom 0 (l ++ [(a, n)])).toArray (l.length + 1))) := by
  have hid := findBp_of a l 0
  have hn' : findBp a 0 l = none := by
    cases hf : findBp a 0 l with
    | none => rfl
    | some j => rw [hf, hn] at hid; simp at hid
  unfold Instr.mapUpdate
  simp [Sem.run_bind, run_underlying ht, MapKept.run_getObj_map h, run_checkB hk, run_findBp hk, hn', MapKept.run_setObj_map _ h, bpFrom_append, bpEnt, Go.ChangeMaps.setBlock]
theorem BpAt.put {w : World} {b : Nat} {l : List (UInt8 × Nat)} (h : BpAt w b l) (x : UInt8 × Nat) : BpAt (Go.ChangeMaps.setBlock w b (.map (bpFrom 0 (l ++ [x])).toArray (l.length + 1))) b (l ++ [x]) := by
  unfold BpAt
  rw [Go.ChangeMaps.heap_setBlock_same h, List.length_append]; rfl
end
end Go.Proofs.Ytndekogkfbhabaa
