/- Maps of the call's own, keyed by texts: asked, given a new key; in plain words. No conditions. -/
import Derived.Test.YtndekogkfbhabaaMapOwn
namespace Go.Proofs.Ytndekogkfbhabaa
open Go.RowKit
abbrev encS (a : List UInt8) : Value := .string ⟨a.toArray⟩
theorem encS_eq (a b : List UInt8) : ((⟨a.toArray⟩ : ByteArray) == ⟨b.toArray⟩) = decide (a = b) := by
  have e : ((⟨a.toArray⟩ : ByteArray) == ⟨b.toArray⟩) = (a.toArray == b.toArray) := rfl
  rw [e, Bool.eq_iff_iff, beq_iff_eq, decide_eq_true_iff]
  constructor
  · intro h
    simpa using congrArg Array.toList h
  · rintro rfl; rfl
section
variable {val : Nat → Value} {P : Program} {k : TypeId}
theorem findNow_str (a : List UInt8) : ∀ (l : List (List UInt8)) (i : Nat), Instr.findNow .string (encS a) (entsFrom encS val i l) i = some ((findIn a i l).map fun j => (j, val j))
  | [], i => by simp [entsFrom, Instr.findNow, findIn]
  | b :: l, i => by
    have h := findNow_str a l (i + 1)
    by_cases hab : a = b
    · subst hab
      simp [entsFrom, Instr.findNow, Instr.sameNow, entAt, findIn, encS_eq]
    · simp [entsFrom, Instr.findNow, Instr.sameNow, entAt, findIn, encS_eq, hab, h]
theorem run_findKeyS (hk : P.underlying k = some .string) (a : List UInt8) (w : World) (l : List (List UInt8)) : (Instr.findKey k (encS a) (entsFrom encS val 0 l)).run P w = .ok ((findIn a 0 l).map fun j => (j, val j)) w := by
  unfold Instr.findKey
  simp [Sem.run_bind, run_underlying hk, findNow_str]
theorem run_checkS (hk : P.underlying k = some .string) (em : Bool) (a : List UInt8) (w : World) : (Instr.checkKey em 10000 k (encS a)).run P w = .ok () w := by
  unfold Instr.checkKey
  simp [Sem.run_bind, run_underlying hk]
/-- 'v, ok := m[k]' -/
theorem run_lookS (hk : P.underlying k = some .string) {t e : TypeId} (ht : P.underlying t = some (.map k e)) {z : Value} (hz : ∀ w, (zeroValue e).run P w = .ok z w) (a : List UInt8) {w : World} {b : Nat} {l : List (List UInt8)} (h : MapAt encS val w b l) :
    (Instr.lookup t (.map (some b)) (encS a) true).run P w = .ok (.tuple #[((findIn a 0 l).map val).getD z, .bool (findIn a 0 l).isSome]) w := by
  unfold Instr.lookup
  simp only [Sem.run_bind, run_underlying ht, MapKept.run_getObj_map h, Result.andThen_ok, run_checkS hk]
  cases hf : findIn a 0 l with
  | none => simp [hf, hz, run_findKeyS hk]
  | some j => simp [hf, run_findKeyS hk]
/-- 'm[k] = v', the key being a new one -/
theorem run_putS (hk : P.underlying k = some .string) {t e : TypeId} (ht : P.underlying t = some (.map k e)) (a : List UInt8) {w : World} {b : Nat} {l : List (List UInt8)} (h : MapAt encS val w b l) (hn : findIn a 0 l = none) :
    (Instr.mapUpdate t (.map (some b)) (encS a) (val l.length)).run P w = .ok () (Go.ChangeMaps.setBlock w b (.map (entsFrom encS val 0 (l ++ [a])).toArray (l.length + 1))) := by
  unfold Instr.mapUpdate
  simp [Sem.run_bind, run_underlying ht, MapKept.run_getObj_map h, run_checkS hk, run_findKeyS hk, hn, MapKept.run_setObj_map _ h, entsFrom_append, entAt, Go.ChangeMaps.setBlock]
theorem findIn_none {a : List UInt8} : ∀ {l : List (List UInt8)} {i : Nat}, findIn a i l = none ↔ a ∉ l
  | [], i => by simp [findIn]
  | b :: l, i => by
    have h := findIn_none (a := a) (l := l) (i := i + 1)
    by_cases hab : a = b
    · simp [findIn, hab]
    · simp [findIn, hab, h]
theorem findIn_dec {a : List UInt8} {l : List (List UInt8)} : (findIn a 0 l).isSome = decide (a ∈ l) := by
  by_cases h : a ∈ l
  · rw [decide_eq_true h]
    cases e : findIn a 0 l with
    | none => exact absurd h (findIn_none.1 e)
    | some j => rfl
  · rw [decide_eq_false h, findIn_none.2 h]; rfl
theorem heap_blockOther {w : World} {b i : Nat} {es : Array MapEntry} {cl : Nat} {o o' : Obj} (hb : w.heap[b]? = some (.map es cl)) (h : w.heap[i]? = some o') (hi : i ≠ b) : (Go.ChangeMaps.setBlock w b o).heap[i]? = some o' := by
  rw [Go.ChangeMaps.heap_setBlock_other hb _ hi]; exact h
theorem below_block {B b : Nat} {w0 w : World} {o : Obj} (h : Below B w0 w) (hb : B ≤ b) (hm : ∃ es cl, w.heap[b]? = some (.map es cl)) : Below B w0 (Go.ChangeMaps.setBlock w b o) := by
  obtain ⟨es, cl, hm⟩ := hm
  exact h.trans ⟨rfl, rfl, rfl, by simp [Go.ChangeMaps.setBlock], fun k hk => Go.ChangeMaps.heap_setBlock_other hm _ (by omega)⟩
/-- a set of texts: a map to nothing -/
abbrev nilV (_ : Nat) : Value := .agg #[]
abbrev SetS (w : World) (b : Nat) (l : List (List UInt8)) : Prop := MapAt encS nilV w b l
end
end Go.Proofs.Ytndekogkfbhabaa
