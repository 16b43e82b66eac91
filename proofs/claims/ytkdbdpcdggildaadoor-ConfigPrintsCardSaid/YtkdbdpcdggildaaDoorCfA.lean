/- Cells of a number, of a text. No conditions. An append of a whole row to a row of the call's own, as one operation. No conditions beyond sizes. Maps of the call's own, keyed by arrays: asked, given a new key, counted; in plain words. No conditions. Maps of the call's own, keyed by texts: asked, given a new key; in plain words. No conditions. Plain laws: which configurations may be (P17.2). No conditions; no program. -/
import Derived.Test.YtkdbdpcdggildaaDoorOpen
import Derived.Test.YtkdbdpcdggildaaDoorProg
import Derived.Test.YtkdbdpcdggildaaDoorOwnRows
import Derived.Test.YtkdbdpcdggildaaDoorRegion
import Derived.ChangeMaps5
import Derived.MapKept
import Derived.Carry
import Derived.Test.YtkdbdpcdggildaaDoorReLaw
namespace Go.Proofs.YtkdbdpcdggildaaDoor
open Go.RowKit
def intC (n : Int) : List Value := [.int .i64 n]
def strC (l : List UInt8) : List Value := [.string ⟨l.toArray⟩]
end Go.Proofs.YtkdbdpcdggildaaDoor
namespace Go.Proofs.YtkdbdpcdggildaaDoor
open Go.RowKit
theorem flatMap_lenA {α : Type} {f : α → List Value} {sz : Nat} (hf : ∀ y, (f y).length = sz) : ∀ l : List α, (l.flatMap f).length = l.length * sz
  | [] => by simp
  | a :: l => by rw [List.flatMap_cons, List.length_append, hf, flatMap_lenA hf l, List.length_cons, Nat.succ_mul]; omega
theorem app_rowW {α : Type} {f : α → List Value} {sz B : Nat} {e : TypeId} {P : Program} {w : World} {v : Value} {l0 l1 : List α} {o : Oper} {a : Act} {K : Act → World → Prop} {Q : Exit → Act → World → Prop} {t : TypeId} {z : Value} (bytes : Nat)
    (hf : ∀ y, (f y).length = sz) (ho : ∀ y, y ∈ l1 → ∀ u ∈ f y, u.oneCell' = true) (h1 : P.underlying t = some (.slice e)) (h2 : (P.info? e).map (fun i => (i.zero, i.size, i.bytes)) = some (some z, sz, bytes)) (hzs : z.cells.size = sz)
    (s x' : Operand) (hop : o.op = Op.call { callee := Callee.builtin Builtin.append, args := #[s, x'], argTypes := #[t, t] }) (hs : a.eval s = v) (hx : RowOf f sz w (a.eval x') l1)
    (hown : OwnR f sz B e w v l0) (hB : B ≤ w.heap.size) (hbig : (l0.length + l1.length) * bytes ≤ 140737488355328) (h63 : l0.length + l1.length ≤ maxLen)
    (hK : ∀ v' w', OwnR f sz B e w' v' (l0 ++ l1) → w.grownBy w' v.ownBlock → K (a.put o.dst v') w') : o.wp P a w K Q := by
  obtain ⟨i, hi, hz0, hz1, hz2⟩ := info_parts h2
  have hfl := flatMap_lenA hf l1
  obtain ⟨ad, cap, hxe, _, _, _, hc⟩ := hx
  have hlen : (Builtin.lenOf (a.eval x')).run P w = .ok l1.length w := by rw [hxe]; exact lenOf_slice
  have hfc : ∀ k : Nat, (Builtin.firstCells sz l1.length (a.eval x')).run P (w.drewN k) = .ok (l1.flatMap f).toArray (w.drewN k) := fun k => by
    rw [hxe]
    rcases hc with h0 | ⟨b, off, rfl, _, hc⟩
    · have : l1 = [] := List.eq_nil_of_length_eq_zero h0
      subst this
      cases ad with
      | none => exact firstCells_none k
      | some ad => exact firstCells_at (news := []) (by simp) (fun j u hj => by simp at hj) k
    · refine firstCells_at hfl (fun j u hj => ?_) k
      have hj' : j < (l1.flatMap f).length := (List.getElem?_eq_some_iff.1 hj).1
      rw [Addr.add_lit, hc j (by omega)]; exact hj
  have h1c : ∀ u ∈ l1.flatMap f, u.oneCell' = true := fun u hu => by
    obtain ⟨y, hm, hy⟩ := List.mem_flatMap.1 hu
    exact ho y hm u hy
  obtain ⟨v', w', hrun, r1, r2⟩ := run_append_C (P := P) w B t t o.type e i z sz bytes h1 (.inl h1) hi hz0 hz1 hz2 hzs v l0.length (l0.flatMap f) hown (a.eval x') l1.length (l1.flatMap f) hlen hfc hfl h1c hbig h63 hB
  unfold Oper.wp
  simp [execOp, hop, resolve, invoke, builtin, hs, hrun, Result.andThen]
  refine hK _ _ ?_ r2
  unfold OwnR
  rw [List.length_append, List.flatMap_append]; exact r1
theorem grown_below {B : Nat} {w w' : World} {r : Option Nat} (h : w.grownBy w' r) (hB : B ≤ w.heap.size) (hr : ∀ k, r = some k → B ≤ k) : Below B w w' :=
  (Below.refl _ _).grown h hB hr
theorem grown_obj {w w' : World} {r : Option Nat} (h : w.grownBy w' r) {g : Nat} {o : Obj} (hg : w.heap[g]? = some o) (hne : r ≠ some g) : w'.heap[g]? = some o := by
  rw [h.block g (Array.getElem?_eq_some_iff.1 hg).1 hne.symm]; exact hg
end Go.Proofs.YtkdbdpcdggildaaDoor
namespace Go.Proofs.YtkdbdpcdggildaaDoor
open Go.RowKit
section
variable {α : Type} (enc : α → Value) (val : Nat → Value)
def entAt (i : Nat) (a : α) : MapEntry := { key := enc a, val := val i, born := i }
def entsFrom : Nat → List α → List MapEntry
  | _, [] => []
  | i, a :: l => entAt enc val i a :: entsFrom (i + 1) l
theorem entsFrom_append (i : Nat) (l : List α) (a : α) : entsFrom enc val i (l ++ [a]) = entsFrom enc val i l ++ [entAt enc val (i + l.length) a] := by
  induction l generalizing i with
  | nil => rfl
  | cons b l ih => simp only [List.cons_append, entsFrom, ih, List.length_cons]; rw [show i + 1 + l.length = i + (l.length + 1) by omega]
/-- block b is a map with just these keys, in the order in which they came -/
def MapAt (w : World) (b : Nat) (l : List α) : Prop := w.heap[b]? = some (.map (entsFrom enc val 0 l).toArray l.length)
variable {enc val}
theorem MapAt.lt {w : World} {b : Nat} {l : List α} (h : MapAt enc val w b l) : b < w.heap.size := (Array.getElem?_eq_some_iff.1 h).1
theorem MapAt.keep {w w' : World} {b : Nat} {l : List α} (h : MapAt enc val w b l) (hb : Below w.heap.size w w') : MapAt enc val w' b l := by
  unfold MapAt; rw [hb.block b h.lt]; exact h
theorem MapAt.keepB {w w' : World} {b B : Nat} {l : List α} (h : MapAt enc val w b l) (hb : Below B w w') (hg : b < B) : MapAt enc val w' b l := by
  unfold MapAt; rw [hb.block b hg]; exact h
theorem MapAt.new (w : World) : MapAt enc val (w.alloc (.map #[] 0)) w.heap.size ([] : List α) := Go.heap_alloc_new _ _
/-- what the key's type must bear -/
structure KeyT [DecidableEq α] (P : Program) (enc : α → Value) (k : TypeId) : Prop where
  arr : ∃ n e, P.underlying k = some (.array n e)
  chk : ∀ em (a : α) (w : World), (Instr.checkKey em 10000 k (enc a)).run P w = .ok () w
  eq : ∀ (a b : α) (w : World), (Op.equal k (enc a) (enc b)).run P w = .ok (decide (a = b)) w
variable {P : Program} {k : TypeId}
/-- where a key stands -/
def findIn [DecidableEq α] (a : α) : Nat → List α → Option Nat
  | _, [] => none
  | i, b :: l => if a = b then some i else findIn a (i + 1) l
theorem run_findAsking [DecidableEq α] (K : KeyT P enc k) (a : α) (w : World) : ∀ (l : List α) (i : Nat), (Instr.findAsking k (enc a) (entsFrom enc val i l) i).run P w = .ok ((findIn a i l).map fun j => (j, val j)) w
  | [], i => by simp [entsFrom, Instr.findAsking, findIn]
  | b :: l, i => by
    have h := run_findAsking K a w l (i + 1)
    by_cases hab : a = b
    · simp [entsFrom, Instr.findAsking, findIn, Sem.run_bind, K.eq, entAt, hab]
    · simp [entsFrom, Instr.findAsking, findIn, Sem.run_bind, K.eq, entAt, hab, h]
theorem run_findKey [DecidableEq α] (K : KeyT P enc k) (a : α) (w : World) (l : List α) : (Instr.findKey k (enc a) (entsFrom enc val 0 l)).run P w = .ok ((findIn a 0 l).map fun j => (j, val j)) w := by
  obtain ⟨n, e, hu⟩ := K.arr
  have h := run_findAsking (val := val) K a w l 0
  unfold Instr.findKey
  cases l with
  | nil => simp [run_underlying hu, entsFrom, Instr.findNow, findIn]
  | cons b l => simp [Sem.run_bind, run_underlying hu, entsFrom, Instr.findNow, Instr.sameNow] at h ⊢; exact h
/-- 'v, ok := m[k]' -/
theorem run_look [DecidableEq α] (K : KeyT P enc k) {t e : TypeId} (ht : P.underlying t = some (.map k e)) {z : Value} (hz : ∀ w, (zeroValue e).run P w = .ok z w) (a : α) {w : World} {b : Nat} {l : List α} (h : MapAt enc val w b l) :
    (Instr.lookup t (.map (some b)) (enc a) true).run P w = .ok (.tuple #[((findIn a 0 l).map val).getD z, .bool (findIn a 0 l).isSome]) w := by
  unfold Instr.lookup
  simp only [Sem.run_bind, run_underlying ht, MapKept.run_getObj_map h, Result.andThen_ok, K.chk]
  cases hf : findIn a 0 l with
  | none => simp [hf, hz, run_findKey K]
  | some j => simp [hf, run_findKey K]
/-- 'm[k] = v', the key being a new one -/
theorem run_put [DecidableEq α] (K : KeyT P enc k) {t e : TypeId} (ht : P.underlying t = some (.map k e)) (a : α) {w : World} {b : Nat} {l : List α} (h : MapAt enc val w b l) (hn : findIn a 0 l = none) :
    (Instr.mapUpdate t (.map (some b)) (enc a) (val l.length)).run P w = .ok () (Go.ChangeMaps.setBlock w b (.map (entsFrom enc val 0 (l ++ [a])).toArray (l.length + 1))) := by
  unfold Instr.mapUpdate
  simp [Sem.run_bind, run_underlying ht, MapKept.run_getObj_map h, K.chk, run_findKey K, hn, MapKept.run_setObj_map _ h, entsFrom_append, entAt, Go.ChangeMaps.setBlock]
theorem MapAt.put {w : World} {b : Nat} {l : List α} (h : MapAt enc val w b l) (a : α) : MapAt enc val (Go.ChangeMaps.setBlock w b (.map (entsFrom enc val 0 (l ++ [a])).toArray (l.length + 1))) b (l ++ [a]) := by
  unfold MapAt
  rw [Go.ChangeMaps.heap_setBlock_same h, List.length_append]; rfl
theorem entsFrom_len (i : Nat) (l : List α) : (entsFrom enc val i l).length = l.length := by
  induction l generalizing i with
  | nil => rfl
  | cons b l ih => simp [entsFrom, ih]
end
end Go.Proofs.YtkdbdpcdggildaaDoor
namespace Go.Proofs.YtkdbdpcdggildaaDoor
open Go.RowKit
abbrev encS (a : List UInt8) : Value := .string ⟨a.toArray⟩
theorem encS_eq (a b : List UInt8) : ((⟨a.toArray⟩ : ByteArray) == ⟨b.toArray⟩) = decide (a = b) := by
  have e : ((⟨a.toArray⟩ : ByteArray) == ⟨b.toArray⟩) = (a.toArray == b.toArray) := rfl
  rw [e, Bool.eq_iff_iff, beq_iff_eq, decide_eq_true_iff]
  constructor
  · intro h
    simpa using congrArg Array.toList h
  · rintro rfl; rfl
section
variable {val : Nat → Value} {P : Program} {k : TypeId}
theorem findNow_str (a : List UInt8) : ∀ (l : List (List UInt8)) (i : Nat), Instr.findNow .string (encS a) (entsFrom encS val i l) i = some ((findIn a i l).map fun j => (j, val j))
  | [], i => by simp [entsFrom, Instr.findNow, findIn]
  | b :: l, i => by
    have h := findNow_str a l (i + 1)
    by_cases hab : a = b
    · subst hab
      simp [entsFrom, Instr.findNow, Instr.sameNow, entAt, findIn, encS_eq]
    · simp [entsFrom, Instr.findNow, Instr.sameNow, entAt, findIn, encS_eq, hab, h]
theorem run_findKeyS (hk : P.underlying k = some .string) (a : List UInt8) (w : World) (l : List (List UInt8)) : (Instr.findKey k (encS a) (entsFrom encS val 0 l)).run P w = .ok ((findIn a 0 l).map fun j => (j, val j)) w := by
  unfold Instr.findKey
  simp [Sem.run_bind, run_underlying hk, findNow_str]
theorem run_checkS (hk : P.underlying k = some .string) (em : Bool) (a : List UInt8) (w : World) : (Instr.checkKey em 10000 k (encS a)).run P w = .ok () w := by
  unfold Instr.checkKey
  simp [Sem.run_bind, run_underlying hk]
/-- 'v, ok := m[k]' -/
theorem run_lookS (hk : P.underlying k = some .string) {t e : TypeId} (ht : P.underlying t = some (.map k e)) {z : Value} (hz : ∀ w, (zeroValue e).run P w = .ok z w) (a : List UInt8) {w : World} {b : Nat} {l : List (List UInt8)} (h : MapAt encS val w b l) :
    (Instr.lookup t (.map (some b)) (encS a) true).run P w = .ok (.tuple #[((findIn a 0 l).map val).getD z, .bool (findIn a 0 l).isSome]) w := by
  unfold Instr.lookup
  simp only [Sem.run_bind, run_underlying ht, MapKept.run_getObj_map h, Result.andThen_ok, run_checkS hk]
  cases hf : findIn a 0 l with
  | none => simp [hf, hz, run_findKeyS hk]
  | some j => simp [hf, run_findKeyS hk]
/-- 'm[k] = v', the key being a new one -/
theorem run_putS (hk : P.underlying k = some .string) {t e : TypeId} (ht : P.underlying t = some (.map k e)) (a : List UInt8) {w : World} {b : Nat} {l : List (List UInt8)} (h : MapAt encS val w b l) (hn : findIn a 0 l = none) :
    (Instr.mapUpdate t (.map (some b)) (encS a) (val l.length)).run P w = .ok () (Go.ChangeMaps.setBlock w b (.map (entsFrom encS val 0 (l ++ [a])).toArray (l.length + 1))) := by
  unfold Instr.mapUpdate
  simp [Sem.run_bind, run_underlying ht, MapKept.run_getObj_map h, run_checkS hk, run_findKeyS hk, hn, MapKept.run_setObj_map _ h, entsFrom_append, entAt, Go.ChangeMaps.setBlock]
theorem findIn_none {a : List UInt8} : ∀ {l : List (List UInt8)} {i : Nat}, findIn a i l = none ↔ a ∉ l
  | [], i => by simp [findIn]
  | b :: l, i => by
    have h := findIn_none (a := a) (l := l) (i := i + 1)
    by_cases hab : a = b
    · simp [findIn, hab]
    · simp [findIn, hab, h]
theorem findIn_dec {a : List UInt8} {l : List (List UInt8)} : (findIn a 0 l).isSome = decide (a ∈ l) := by
  by_cases h : a ∈ l
  · rw [decide_eq_true h]
    cases e : findIn a 0 l with
    | none => exact absurd h (findIn_none.1 e)
    | some j => rfl
  · rw [decide_eq_false h, findIn_none.2 h]; rfl
theorem heap_blockOther {w : World} {b i : Nat} {es : Array MapEntry} {cl : Nat} {o o' : Obj} (hb : w.heap[b]? = some (.map es cl)) (h : w.heap[i]? = some o') (hi : i ≠ b) : (Go.ChangeMaps.setBlock w b o).heap[i]? = some o' := by
  rw [Go.ChangeMaps.heap_setBlock_other hb _ hi]; exact h
theorem below_block {B b : Nat} {w0 w : World} {o : Obj} (h : Below B w0 w) (hb : B ≤ b) (hm : ∃ es cl, w.heap[b]? = some (.map es cl)) : Below B w0 (Go.ChangeMaps.setBlock w b o) := by
  obtain ⟨es, cl, hm⟩ := hm
  exact h.trans ⟨rfl, rfl, rfl, by simp [Go.ChangeMaps.setBlock], fun k hk => Go.ChangeMaps.heap_setBlock_other hm _ (by omega)⟩
/-- a set of texts: a map to nothing -/
abbrev nilV (_ : Nat) : Value := .agg #[]
abbrev SetS (w : World) (b : Nat) (l : List (List UInt8)) : Prop := MapAt encS nilV w b l
end
end Go.Proofs.YtkdbdpcdggildaaDoor
namespace Go.Proofs.YtkdbdpcdggildaaDoor
open Go.RowKit
/-- a rule: what it looks for, what it puts -/
abbrev RuleP := List UInt8 × List UInt8
def frm (l : List RuleP) (i : Nat) : List UInt8 := (l.getD i ([], [])).1
def rto (l : List RuleP) (i : Nat) : List UInt8 := (l.getD i ([], [])).2
/-- a rule that may not be -/
def badR (l : List RuleP) (i : Nat) : Prop := (frm l i).length < 1 ∨ 16 < (frm l i).length ∨ 32 < (rto l i).length ∨ ∃ j, j < i ∧ frm l j = frm l i
open Classical in
noncomputable def ruleE (l : List RuleP) : Int := if 64 < l.length then 2 else if ∃ i, i < l.length ∧ badR l i then 110 else 0
theorem ruleE_long {l : List RuleP} (h : 64 < l.length) : ruleE l = 2 := by unfold ruleE; rw [if_pos h]
theorem ruleE_bad {l : List RuleP} (h : ¬ 64 < l.length) {i : Nat} (hi : i < l.length) (hb : badR l i) : ruleE l = 110 := by
  unfold ruleE; rw [if_neg h, if_pos ⟨i, hi, hb⟩]
theorem ruleE_ok {l : List RuleP} (h : ¬ 64 < l.length) (hb : ∀ i, i < l.length → ¬ badR l i) : ruleE l = 0 := by
  unfold ruleE; rw [if_neg h, if_neg (by rintro ⟨i, hi, h⟩; exact hb i hi h)]
theorem ruleE_open {l : List RuleP} (h : ruleE l = 0) : l.length ≤ 64 ∧ ∀ i, i < l.length → ¬ badR l i := by
  by_cases h1 : 64 < l.length
  · rw [ruleE_long h1] at h; exact absurd h (by decide)
  · refine ⟨by omega, fun i hi hb => ?_⟩
    rw [ruleE_bad h1 hi hb] at h; exact absurd h (by decide)
/-- how many bytes a byte may become -/
def upN (f t : Nat) : Nat := (t + f - 1) / f
def growTo (l : List RuleP) : Nat → Nat
  | 0 => 1
  | k + 1 => max (growTo l k) (upN (frm l k).length (rto l k).length)
def growN (l : List RuleP) : Nat := growTo l l.length
theorem upN_le {f t : Nat} (hf : 1 ≤ f) (ht : t ≤ 32) : upN f t ≤ 32 := by
  unfold upN
  exact Nat.div_le_of_le_mul (by omega)
theorem upN_iff {f t n : Nat} (hf : 1 ≤ f) : n * f < t ↔ n < upN f t := by
  unfold upN
  rw [Nat.lt_iff_add_one_le (m := n), Nat.le_div_iff_mul_le (by omega), Nat.add_mul]
  omega
theorem growTo_le {l : List RuleP} (h : ruleE l = 0) : ∀ k, k ≤ l.length → 1 ≤ growTo l k ∧ growTo l k ≤ 32
  | 0, _ => ⟨Nat.le_refl _, by show 1 ≤ 32; omega⟩
  | k + 1, hk => by
    have ih := growTo_le h k (by omega)
    have hb := (ruleE_open h).2 k (by omega)
    unfold badR at hb
    have h3 : 1 ≤ (frm l k).length ∧ (rto l k).length ≤ 32 := by
      constructor
      · by_cases h : (frm l k).length < 1
        · exact absurd (.inl h) hb
        · omega
      · by_cases h : 32 < (rto l k).length
        · exact absurd (.inr (.inr (.inl h))) hb
        · omega
    have h2 := upN_le h3.1 h3.2
    rw [growTo]
    omega
/-- the error of the first passes -/
noncomputable def passE (ps : List (List RuleP)) : Nat → Int
  | 0 => 0
  | k + 1 => if passE ps k = 0 then ruleE (ps.getD k []) else passE ps k
def growAll (ps : List (List RuleP)) : Nat → Nat
  | 0 => 1
  | k + 1 => growAll ps k * growN (ps.getD k [])
theorem passE_stay {ps : List (List RuleP)} {k : Nat} (h : passE ps k ≠ 0) : ∀ {n : Nat}, k ≤ n → passE ps n = passE ps k
  | 0, hn => by rw [show k = 0 by omega]
  | n + 1, hn => by
    by_cases e : k = n + 1
    · rw [e]
    · have ih := passE_stay (n := n) h (by omega)
      rw [passE, if_neg (by rw [ih]; exact h), ih]
theorem passE_step {ps : List (List RuleP)} {k : Nat} (h : passE ps k = 0) (e : ruleE (ps.getD k []) ≠ 0) {n : Nat} (hn : k < n) : passE ps n = ruleE (ps.getD k []) := by
  have h1 : passE ps (k + 1) = ruleE (ps.getD k []) := by rw [passE, if_pos h]
  rw [passE_stay (k := k + 1) (by rw [h1]; exact e) (by omega), h1]
theorem growAll_le {ps : List (List RuleP)} : ∀ k, k ≤ 4 → passE ps k = 0 → growAll ps k ≤ 32 ^ k
  | 0, _, _ => Nat.le_refl _
  | k + 1, hk, h => by
    rw [passE] at h
    by_cases e : passE ps k = 0
    · rw [if_pos e] at h
      have ih := growAll_le k (by omega) e
      have h2 := (growTo_le h _ (Nat.le_refl _)).2
      rw [growAll, Nat.pow_succ]
      exact Nat.mul_le_mul ih h2
    · rw [if_neg e] at h; exact absurd h e
/-- the texts of all ids behind so many merges, or none -/
def tx0 : List (List UInt8) := (List.range 256).map fun b => [u8 b]
open Classical in
noncomputable def txStep (k : Nat) (m : Int × Int) (ts : List (List UInt8)) : Option (List (List UInt8)) :=
  if (0 ≤ m.1 ∧ m.1 < 256 + k) ∧ (0 ≤ m.2 ∧ m.2 < 256 + k) ∧ (ts.getD m.1.toNat [] ++ ts.getD m.2.toNat []).length ≤ 64 ∧ (ts.getD m.1.toNat [] ++ ts.getD m.2.toNat []) ∉ ts.drop 256
  then some (ts ++ [ts.getD m.1.toNat [] ++ ts.getD m.2.toNat []]) else none
noncomputable def txTo (l : List (Int × Int)) : Nat → Option (List (List UInt8))
  | 0 => some tx0
  | k + 1 => (txTo l k).bind (txStep k (l.getD k (0, 0)))
noncomputable def textsE (l : List (Int × Int)) : Int := if 1024 < l.length then 2 else if (txTo l l.length).isSome = true then 0 else 130
theorem textsE_long {l : List (Int × Int)} (h : 1024 < l.length) : textsE l = 2 := by unfold textsE; rw [if_pos h]
theorem txTo_stay {l : List (Int × Int)} {k : Nat} (h : txTo l k = none) : ∀ {n : Nat}, k ≤ n → txTo l n = none
  | 0, hn => by rw [← h, show k = 0 by omega]
  | n + 1, hn => by
    by_cases e : k = n + 1
    · rw [← e]; exact h
    · rw [txTo, txTo_stay (n := n) h (by omega)]; rfl
theorem textsE_bad {l : List (Int × Int)} (h : ¬ 1024 < l.length) {k : Nat} (hk : k < l.length) {ts : List (List UInt8)} (ht : txTo l k = some ts) (hs : txStep k (l.getD k (0, 0)) ts = none) : textsE l = 130 := by
  unfold textsE
  rw [if_neg h, txTo_stay (k := k + 1) (by rw [txTo, ht]; exact hs) (by omega)]; rfl
theorem textsE_ok {l : List (Int × Int)} (h : ¬ 1024 < l.length) {ts : List (List UInt8)} (ht : txTo l l.length = some ts) : textsE l = 0 := by
  unfold textsE; rw [if_neg h, ht]; rfl
/-- a name that may not be -/
def nam (l : List (List UInt8)) (i : Nat) : List UInt8 := l.getD i []
def badN (l : List (List UInt8)) (i : Nat) : Prop := (nam l i).length < 1 ∨ 32 < (nam l i).length ∨ ∃ j, j < i ∧ nam l j = nam l i
def namesBad (l : List (List UInt8)) : Prop := ∃ i, i < l.length ∧ badN l i
def frameBad (n : Nat) (l : List Int) : Prop := 32 < l.length ∨ ∃ x ∈ l, x < 0 ∨ (n : Int) ≤ x
/-- how often a node's kids count -/
def timesOf (t : Re) : Int := match t with | .mk k _ a b _ => if k = 4 then max 1 (max a b) else 1
theorem times_pos (t : Re) : 1 ≤ timesOf t := by
  obtain ⟨k, s, a, b, l⟩ := t
  unfold timesOf
  dsimp only
  split <;> omega
theorem times_le {t : Re} (h : okP t) : timesOf t ≤ 20 := by
  obtain ⟨k, s, a, b, l⟩ := t
  unfold okP at h
  unfold timesOf
  dsimp only at h ⊢
  split <;> omega
/-- the size of an expression, up to 1001 -/
def szR : Nat → Re → Int
  | 0, _ => 2
  | h + 1, t => min (2 + (t.kids.map fun k => szR h k * timesOf t).sum) 1001
def szTo (h : Nat) (t : Re) (k : Nat) : Int := 2 + ((t.kids.take k).map fun k => szR h k * timesOf t).sum
theorem sum_nn : ∀ {l : List Int}, (∀ x ∈ l, 0 ≤ x) → 0 ≤ l.sum
  | [], _ => Int.le_refl _
  | x :: l, h => by
    have h1 := h x (by simp)
    have h2 := sum_nn (l := l) fun y hy => h y (by simp [hy])
    rw [List.sum_cons]; omega
theorem szR_nn : ∀ (h : Nat) (t : Re), 0 ≤ szR h t ∧ szR h t ≤ 1001
  | 0, _ => ⟨by show (0 : Int) ≤ 2; omega, by show (2 : Int) ≤ 1001; omega⟩
  | h + 1, t => by
    have hs : 0 ≤ (t.kids.map fun k => szR h k * timesOf t).sum := sum_nn fun x hx => by
      obtain ⟨k, _, rfl⟩ := List.mem_map.1 hx
      exact Int.mul_nonneg (szR_nn h k).1 (by have := times_pos t; omega)
    rw [szR]; omega
theorem szTo_zero {h : Nat} {t : Re} : szTo h t 0 = 2 := rfl
theorem szTo_succ {h : Nat} {t : Re} {k : Nat} {u : Re} (hu : t.kids[k]? = some u) : szTo h t (k + 1) = szTo h t k + szR h u * timesOf t := by
  unfold szTo
  rw [List.take_add_one, hu]
  simp only [Option.toList_some, List.map_append, List.map_cons, List.map_nil, List.sum_append, List.sum_cons, List.sum_nil]
  omega
theorem szTo_all {h : Nat} {t : Re} {k : Nat} (hk : t.kids.length ≤ k) : szR (h + 1) t = min (szTo h t k) 1001 := by
  unfold szTo
  rw [List.take_of_length_le hk, szR]
theorem szTo_over {h : Nat} {t : Re} {k : Nat} (hk : 1001 < szTo h t k) : szR (h + 1) t = 1001 := by
  have e : (t.kids.map fun k => szR h k * timesOf t).sum = ((t.kids.take k).map fun k => szR h k * timesOf t).sum + ((t.kids.drop k).map fun k => szR h k * timesOf t).sum := by
    rw [← List.sum_append, ← List.map_append, List.take_append_drop]
  have h2 : 0 ≤ ((t.kids.drop k).map fun k => szR h k * timesOf t).sum := sum_nn fun x hx => by
    obtain ⟨u, _, rfl⟩ := List.mem_map.1 hx
    exact Int.mul_nonneg (szR_nn h u).1 (by have := times_pos t; omega)
  unfold szTo at hk
  rw [szR, e]; omega
/-- a configuration -/
structure ConfP where
  ps : List (List RuleP)
  re : Re
  ms : List (Int × Int)
  ns : List (List UInt8)
  bf : List Int
  af : List Int
end Go.Proofs.YtkdbdpcdggildaaDoor
