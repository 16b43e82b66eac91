/- Rows of numbers of a call's own: an append tells where the row lies; blocks of other types. Conditions: sizes. -/
import Derived.Test.YtndekogkfbhabaaApp
import Derived.Test.YtndekogkfbhabaaAppTwo
namespace Go.Proofs.Ytndekogkfbhabaa
open Go.RowKit
def kC (k : IntKind) (x : Int) : List Value := [.int k x]
theorem kC_flat (k : IntKind) : ∀ l : List Int, l.flatMap (kC k) = l.map (Value.int k)
  | [] => rfl
  | x :: l => by rw [List.flatMap_cons, kC_flat k l]; rfl
theorem own_kR {B : Nat} {e : TypeId} {k : IntKind} {w : World} {v : Value} {l : List Int} (h : OwnI B e k w v l) : OwnR (kC k) 1 B e w v l := by
  unfold OwnR; rw [kC_flat]; exact h
theorem own_Rk {B : Nat} {e : TypeId} {k : IntKind} {w : World} {v : Value} {l : List Int} (h : OwnR (kC k) 1 B e w v l) : OwnI B e k w v l := by
  unfold OwnR at h; rw [kC_flat] at h; exact h
/-- where a row lies behind an append -/
def WhereD (w : World) (v v' : Value) : Prop := v'.ownBlock = v.ownBlock ∨ ∃ g, v'.ownBlock = some g ∧ w.heap.size ≤ g
theorem app_intD {k : IntKind} {B : Nat} {e : TypeId} {P : Program} {w : World} {v : Value} {l0 l1 : List Int} {o : Oper} {a : Act} {K : Act → World → Prop} {Q : Exit → Act → World → Prop} {t : TypeId} {z : Value} (bytes : Nat)
    (h1 : P.underlying t = some (.slice e)) (h2 : (P.info? e).map (fun i => (i.zero, i.size, i.bytes)) = some (some z, 1, bytes)) (hzs : z.cells.size = 1)
    (s x' : Operand) (hop : o.op = Op.call { callee := Callee.builtin Builtin.append, args := #[s, x'], argTypes := #[t, t] }) (hs : a.eval s = v) (hx : RowOf (kC k) 1 w (a.eval x') l1)
    (hown : OwnI B e k w v l0) (hB : B ≤ w.heap.size) (hbig : (l0.length + l1.length) * bytes ≤ 140737488355328) (h63 : l0.length + l1.length ≤ maxLen)
    (hK : ∀ v' w', OwnI B e k w' v' (l0 ++ l1) → w.grownBy w' v.ownBlock → WhereD w v v' → K (a.put o.dst v') w') : o.wp P a w K Q := by
  obtain ⟨i, hi, hz0, hz1, hz2⟩ := info_parts h2
  have hf : ∀ y, (kC k y).length = 1 := fun _ => rfl
  have hfl := flatMap_lenA hf l1
  obtain ⟨ad, cap, hxe, _, _, _, hc⟩ := hx
  have hlen : (Builtin.lenOf (a.eval x')).run P w = .ok l1.length w := by rw [hxe]; exact lenOf_slice
  have hfc : ∀ q : Nat, (Builtin.firstCells 1 l1.length (a.eval x')).run P (w.drewN q) = .ok (l1.flatMap (kC k)).toArray (w.drewN q) := fun q => by
    rw [hxe]
    rcases hc with h0 | ⟨b, off, rfl, _, hc⟩
    · have : l1 = [] := List.eq_nil_of_length_eq_zero h0
      subst this
      cases ad with
      | none => exact firstCells_none q
      | some ad => exact firstCells_at (news := []) (by simp) (fun j u hj => by simp at hj) q
    · refine firstCells_at hfl (fun j u hj => ?_) q
      have hj' : j < (l1.flatMap (kC k)).length := (List.getElem?_eq_some_iff.1 hj).1
      rw [Addr.add_lit, hc j (by omega)]; exact hj
  have h1c : ∀ u ∈ l1.flatMap (kC k), u.oneCell' = true := fun u hu => by
    obtain ⟨y, hm, hy⟩ := List.mem_flatMap.1 hu
    simp [kC] at hy; subst hy; rfl
  obtain ⟨v', w', hrun, r1, r2, r3⟩ := run_append_D (P := P) w B t t o.type e i z 1 bytes h1 (.inl h1) hi hz0 hz1 hz2 hzs v l0.length (l0.flatMap (kC k)) (by rw [kC_flat]; exact hown) (a.eval x') l1.length (l1.flatMap (kC k)) hlen hfc hfl h1c hbig h63 hB
  unfold Oper.wp
  simp [execOp, hop, resolve, invoke, builtin, hs, hrun, Result.andThen]
  refine hK _ _ (own_Rk ?_) r2 r3
  unfold OwnR
  rw [List.length_append, List.flatMap_append]; exact r1
theorem own_typedV {B : Nat} {e : TypeId} {k : IntKind} {w : World} {v : Value} {l : List Int} (h : OwnI B e k w v l) {b : Nat} (hb : v.ownBlock = some b) : ∃ cs fz, w.heap[b]? = some (.cells cs e fz) := by
  rcases h.2 with ⟨rfl, _⟩ | ⟨g', cap, cur, fz', rfl, _, hg', _⟩
  · simp [Value.ownBlock] at hb
  · simp only [Value.ownBlock, Option.some.injEq] at hb
    subst hb; exact ⟨_, _, hg'⟩
theorem ty_ne {w : World} {g q : Nat} {cs cs' : Array Value} {t t' : TypeId} {fz fz' : Nat × Nat} (h : w.heap[g]? = some (.cells cs t fz)) (h' : w.heap[q]? = some (.cells cs' t' fz')) (hne : t ≠ t') : q ≠ g := fun e => by
  subst e; rw [h] at h'; simp at h'; exact hne h'.2.1
end Go.Proofs.Ytndekogkfbhabaa
