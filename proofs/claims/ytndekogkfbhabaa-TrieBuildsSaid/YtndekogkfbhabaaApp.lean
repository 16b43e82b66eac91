/- An append of a whole row to a row of the call's own, as one operation. No conditions beyond sizes. -/
import Derived.Test.YtndekogkfbhabaaOwnRows
namespace Go.Proofs.Ytndekogkfbhabaa
open Go.RowKit
theorem flatMap_lenA {α : Type} {f : α → List Value} {sz : Nat} (hf : ∀ y, (f y).length = sz) : ∀ l : List α, (l.flatMap f).length = l.length * sz
  | [] => by simp
  | a :: l => by rw [List.flatMap_cons, List.length_append, hf, flatMap_lenA hf l, List.length_cons, Nat.succ_mul]; omega
theorem app_rowW {α : Type} {f : α → List Value} {sz B : Nat} {e : TypeId} {P : Program} {w : World} {v : Value} {l0 l1 : List α} {o : Oper} {a : Act} {K : Act → World → Prop} {Q : Exit → Act → World → Prop} {t : TypeId} {z : Value} (bytes : Nat)
    (hf : ∀ y, (f y).length = sz) (ho : ∀ y, y ∈ l1 → ∀ u ∈ f y, u.oneCell' = true) (h1 : P.underlying t = some (.slice e)) (h2 : (P.info? e).map (fun i => (i.zero, i.size, i.bytes)) = some (some z, sz, bytes)) (hzs : z.cells.size = sz)
    (s x' : Operand) (hop : o.op = Op.call { callee := Callee.builtin Builtin.append, args := #[s, x'], argTypes := #[t, t] }) (hs : a.eval s = v) (hx : RowOf f sz w (a.eval x') l1)
    (hown : OwnR f sz B e w v l0) (hB : B ≤ w.heap.size) (hbig : (l0.length + l1.length) * bytes ≤ 140737488355328) (h63 : l0.length + l1.length ≤ maxLen)
    (hK : ∀ v' w', OwnR f sz B e w' v' (l0 ++ l1) → w.grownBy w' v.ownBlock → K (a.put o.dst v') w') : o.wp P a w K Q := by
  obtain ⟨i, hi, hz0, hz1, hz2⟩ := info_parts h2
  have hfl := flatMap_lenA hf l1
  obtain ⟨ad, cap, hxe, _, _, _, hc⟩ := hx
  have hlen : (Builtin.lenOf (a.eval x')).run P w = .ok l1.length w := by rw [hxe]; exact lenOf_slice
  have hfc : ∀ k : Nat, (Builtin.firstCells sz l1.length (a.eval x')).run P (w.drewN k) = .ok (l1.flatMap f).toArray (w.drewN k) := fun k => by
    rw [hxe]
    rcases hc with h0 | ⟨b, off, rfl, _, hc⟩
    · have : l1 = [] := List.eq_nil_of_length_eq_zero h0
      subst this
      cases ad with
      | none => exact firstCells_none k
      | some ad => exact firstCells_at (news := []) (by simp) (fun j u hj => by simp at hj) k
    · refine firstCells_at hfl (fun j u hj => ?_) k
      have hj' : j < (l1.flatMap f).length := (List.getElem?_eq_some_iff.1 hj).1
      rw [Addr.add_lit, hc j (by omega)]; exact hj
  have h1c : ∀ u ∈ l1.flatMap f, u.oneCell' = true := fun u hu => by
    obtain ⟨y, hm, hy⟩ := List.mem_flatMap.1 hu
    exact ho y hm u hy
  obtain ⟨v', w', hrun, r1, r2⟩ := run_append_C (P := P) w B t t o.type e i z sz bytes h1 (.inl h1) hi hz0 hz1 hz2 hzs v l0.length (l0.flatMap f) hown (a.eval x') l1.length (l1.flatMap f) hlen hfc hfl h1c hbig h63 hB
  unfold Oper.wp
  simp [execOp, hop, resolve, invoke, builtin, hs, hrun, Result.andThen]
  refine hK _ _ ?_ r2
  unfold OwnR
  rw [List.length_append, List.flatMap_append]; exact r1
theorem grown_below {B : Nat} {w w' : World} {r : Option Nat} (h : w.grownBy w' r) (hB : B ≤ w.heap.size) (hr : ∀ k, r = some k → B ≤ k) : Below B w w' :=
  (Below.refl _ _).grown h hB hr
theorem grown_obj {w w' : World} {r : Option Nat} (h : w.grownBy w' r) {g : Nat} {o : Obj} (hg : w.heap[g]? = some o) (hne : r ≠ some g) : w'.heap[g]? = some o := by
  rw [h.block g (Array.getElem?_eq_some_iff.1 hg).1 hne.symm]; exact hg
end Go.Proofs.Ytndekogkfbhabaa
