/- An append to a row of the call's own: the row lies where it was, or in a new block. No conditions beyond sizes. An append of a whole row to a row of the call's own, as one operation. No conditions beyond sizes. Trees in memory that a call itself makes: where their rows lie; rows of trees. No conditions. Walk: a node of several (join). Conditions: at most 100000 nodes. -/
import Derived.Test.YtnbfifmnigeolaaDoorOwnRows
import Derived.Test.YtnbfifmnigeolaaDoorPrsAB
import Derived.Test.YtnbfifmnigeolaaDoorReDeep
import Derived.Test.YtnbfifmnigeolaaDoorInvA
namespace Go.Proofs.YtnbfifmnigeolaaDoor
open Go.RowKit
/-- append to a row of the call's own: whatever is appended, so its cells are read -/
theorem run_append_D {P : Program} (w : World) (B : Nat) (t u ty e : TypeId) (i : TypeInfo) (z : Value) (sz bytes : Nat) (ht : P.underlying t = some (.slice e)) (hu : P.underlying u = some (.slice e) ∨ P.underlying u = some .string) (hi : P.info? e = some i) (hz : i.zero = some z) (hsize : i.size = sz) (hby : i.bytes = bytes) (hzs : z.cells.size = sz)
    (v : Value) (n : Nat) (xs : List Value) (hown : OwnC B e sz w v n xs) (x : Value) (m : Nat) (news : List Value)
    (hlen : (Builtin.lenOf x).run P w = .ok m w) (hfc : ∀ k : Nat, (Builtin.firstCells sz m x).run P (w.drewN k) = .ok news.toArray (w.drewN k)) (hnl : news.length = m * sz) (h1 : ∀ u ∈ news, u.oneCell' = true)
    (hbig : (n + m) * bytes ≤ 140737488355328) (h63 : n + m ≤ maxLen) (hB : B ≤ w.heap.size) :
    ∃ v' w', (Builtin.append_ #[t, u] ty #[v, x]).run P w = .ok v' w' ∧ OwnC B e sz w' v' (n + m) (xs ++ news) ∧ w.grownBy w' v.ownBlock ∧ (v'.ownBlock = v.ownBlock ∨ ∃ g, v'.ownBlock = some g ∧ w.heap.size ≤ g) := by
  subst hsize hby
  have h63' : ¬ (9223372036854775807 < (n : Int) + (m : Int)) := by have := h63; simp only [maxLen] at this; omega
  have hxl : xs.length = n * i.size := hown.1
  have hlen' : (xs ++ news).length = (n + m) * i.size := by rw [List.length_append, hxl, hnl, Nat.add_mul]
  have hf0 : (Builtin.firstCells i.size m x).run P w = .ok news.toArray w := hfc 0
  have hf1 : (Builtin.firstCells i.size m x).run P w.drew = .ok news.toArray w.drew := hfc 1
  -- what a new row owns
  have fresh : ∀ old : Nat, old < n + m → ∀ row : Option Nat,
      OwnC B e i.size (w.drew.alloc (.cells (xs.toArray ++ news.toArray ++ Builtin.zeroCells z.cells (grownCap w (n + m) old e - (n + m))) e)) (.slice (some ⟨w.heap.size, 0, none⟩) (n + m) (grownCap w (n + m) old e)) (n + m) (xs ++ news) ∧
      w.grownBy (w.drew.alloc (.cells (xs.toArray ++ news.toArray ++ Builtin.zeroCells z.cells (grownCap w (n + m) old e - (n + m))) e)) row := by
    intro old ho row
    have hge := grownCap_ge w (n + m) old e
    have hcm := grownCap_le_maxLen w (n + m) old e h63
    have hl2 := hlen'
    rw [List.length_append] at hl2
    refine ⟨⟨hlen', .inr ⟨w.heap.size, _, _, (0, 0), rfl, hB, Go.heap_alloc_new w.drew _, fun j _ h => by simp at h, hge, hcm, ?_, ?_⟩⟩, ⟨rfl, rfl, rfl, by simp, fun k hk _ => Go.heap_alloc_old w.drew _ hk⟩⟩
    · simp only [Array.size_append, List.size_toArray, size_zeroCells, hzs]
      rw [hl2, ← Nat.add_mul, Nat.add_sub_of_le hge]
    · simp only [Array.toList_append]
      rw [← hlen']
      exact List.take_left
  rcases hown.2 with ⟨rfl, rfl⟩ | ⟨g, cap, cur, fz, rfl, hbg, hg, hf, hnc, hcm, hcs, htake⟩
  · have hx : xs = [] := List.eq_nil_of_length_eq_zero (by simpa using hxl)
    subst hx
    by_cases hm : m = 0
    · subst hm
      have hn : news = [] := List.eq_nil_of_length_eq_zero (by simpa using hnl)
      subst hn
      refine ⟨.slice none 0 0, w, ?_, by simpa using OwnC.nil, ⟨rfl, rfl, rfl, Nat.le_refl _, fun _ _ _ => rfl⟩, .inl rfl⟩
      rcases hu with hu | hu <;> simp [Builtin.append_, run_underlying ht, run_underlying hu, sizeOf, typeInfo, hi, hlen, hf0]
    · obtain ⟨r1, r2⟩ := fresh 0 (by omega) (Value.slice none 0 0).ownBlock
      refine ⟨_, _, ?_, r1, r2, .inr ⟨_, rfl, Nat.le_refl _⟩⟩
      have h48 : ¬ (281474976710656 < Builtin.nextslicecap m 0 * i.bytes) := by
        have := growslice_fits (need := m) (old := 0) (bytes := i.bytes) (by omega) (by simpa using hbig)
        omega
      have h63'' : ¬ (9223372036854775807 < (m : Int)) := by simpa using h63'
      have hfo : (Builtin.firstCells i.size 0 (.slice none 0 0)).run P w.drew = .ok #[] w.drew := by simp [Builtin.firstCells]
      rcases hu with hu | hu <;> simp [Builtin.append_, run_underlying ht, run_underlying hu, sizeOf, typeInfo, zeroValue, hi, hz, hlen, hm, h63'', h48, Question.forced, hf1, hfo, newRow, grownCap]
  · by_cases hroom : n + m ≤ cap
    · have hfit : n * i.size + 0 + news.length ≤ cur.size := by rw [hnl, hcs, Nat.add_zero, ← Nat.add_mul]; exact Nat.mul_le_mul_right _ hroom
      obtain ⟨cur', hr, hs, hc⟩ := storeCells_row P g (n * i.size) e fz news 0 cur w hg hf hfit h1
      refine ⟨.slice (some ⟨g, 0, none⟩) (n + m) cap, w.setRow g cur', ?_, ⟨hlen', .inr ⟨g, cap, cur', fz, rfl, hbg, setRow_heap w g cur _ e fz hg, by rw [hs]; exact hf, hroom, hcm, by rw [hs, hcs], ?_⟩⟩, ⟨rfl, rfl, rfl, by simp, fun k _ hk => setRow_other w g k _ (fun e => hk (by simp [Value.ownBlock, e]))⟩, .inl rfl⟩
      · have hadd : (⟨g, 0, none⟩ : Addr).add (n * i.size) = ⟨g, n * i.size, none⟩ := by rw [Addr.add_lit, Nat.zero_add]
        rcases hu with hu | hu <;> simp [Builtin.append_, run_underlying ht, run_underlying hu, sizeOf, typeInfo, hi, hlen, hroom, hf0, hadd, hr]
      · apply List.ext_getElem?
        intro j
        rw [List.getElem?_take, Array.getElem?_toList, hc j]
        by_cases hj : j < n * i.size
        · rw [if_pos (by rw [Nat.add_mul]; omega), if_neg (by omega), List.getElem?_append_left (by omega), ← htake, List.getElem?_take, if_pos hj]
          simp
        · by_cases hj2 : j < (n + m) * i.size
          · have hj3 := hj2
            rw [Nat.add_mul] at hj3
            rw [if_pos hj2, if_pos (by omega), List.getElem?_append_right (by omega), hxl, Nat.add_zero]
          · rw [if_neg hj2, List.getElem?_eq_none (by rw [hlen']; omega)]
    · obtain ⟨r1, r2⟩ := fresh cap (by omega) (Value.slice (some ⟨g, 0, none⟩) n cap).ownBlock
      refine ⟨_, _, ?_, r1, r2, .inr ⟨_, rfl, Nat.le_refl _⟩⟩
      have h48 : ¬ (281474976710656 < Builtin.nextslicecap (n + m) cap * i.bytes) := by
        have := growslice_fits (need := n + m) (old := cap) (bytes := i.bytes) (by omega) hbig
        omega
      have hfo := run_firstCells_some (P := P) w.drew i.size n ⟨g, 0, none⟩ n cap xs hxl (fun j u hj => by
        have hj' : j < n * i.size := by rw [← hxl]; exact (List.getElem?_eq_some_iff.1 hj).1
        rw [Addr.add_lit, Nat.zero_add]
        exact (OwnC.cell hown j hj').trans hj)
      rcases hu with hu | hu <;> simp [Builtin.append_, run_underlying ht, run_underlying hu, sizeOf, typeInfo, zeroValue, hi, hz, hlen, hroom, h63', h48, Question.forced, hf1, hfo, newRow, grownCap]
      all_goals
        congr 2
        apply Array.ext'
        simp

/-- 'append(l, x)', the block of x just laid; another row of the call's own stands -/
theorem app_two {α : Type} {f : α → List Value} {sz B : Nat} {e : TypeId} {w : World} {v : Value} {l : List α} {P : Program} {ops : Array Oper} {rest : List Oper} {o : Oper} {a : Act} {Q : Exit → Act → World → Prop} {t : TypeId} {z : Value} {cs : Array Value} (bytes : Nat) (h : Nat) (hh : h = w.heap.size) (x : α) (hf : ∀ y, (f y).length = sz) (ho : ∀ u ∈ f x, u.oneCell' = true)
    (h1 : P.underlying t = some (.slice e)) (h2 : (P.info? e).map (fun i => (i.zero, i.size, i.bytes)) = some (some z, sz, bytes)) (hzs : z.cells.size = sz)
    (hg : o.guard = none) (s x' : Operand) (hop : o.op = Op.call { callee := Callee.builtin Builtin.append, args := #[s, x'], argTypes := #[t, t] })
    (hs : a.eval s = v) (hx : a.eval x' = .slice (some ⟨h, 0, none⟩) 1 1) (hcs : cs = (f x).toArray)
    (hown : OwnR f sz B e w v l) (hB : B ≤ w.heap.size) (hbig : (l.length + 1) * bytes ≤ 140737488355328) (hlen : l.length + 1 ≤ maxLen)
    (hK : ∀ v' w', OwnR f sz B e w' v' (l ++ [x]) → (w.alloc (.cells cs e)).grownBy w' v.ownBlock → (v'.ownBlock = v.ownBlock ∨ ∃ g, v'.ownBlock = some g ∧ w.heap.size ≤ g) → wpList P ops Q rest (a.put o.dst v') w') :
    wpList P ops Q (o :: rest) a (w.alloc (.cells cs e)) := by
  subst hcs hh
  obtain ⟨i, hi, hz0, hz1, hz2⟩ := info_parts h2
  refine wpList_plain hg fun K hK' => ?_
  have hfc := fun k => firstCells_at (P := P) (w := w.alloc (.cells (f x).toArray e)) (ad := ⟨w.heap.size, 0, none⟩) (m := 1) (c := 1) (news := f x) (by rw [hf, Nat.one_mul]) (fun j u hj => by
      rw [Addr.add_lit, Nat.zero_add, cell_of_row _ w.heap.size j _ e (0, 0) (Go.heap_alloc_new w _)]
      simpa using hj) k
  obtain ⟨v', w', hrun, r1, r2, r3⟩ := run_append_D (P := P) (w.alloc (.cells (f x).toArray e)) B t t o.type e i z sz bytes h1 (.inl h1) hi hz0 hz1 hz2 hzs v l.length (l.flatMap f) (OwnC.alloc hown _) (a.eval x') 1 (f x)
    (by rw [hx]; exact lenOf_slice) (fun k => by rw [hx]; exact hfc k) (by rw [hf, Nat.one_mul]) ho hbig hlen (by simp; omega)
  unfold Oper.wp
  simp [execOp, hop, resolve, invoke, builtin, hs, hrun, Result.andThen]
  refine hK' _ _ (hK v' w' ?_ r2 ?_)
  · unfold OwnR; simpa [List.flatMap_append] using r1
  · rcases r3 with r3 | ⟨g, r3, r4⟩
    · exact .inl r3
    · exact .inr ⟨g, r3, by simp at r4; omega⟩
theorem grown_bel {B : Nat} {w w' : World} {r : Option Nat} (h : w.grownBy w' r) (hB : B ≤ w.heap.size) (hr : ∀ k, r = some k → B ≤ k) : Below B w w' :=
  (Below.refl _ _).grown h hB hr
theorem grown_blk {w w' : World} {r : Option Nat} (h : w.grownBy w' r) {g : Nat} {o : Obj} (hg : w.heap[g]? = some o) (hne : r ≠ some g) : w'.heap[g]? = some o := by
  rw [h.block g (Array.getElem?_eq_some_iff.1 hg).1 hne.symm]; exact hg
theorem OwnR.grow {α : Type} {f : α → List Value} {sz B : Nat} {e : TypeId} {w w' : World} {v : Value} {l : List α} {r : Option Nat} (h : OwnR f sz B e w v l) (hg : w.grownBy w' r) (hne : v.ownBlock = none ∨ v.ownBlock ≠ r) : OwnR f sz B e w' v l := OwnC.grown h hg hne
end Go.Proofs.YtnbfifmnigeolaaDoor
namespace Go.Proofs.YtnbfifmnigeolaaDoor
open Go.RowKit
theorem flatMap_lenA {α : Type} {f : α → List Value} {sz : Nat} (hf : ∀ y, (f y).length = sz) : ∀ l : List α, (l.flatMap f).length = l.length * sz
  | [] => by simp
  | a :: l => by rw [List.flatMap_cons, List.length_append, hf, flatMap_lenA hf l, List.length_cons, Nat.succ_mul]; omega
theorem app_rowW {α : Type} {f : α → List Value} {sz B : Nat} {e : TypeId} {P : Program} {w : World} {v : Value} {l0 l1 : List α} {o : Oper} {a : Act} {K : Act → World → Prop} {Q : Exit → Act → World → Prop} {t : TypeId} {z : Value} (bytes : Nat)
    (hf : ∀ y, (f y).length = sz) (ho : ∀ y, y ∈ l1 → ∀ u ∈ f y, u.oneCell' = true) (h1 : P.underlying t = some (.slice e)) (h2 : (P.info? e).map (fun i => (i.zero, i.size, i.bytes)) = some (some z, sz, bytes)) (hzs : z.cells.size = sz)
    (s x' : Operand) (hop : o.op = Op.call { callee := Callee.builtin Builtin.append, args := #[s, x'], argTypes := #[t, t] }) (hs : a.eval s = v) (hx : RowOf f sz w (a.eval x') l1)
    (hown : OwnR f sz B e w v l0) (hB : B ≤ w.heap.size) (hbig : (l0.length + l1.length) * bytes ≤ 140737488355328) (h63 : l0.length + l1.length ≤ maxLen)
    (hK : ∀ v' w', OwnR f sz B e w' v' (l0 ++ l1) → w.grownBy w' v.ownBlock → K (a.put o.dst v') w') : o.wp P a w K Q := by
  obtain ⟨i, hi, hz0, hz1, hz2⟩ := info_parts h2
  have hfl := flatMap_lenA hf l1
  obtain ⟨ad, cap, hxe, _, _, _, hc⟩ := hx
  have hlen : (Builtin.lenOf (a.eval x')).run P w = .ok l1.length w := by rw [hxe]; exact lenOf_slice
  have hfc : ∀ k : Nat, (Builtin.firstCells sz l1.length (a.eval x')).run P (w.drewN k) = .ok (l1.flatMap f).toArray (w.drewN k) := fun k => by
    rw [hxe]
    rcases hc with h0 | ⟨b, off, rfl, _, hc⟩
    · have : l1 = [] := List.eq_nil_of_length_eq_zero h0
      subst this
      cases ad with
      | none => exact firstCells_none k
      | some ad => exact firstCells_at (news := []) (by simp) (fun j u hj => by simp at hj) k
    · refine firstCells_at hfl (fun j u hj => ?_) k
      have hj' : j < (l1.flatMap f).length := (List.getElem?_eq_some_iff.1 hj).1
      rw [Addr.add_lit, hc j (by omega)]; exact hj
  have h1c : ∀ u ∈ l1.flatMap f, u.oneCell' = true := fun u hu => by
    obtain ⟨y, hm, hy⟩ := List.mem_flatMap.1 hu
    exact ho y hm u hy
  obtain ⟨v', w', hrun, r1, r2⟩ := run_append_C (P := P) w B t t o.type e i z sz bytes h1 (.inl h1) hi hz0 hz1 hz2 hzs v l0.length (l0.flatMap f) hown (a.eval x') l1.length (l1.flatMap f) hlen hfc hfl h1c hbig h63 hB
  unfold Oper.wp
  simp [execOp, hop, resolve, invoke, builtin, hs, hrun, Result.andThen]
  refine hK _ _ ?_ r2
  unfold OwnR
  rw [List.length_append, List.flatMap_append]; exact r1
theorem grown_below {B : Nat} {w w' : World} {r : Option Nat} (h : w.grownBy w' r) (hB : B ≤ w.heap.size) (hr : ∀ k, r = some k → B ≤ k) : Below B w w' :=
  (Below.refl _ _).grown h hB hr
theorem grown_obj {w w' : World} {r : Option Nat} (h : w.grownBy w' r) {g : Nat} {o : Obj} (hg : w.heap[g]? = some o) (hne : r ≠ some g) : w'.heap[g]? = some o := by
  rw [h.block g (Array.getElem?_eq_some_iff.1 hg).1 hne.symm]; exact hg
end Go.Proofs.YtnbfifmnigeolaaDoor
namespace Go.Proofs.YtnbfifmnigeolaaDoor
open Go.RowKit Go.Lib
/-- a tree whose rows lie at B or behind it, none of them in the block p -/
inductive ReX (B p : Nat) (w : World) : RN → Re → Prop where
  | mk (r : RN) (kids : List Re) (rs : List RN) (hI : I64 r.k ∧ I64 r.mn ∧ I64 r.mx) (hk : kids.length ≤ 140737488351232) (hrow : RowOf reC 8 w r.v rs) (hb : rs.length = 0 ∨ ∃ b off n cap, r.v = .slice (some ⟨b, off, none⟩) n cap ∧ B ≤ b ∧ b ≠ p) (hl : rs.length = kids.length)
      (hs : ∀ (i : Nat) (r' : RN) (t : Re), rs[i]? = some r' → kids[i]? = some t → ReX B p w r' t) : ReX B p w r (.mk r.k r.s r.mn r.mx kids)
section
variable {B p : Nat} {w w' : World} {r : RN} {t : Re}
theorem ReX.one (h : ReX B p w r t) : r.v.oneCell' = true := by
  cases h with
  | mk _ kids rs hI hk hrow hb hl hs => exact hrow.one
theorem ReX.kindIs (h : ReX B p w r t) : t.kindP = r.k := by cases h; rfl
theorem ReX.kindI (h : ReX B p w r t) : I64 r.k := by cases h with | mk _ kids rs hI hk hrow hb hl hs => exact hI.1
theorem RowOf.keepX {rs : List RN} {v : Value} (h : RowOf reC 8 w v rs) (hb : rs.length = 0 ∨ ∃ b off n cap, v = .slice (some ⟨b, off, none⟩) n cap ∧ B ≤ b ∧ b ≠ p) (hK : ∀ k, B ≤ k → k < w.heap.size → k ≠ p → w'.heap[k]? = w.heap[k]?) (hz : w.heap.size ≤ w'.heap.size) : RowOf reC 8 w' v rs := by
  obtain ⟨a, cap, rfl, h1, h2, h3, h4⟩ := h
  refine ⟨a, cap, rfl, h1, h2, h3, ?_⟩
  rcases h4 with h4 | ⟨b, off, rfl, hlt, hc⟩
  · exact .inl h4
  · rcases hb with hb | ⟨b', off', n', cap', he, hB, hp⟩
    · exact .inl hb
    · simp only [Value.slice.injEq, Option.some.injEq, Addr.mk.injEq] at he
      obtain ⟨⟨rfl, rfl, _⟩, _, _⟩ := he
      exact .inr ⟨b, off, rfl, by omega, fun i hi => by rw [World.cell?_of_block (w := w) (hK b hB hlt hp)]; exact hc i hi⟩
theorem ReX.keep (h : ReX B p w r t) (hK : ∀ k, B ≤ k → k < w.heap.size → k ≠ p → w'.heap[k]? = w.heap[k]?) (hz : w.heap.size ≤ w'.heap.size) : ReX B p w' r t := by
  induction h with
  | mk r kids rs hI hk hrow hb hl hs ih => exact .mk r kids rs hI hk (hrow.keepX hb hK hz) hb hl ih
theorem ReX.keepB {C : Nat} (h : ReX B p w r t) (hb : Below C w w') (hC : w.heap.size ≤ C) : ReX B p w' r t := h.keep (fun k _ hk _ => hb.block k (by omega)) hb.size
theorem ReX.els {g : Nat} (h : ReX B p w r t) (he : Else g w w') (hg : g < B) : ReX B p w' r t := h.keep (fun k hB hk _ => he.block k hk (by omega)) he.size
theorem ReX.mono {B' : Nat} (h : ReX B p w r t) (hB : B' ≤ B) : ReX B' p w r t := by
  induction h with
  | mk r kids rs hI hk hrow hb hl hs ih => exact .mk r kids rs hI hk hrow (hb.imp id fun ⟨b, off, n, cap, e, h1, h2⟩ => ⟨b, off, n, cap, e, by omega, h2⟩) hl ih
/-- another block that no row can lie in -/
theorem ReX.keepDrop {p' : Nat} (h : ReX B p w r t) (hK : ∀ k, B ≤ k → k < w.heap.size → k ≠ p → w'.heap[k]? = w.heap[k]?) (hz : w.heap.size ≤ w'.heap.size) (hp : p' < B ∨ w.heap.size ≤ p') : ReX B p' w' r t := by
  induction h with
  | mk r kids rs hI hk hrow hb hl hs ih =>
    refine .mk r kids rs hI hk (hrow.keepX hb hK hz) ?_ hl ih
    rcases hb with hb | ⟨b, off, n, cap, e, h1, h2⟩
    · exact .inl hb
    · rcases Nat.eq_zero_or_pos rs.length with h0 | h0
      · exact .inl h0
      refine .inr ⟨b, off, n, cap, e, h1, ?_⟩
      obtain ⟨a, cap', hv, _, _, _, h4⟩ := hrow
      rcases h4 with h4 | ⟨b2, off2, rfl, hlt, _⟩
      · omega
      · rw [e] at hv
        simp only [Value.slice.injEq, Option.some.injEq, Addr.mk.injEq] at hv
        have := hv.1.1
        omega
theorem ReX.drop {p' : Nat} (h : ReX B p w r t) (hp : p' < B ∨ w.heap.size ≤ p') : ReX B p' w r t := h.keepDrop (fun _ _ _ _ => rfl) (Nat.le_refl _) hp
theorem ReAt.lift : ∀ {h h' : Nat} {r : RN} {t : Re}, h ≤ h' → ReAt w h r t → ReAt w h' r t
  | h, 0, r, t, hl, hr => by rw [Nat.le_zero.1 hl] at hr; exact hr
  | h, h' + 1, r, t, hl, hr => by
    rcases Nat.lt_or_ge h (h' + 1) with h1 | h1
    · exact (ReAt.lift (by omega) hr).up
    · rw [show h' + 1 = h by omega]; exact hr
theorem many_levels {rs : List RN} {ts : List Re} : ∀ (n : Nat), (∀ (i : Nat) r t, i < n → rs[i]? = some r → ts[i]? = some t → ∃ h, ReAt w h r t) → ∃ h, ∀ (i : Nat) r t, i < n → rs[i]? = some r → ts[i]? = some t → ReAt w h r t
  | 0, _ => ⟨0, fun i r t hi => by omega⟩
  | n + 1, hall => by
    obtain ⟨h1, H1⟩ := many_levels n fun i r t hi => hall i r t (by omega)
    cases hr : rs[n]? with
    | none => exact ⟨h1, fun i r t hi hri => by
        by_cases e : i = n
        · subst e; rw [hr] at hri; cases hri
        · exact H1 i r t (by omega) hri⟩
    | some r =>
      cases ht : ts[n]? with
      | none => exact ⟨h1, fun i r t hi hri hti => by
          by_cases e : i = n
          · subst e; rw [ht] at hti; cases hti
          · exact H1 i r t (by omega) hri hti⟩
      | some t =>
        obtain ⟨h2, H2⟩ := hall n r t (by omega) hr ht
        refine ⟨max h1 h2, fun i r' t' hi hri hti => ?_⟩
        by_cases e : i = n
        · subst e
          rw [hr] at hri; rw [ht] at hti
          simp only [Option.some.injEq] at hri hti
          subst hri hti
          exact H2.lift (Nat.le_max_right _ _)
        · exact (H1 i r' t' (by omega) hri hti).lift (Nat.le_max_left _ _)
theorem ReX.at' (h : ReX B p w r t) : ∃ n, ReAt w n r t := by
  induction h with
  | mk r kids rs hI hk hrow hb hl hs ih =>
    obtain ⟨n, hn⟩ := many_levels (w := w) (rs := rs) (ts := kids) rs.length fun i r t hi hr ht => ih i r t hr ht
    exact ⟨n + 1, ⟨rfl, rfl, rfl, rfl⟩, hI, hk, rs, hrow, hl, fun i r' t hr ht => hn i r' t (List.getElem?_eq_some_iff.1 hr).1 hr ht⟩
theorem ReX.setT (B p : Nat) (w : World) (q : Nat → Bool) : ReX B p w (setN q) (setT q) :=
  .mk (setN q) [] [] ⟨by show I64 1; unfold I64; omega, by show I64 0; unfold I64; omega, by show I64 0; unfold I64; omega⟩ (Nat.zero_le _) ⟨none, 0, rfl, Nat.le_refl _, Nat.zero_le _, rfl, .inl rfl⟩ (.inl rfl) rfl fun i r t h => by simp at h
end
/-- a row of the call's own of such trees -/
def LsAt (B : Nat) (w : World) (v : Value) (l : List Re) : Prop :=
  ∃ rs : List RN, OwnR reC 8 B 28 w v rs ∧ rs.length = l.length ∧ ∀ (i : Nat) r t, rs[i]? = some r → l[i]? = some t → ∀ q, (v.ownBlock = some q ∨ q < B) → ReX B q w r t
theorem reC_oneAll {r : RN} (h : r.v.oneCell' = true) : ∀ u ∈ reC r, u.oneCell' = true := by
  intro u hu
  simp only [reC, List.mem_cons, List.not_mem_nil, or_false] at hu
  rcases hu with rfl | rfl | rfl | rfl | rfl | rfl | rfl | rfl
  all_goals first | rfl | exact h
theorem info_re3 : (Tryd.prog.info? 28).map (fun i => (i.zero, i.size, i.bytes)) = some (some (.agg #[.int .i64 0, .int .u64 0, .int .u64 0, .int .u64 0, .int .u64 0, .int .i64 0, .int .i64 0, .slice none 0 0]), 8, 80) := by kernel_rfl
section
variable {B : Nat} {w w' : World} {v : Value} {l : List Re}
theorem LsAt.nil (B : Nat) (w : World) : LsAt B w (.slice none 0 0) [] := ⟨[], OwnR.nil, rfl, fun i r t h => by simp at h⟩
theorem LsAt.keep (h : LsAt B w v l) (hK : ∀ k, B ≤ k → k < w.heap.size → w'.heap[k]? = w.heap[k]?) (hz : w.heap.size ≤ w'.heap.size) : LsAt B w' v l := by
  obtain ⟨rs, h1, h2, h3⟩ := h
  exact ⟨rs, h1.other fun k hk => hK k (h1.below hk).1 (h1.below hk).2, h2, fun i r t hr ht q hq => (h3 i r t hr ht q hq).keep (fun k hB hk _ => hK k hB hk) hz⟩
theorem LsAt.keepB (h : LsAt B w v l) (hb : Below w.heap.size w w') : LsAt B w' v l := h.keep (fun k _ hk => hb.block k hk) hb.size
theorem LsAt.els {g : Nat} (h : LsAt B w v l) (he : Else g w w') (hg : g < B) : LsAt B w' v l := h.keep (fun k hB hk => he.block k hk (by omega)) he.size
theorem LsAt.single {r : RN} {t : Re} (hB : B ≤ w.heap.size) (hr : ∃ p, ReX B p w r t) (hp : ∀ q, q < B → ReX B q w r t) : LsAt B (w.alloc (.cells (reC r).toArray 28)) (.slice (some ⟨w.heap.size, 0, none⟩) 1 1) [t] := by
  obtain ⟨p, hr⟩ := hr
  refine ⟨[r], ⟨rfl, .inr ⟨w.heap.size, 1, (reC r).toArray, (0, 0), rfl, hB, Go.heap_alloc_new w _, fun j _ h => by simp at h, Nat.le_refl _, by unfold maxLen; omega, rfl, rfl⟩⟩, rfl, fun i r' t' hr' ht' q hq => ?_⟩
  have hi : i = 0 := by have := (List.getElem?_eq_some_iff.1 hr').1; simpa using this
  subst hi
  simp only [List.getElem?_cons_zero, Option.some.injEq] at hr' ht'
  subst hr' ht'
  have hk := (Below.refl w.heap.size w).alloc (Nat.le_refl _) (.cells (reC r).toArray 28)
  rcases hq with hq | hq
  · simp only [Value.ownBlock, Option.some.injEq] at hq
    subst hq
    exact (hr.drop (.inr (Nat.le_refl _))).keepB hk (Nat.le_refl _)
  · exact (hp q hq).keepB hk (Nat.le_refl _)
/-- behind an append of one tree that was made later than the row -/
theorem LsAt.snoc {rs : List RN} {r : RN} {t : Re} {v' : Value} {w0 : World} (hB0 : 0 < B) (hown : OwnR reC 8 B 28 w' v' (rs ++ [r])) (hl : rs.length = l.length) (h3 : ∀ (i : Nat) r t, rs[i]? = some r → l[i]? = some t → ∀ q, (v.ownBlock = some q ∨ q < B) → ReX B q w r t)
    (hr : ∀ q, (v.ownBlock = some q ∨ q < B) → ReX B q w r t) (hg : w0.grownBy w' v.ownBlock) (h0 : ∀ k, k < w.heap.size → w0.heap[k]? = w.heap[k]?) (hz : w.heap.size ≤ w0.heap.size) (hs : v'.ownBlock = v.ownBlock ∨ ∃ g, v'.ownBlock = some g ∧ w.heap.size ≤ g) : LsAt B w' v' (l ++ [t]) := by
  have hz' : w.heap.size ≤ w'.heap.size := Nat.le_trans hz hg.size
  have keep : ∀ (r : RN) (t : Re), (∀ q, (v.ownBlock = some q ∨ q < B) → ReX B q w r t) → ∀ q, (v'.ownBlock = some q ∨ q < B) → ReX B q w' r t := by
    intro r t H q hq
    cases hv : v.ownBlock with
    | none =>
      have hh := H 0 (.inr hB0)
      refine hh.keepDrop (fun k _ hk _ => by rw [hg.block k (by omega) (by rw [hv]; intro e; cases e), h0 k hk]) hz' ?_
      rcases hq with hq | hq
      · rcases hs with hs | ⟨g, hs, hge⟩
        · rw [hs, hv] at hq; cases hq
        · rw [hs] at hq; exact .inr (by rw [← Option.some.inj hq]; exact hge)
      · exact .inl hq
    | some q0 =>
      have hh := H q0 (.inl hv)
      have hK : ∀ k, B ≤ k → k < w.heap.size → k ≠ q0 → w'.heap[k]? = w.heap[k]? := fun k _ hk hne => by rw [hg.block k (by omega) (by rw [hv]; intro e; exact hne (Option.some.inj e)), h0 k hk]
      rcases hq with hq | hq
      · rcases hs with hs | ⟨g, hs, hge⟩
        · rw [hs, hv] at hq
          rw [← Option.some.inj hq]
          exact hh.keep hK hz'
        · rw [hs] at hq
          exact hh.keepDrop hK hz' (.inr (by rw [← Option.some.inj hq]; exact hge))
      · exact hh.keepDrop hK hz' (.inl hq)
  refine ⟨rs ++ [r], hown, by rw [List.length_append, List.length_append, hl]; rfl, fun i r' t' hr' ht' => keep r' t' ?_⟩
  by_cases hi : i < rs.length
  · rw [List.getElem?_append_left hi] at hr'
    rw [List.getElem?_append_left (by omega)] at ht'
    exact h3 i r' t' hr' ht'
  · have h1 := (List.getElem?_eq_some_iff.1 hr').1
    rw [List.length_append, List.length_cons, List.length_nil] at h1
    obtain rfl : i = rs.length := by omega
    rw [List.getElem?_append_right (Nat.le_refl _), Nat.sub_self] at hr'
    rw [hl, List.getElem?_append_right (Nat.le_refl _), Nat.sub_self] at ht'
    simp only [List.getElem?_cons_zero, Option.some.injEq] at hr' ht'
    subst hr' ht'
    exact hr
end
/-- an append of a whole row of trees -/
theorem app_res {B : Nat} {w : World} {v : Value} {l0 l1 : List RN} {ops : Array Oper} {rest : List Oper} {o : Oper} {a : Act} {Q : Exit → Act → World → Prop}
    (ho : ∀ y, y ∈ l1 → ∀ u ∈ reC y, u.oneCell' = true) (hg : o.guard = none) (s x' : Operand) (hop : o.op = Op.call { callee := Callee.builtin Builtin.append, args := #[s, x'], argTypes := #[26, 26] }) (hs : a.eval s = v) {vx : Value} (hx' : a.eval x' = vx) (hx : RowOf reC 8 w vx l1)
    (hown : OwnR reC 8 B 28 w v l0) (hB : B ≤ w.heap.size) (hn : l0.length + l1.length ≤ 100000)
    (hK : ∀ v' w', OwnR reC 8 B 28 w' v' (l0 ++ l1) → w.grownBy w' v.ownBlock → wpList Tryd.prog ops Q rest (a.put o.dst v') w') : wpList Tryd.prog ops Q (o :: rest) a w := by
  subst hx'
  refine wpList_plain hg fun K hK' => ?_
  exact app_rowW 80 reC_length ho Tryd.underlying26 info_re3 rfl s x' hop hs hx hown hB (by omega) (by unfold maxLen; omega) fun v' w' h1 h2 => hK' _ _ (hK v' w' h1 h2)
end Go.Proofs.YtnbfifmnigeolaaDoor
namespace Go.Proofs.YtnbfifmnigeolaaDoor
open Go.RowKit Go.Lib
def Zp (B g : Nat) (w : World) (ks : List RN) (ts : List Re) : Prop := ks.length = ts.length ∧ ∀ (i : Nat) r t, ks[i]? = some r → ts[i]? = some t → ReX B g w r t
theorem Zp.append {B g : Nat} {w : World} {ks ks2 : List RN} {ts ts2 : List Re} (h : Zp B g w ks ts) (h2 : Zp B g w ks2 ts2) : Zp B g w (ks ++ ks2) (ts ++ ts2) := by
  refine ⟨by rw [List.length_append, List.length_append, h.1, h2.1], fun i r t hr ht => ?_⟩
  by_cases hi : i < ks.length
  · rw [List.getElem?_append_left hi] at hr
    rw [List.getElem?_append_left (by rw [← h.1]; exact hi)] at ht
    exact h.2 i r t hr ht
  · rw [List.getElem?_append_right (by omega)] at hr
    rw [List.getElem?_append_right (by rw [← h.1]; omega), ← h.1] at ht
    exact h2.2 _ r t hr ht
theorem Zp.one {B g : Nat} {w : World} {r : RN} {t : Re} (h : ReX B g w r t) : Zp B g w [r] [t] := ⟨rfl, fun i r' t' hr ht => by
  have hi : i = 0 := by have := (List.getElem?_eq_some_iff.1 hr).1; simpa using this
  subst hi
  simp only [List.getElem?_cons_zero, Option.some.injEq] at hr ht
  subst hr ht; exact h⟩
theorem ReX.open {B p : Nat} {w : World} {r : RN} {t : Re} (h : ReX B p w r t) : ∃ rs, RowOf reC 8 w r.v rs ∧ Zp B p w rs t.kidsP ∧ ∀ y, y ∈ rs → ∀ u ∈ reC y, u.oneCell' = true := by
  cases h with
  | mk _ kids rs hI hk hrow hb hl hs =>
    refine ⟨rs, hrow, ⟨hl, hs⟩, fun y hy => ?_⟩
    obtain ⟨i, hi⟩ := List.getElem?_of_mem hy
    have hlt : i < kids.length := by rw [← hl]; exact (List.getElem?_eq_some_iff.1 hi).1
    exact reC_oneAll (hs i y _ hi (List.getElem?_eq_getElem hlt)).one
/-- the world within the loop of 'join' -/
structure JW (w : World) (Z : Nat) (W : World) : Prop where
  bel : Below Z w W
  box : ReBox W Z reZ
  sz : Z < W.heap.size
theorem JW.keep {w W W' : World} {Z : Nat} (h : JW w Z W) (hb : Below W.heap.size W W') : JW w Z W' := ⟨h.bel.trans (hb.mono (Nat.le_of_lt h.sz)), h.box.keep hb, Nat.lt_of_lt_of_le h.sz hb.size⟩
theorem JW.grow {w W W' : World} {Z : Nat} {v : Option Nat} (h : JW w Z W) (hg : W.grownBy W' v) (hv : ∀ k, v = some k → Z + 1 ≤ k) : JW w Z W' :=
  ⟨h.bel.trans ((Below.refl _ _).grown hg (Nat.le_of_lt h.sz) fun k hk => by have := hv k hk; omega), by
    unfold ReBox; rw [hg.block Z h.sz (fun e => by have := hv Z e.symm; omega)]; exact h.box, Nat.lt_of_lt_of_le h.sz hg.size⟩
set_option maxRecDepth 100000 in
set_option maxHeartbeats 4000000 in
theorem re_join (kind : Int) (hkI : I64 kind) (B g : Nat) (v : Value) (rs : List RN) (l : List Re) (w : World) (hrow : RowOf reC 8 w v rs) (hx : Zp B g w rs l) (hB : B ≤ w.heap.size) (hg : g < B) (hsz : Re.szL l ≤ 100000) :
    Calls Tryd.prog 30 #[.int .i64 kind, v] w fun e w' => ∃ r, e = .returned (reV r) ∧ ReX B g w' r (joinT kind l) ∧ Below w.heap.size w w' := by
  obtain ⟨a, cap, hv, _, _, hc⟩ := hrow.open reC_length
  subst hv
  obtain ⟨n, hn⟩ : ∃ n, rs.length = n := ⟨_, rfl⟩
  have hnl : n ≤ 100000 := by rw [← hn, hx.1]; exact Nat.le_trans (szL_len l) hsz
  have HX := Lib.hid hx
  have HN := Lib.hid hn
  have HF := Lib.hid (fun k => Nat.le_trans (szL_len _) (Nat.le_trans (flatT_le kind (l.take k)) (Nat.le_trans (by
    have := szL_append (l.take k) (l.drop k); rw [List.take_append_drop] at this; omega) hsz)))
  have HG := Lib.hid hg
  have HBz := Lib.hid hB
  rw [hn] at hc ⊢
  clear hx hn hsz hrow hg hB
  have HJ : Hid (JW w w.heap.size (w.alloc (.cells #[.int .i64 0, .int .u64 0, .int .u64 0, .int .u64 0, .int .u64 0, .int .i64 0, .int .i64 0, .slice none 0 0] 28))) := Lib.hid ⟨(Below.refl _ _).alloc (Nat.le_refl _) _, ReBox.zero w, by simp⟩
  go_enter Tryd.func30, Tryd.ntmps30
  repeat' (go_not_at_region 1; first | go_values | go_skip | go_guarded | go_step | go_upon)
  generalize hZ : w.heap.size = Z at HJ hc HBz ⊢
  refine gen_wd (fun W => JW w Z W) HJ.out ?_
  clear HJ
  rintro w1 hj
  have HJ1 := Lib.hid hj
  have HZ := Lib.hid hZ
  clear hj hZ
  repeat' (first | go_values | go_skip | go_guarded | go_step | go_upon)
  go_loopg [5, 10] n (fun gk s5 s10 wr => ∃ (k : Nat) (ks : List RN), s10 = .int .i64 k ∧ k + gk = n ∧ Hid (OwnR reC 8 (Z + 1) 28 wr s5 ks) ∧ Hid (Zp B g w ks (flatT kind (l.take k))) ∧ Hid (JW w Z wr))
  case atStart => exact ⟨0, [], rfl, by omega, Lib.hid OwnR.nil, Lib.hid ⟨rfl, fun i r t h => by simp at h⟩, HJ1⟩
  case round =>
    clear HJ1
    obtain ⟨k, ks, rfl, hkn, HO, HK, HJ⟩ := hrel
    have hown := HO.out
    have hwB : Z + 1 ≤ wr.heap.size := HJ.out.sz
    have hks : ks.length ≤ 100000 := by rw [HK.out.1]; exact HF.out k
    by_cases hlt : k < n
    · have hlt' : (k : Int) < n := by omega
      rcases hc with hc | ⟨b, off, rfl, hb, hc⟩
      · omega
      obtain ⟨r, hr⟩ : ∃ r, rs[k]? = some r := ⟨_, List.getElem?_eq_getElem (by rw [HN.out]; exact hlt)⟩
      obtain ⟨t, ht⟩ : ∃ t, l[k]? = some t := ⟨_, List.getElem?_eq_getElem (by rw [← HX.out.1, HN.out]; exact hlt)⟩
      have hxr := HX.out.2 k r t hr ht
      have hbZ : b < Z := by have := HZ.out; omega
      obtain ⟨c0, c1, c2, c3, c4, c5, c6, c7⟩ := (row_load hc hr).keep HJ.out.bel hbZ
      have hone := hxr.one
      have HKr := Lib.hid (hxr.kindIs)
      have Htk : Hid (flatT kind (l.take (k + 1)) = flatT kind (l.take k) ++ (if t.kindP = kind then t.kidsP else [t])) := Lib.hid (by
        rw [List.take_add_one, ht]; exact flatT_snoc kind _ t)
      have HXr := Lib.hid hxr
      have Hlen := Lib.hid (HF.out (k + 1))
      have HJb : Hid (JW w Z (wr.alloc (.cells (reC r).toArray 28))) := Lib.hid (HJ.out.keep ((Below.refl _ _).alloc (Nat.le_refl _) _))
      have HOb : Hid (OwnR reC 8 (Z + 1) 28 (wr.alloc (.cells (reC r).toArray 28)) u5 ks) := Lib.hid (hown.keep ((Below.refl _ _).alloc (Nat.le_refl _) _) (Nat.le_refl _))
      clear hc hxr hown
      repeat' (go_not_at_region 5; first | (refine store_re (r := r) hone _ _ rfl rfl rfl rfl ?_; dsimp only [Act.put]) | go_values | go_skip | go_guarded | go_step | go_upon)
      have HB7 : Hid (ReBox (wr.alloc (.cells (reC r).toArray 28)) wr.heap.size r) := Lib.hid (ReBox.new wr r)
      clear HO HJ c0 c1 c2 c3 c4 c5 c6 c7 hwB hr ht hb hbZ
      generalize hb7 : wr.heap.size = b7 at HB7 ⊢
      refine gen_wd (fun W => JW w Z W ∧ OwnR reC 8 (Z + 1) 28 W u5 ks ∧ ReBox W b7 r) ⟨HJb.out, HOb.out, HB7.out⟩ ?_
      clear HJb HOb HB7 hb7
      rintro wb ⟨hj, ho, hb7⟩
      have HJ := Lib.hid hj
      have hown := ho
      have hwB : Z + 1 ≤ wb.heap.size := hj.sz
      have HB := Lib.hid hb7
      have d0 : wb.cell? ⟨b7, 0, none⟩ = some (.int .i64 r.k) := by rw [cell_of_row _ _ _ _ _ _ hb7]; rfl
      have d7 : wb.cell? ⟨b7, 7, none⟩ = some r.v := by rw [cell_of_row _ _ _ _ _ _ hb7]; rfl
      have hbel : Hid (Below w.heap.size w wb) := Lib.hid (by rw [HZ.out]; exact hj.bel)
      clear hj ho hb7
      have hown2 := fun q (hq : u5.ownBlock = some q) => (hown.below hq).1
      have HW2 := Lib.hid hown2
      clear hown2
      by_cases hk : r.k = kind
      · have hq : (r.k == kind) = true := by rw [beq_iff_eq]; exact hk
        obtain ⟨rs', hrow', hz', hone'⟩ := HXr.out.open
        have hrk := hrow'.keep hbel.out
        have HT : Hid (flatT kind (l.take (k + 1)) = flatT kind (l.take k) ++ t.kidsP) := Lib.hid (by rw [Htk.out, if_pos (by rw [HKr.out]; exact hk)])
        have hll : ks.length + rs'.length ≤ 100000 := by
          have h1 := Hlen.out
          rw [HT.out, List.length_append, ← HK.out.1, ← hz'.1] at h1
          exact h1
        have Hz := Lib.hid hz'
        clear Htk Hlen hk hrow' hz' HXr HKr
        repeat' (first | (at_builtin; go_loud (refine app_res hone' rfl _ _ rfl rfl rfl hrk hown hwB hll ?_); intro v4 w4 ho4 hg4) | go_values | go_skip | go_guarded | go_step | go_upon)
        go_roundg (gk - 1)
        case rel => exact ⟨k + 1, ks ++ rs', by go_num, by omega, Lib.hid ho4, Lib.hid (by rw [HT.out]; exact HK.out.append Hz.out), Lib.hid (HJ.out.grow hg4 HW2.out)⟩
        case measure => omega
      · have hq : (r.k == kind) = false := beq_false_of_ne hk
        have HT : Hid (flatT kind (l.take (k + 1)) = flatT kind (l.take k) ++ [t]) := Lib.hid (by rw [Htk.out, if_neg (by rw [HKr.out]; exact hk)])
        clear Htk Hlen hk HKr
        repeat' (first | (with_reducible refine load_box HB.out _ rfl rfl ?_; dsimp only [Act.put, reV, reC]) | (at_builtin; go_loud (refine app_two 80 wb.heap.size rfl r reC_length (reC_oneAll hone) Tryd.underlying26 info_re3 rfl rfl _ _ rfl rfl rfl rfl hown hwB (by omega) (by unfold maxLen; omega) ?_); intro v4 w4 ho4 hg4 hs4) | go_values | go_skip | go_guarded | go_step | go_upon)
        go_roundg (gk - 1)
        case rel => exact ⟨k + 1, ks ++ [r], by go_num, by omega, Lib.hid ho4, Lib.hid (by rw [HT.out]; exact HK.out.append (Zp.one HXr.out)), Lib.hid ((HJ.out.keep ((Below.refl _ _).alloc (Nat.le_refl _) _)).grow hg4 HW2.out)⟩
        case measure => omega
    · have hlt' : ¬ (k : Int) < n := by omega
      have HT : Hid (flatT kind (l.take k) = flatT kind l) := Lib.hid (by rw [List.take_of_length_le (by rw [← HX.out.1, HN.out]; omega)])
      have HK2 : Hid (Zp B g w ks (flatT kind l)) := Lib.hid (by rw [← HT.out]; exact HK.out)
      have HB := Lib.hid HJ.out.box
      clear hc HK HT hlt hkn
      by_cases h1 : ks.length = 1
      · obtain ⟨r, hr⟩ := List.length_eq_one_iff.1 h1
        subst hr
        obtain ⟨t, ht⟩ := List.length_eq_one_iff.1 (HK2.out.1.symm.trans h1)
        obtain ⟨q, cap5, rfl⟩ := hown.somewhere (by simp)
        have hxr : ReX B g w r t := HK2.out.2 0 r t rfl (by rw [ht]; rfl)
        have hqr := (hown.below rfl).1
        have hcc := fun j (hj : j < 8) => hown.cellAt reC_length 0 r j rfl hj
        have c0 := hcc 0 (by omega)
        have c1 := hcc 1 (by omega)
        have c2 := hcc 2 (by omega)
        have c3 := hcc 3 (by omega)
        have c4 := hcc 4 (by omega)
        have c5 := hcc 5 (by omega)
        have c6 := hcc 6 (by omega)
        have c7 := hcc 7 (by omega)
        simp only [reC, Nat.zero_mul, Nat.zero_add, List.getElem?_cons_zero, List.getElem?_cons_succ] at c0 c1 c2 c3 c4 c5 c6 c7
        have hone := hxr.one
        have HXr := Lib.hid hxr
        have HTt : Hid (joinT kind l = t) := Lib.hid (joinT_one ht)
        clear hcc HO hown hxr ht h1
        repeat' (first | (with_reducible refine store_box HB.out r hone _ _ rfl rfl rfl ?_; dsimp only [Act.put]) | go_values | go_skip | go_guarded | go_step | go_upon)
        refine bodyPost_ret (results_re rfl _ _ _ _ rfl (HB.out.set _)) rfl ?_
        have hbw : Below w.heap.size w (wr.setRow Z (reC r).toArray) := by rw [HZ.out]; exact Below.row HJ.out.bel (Nat.le_refl _) _
        exact ⟨r, rfl, by rw [HTt.out]; exact HXr.out.keepB hbw (Nat.le_refl _), hbw⟩
      · have h1' : (((ks.length : Nat) : Int) == 1) = false := beq_false_of_ne (by omega)
        have HTt : Hid (joinT kind l = .mk kind (0, 0, 0, 0) 0 0 (flatT kind l)) := Lib.hid (joinT_many (by rw [← HK2.out.1]; exact h1))
        obtain ⟨a5, cap5, rfl, _, _⟩ := hown.form
        clear h1 HO
        repeat' (first | (with_reducible refine store_box HB.out ⟨kind, (0, 0, 0, 0), 0, 0, .slice a5 ks.length cap5⟩ rfl _ _ rfl rfl rfl ?_; dsimp only [Act.put]) | go_values | go_skip | go_guarded | go_step | go_upon)
        refine bodyPost_ret (results_re rfl _ _ _ _ rfl (HB.out.set _)) rfl ?_
        have hbw : Below w.heap.size w (wr.setRow Z (reC ⟨kind, (0, 0, 0, 0), 0, 0, .slice a5 ks.length cap5⟩).toArray) := by rw [HZ.out]; exact Below.row HJ.out.bel (Nat.le_refl _) _
        refine ⟨_, rfl, ?_, hbw⟩
        rw [HTt.out]
        have ho2 : OwnR reC 8 (Z + 1) 28 (wr.setRow Z (reC ⟨kind, (0, 0, 0, 0), 0, 0, .slice a5 ks.length cap5⟩).toArray) (.slice a5 ks.length cap5) ks := hown.other fun q hq => setRow_other _ _ _ _ (by have := (hown.below hq).1; omega)
        refine .mk ⟨kind, (0, 0, 0, 0), 0, 0, .slice a5 ks.length cap5⟩ (flatT kind l) ks ⟨hkI, by show I64 0; unfold I64; omega, by show I64 0; unfold I64; omega⟩ (by rw [← HK2.out.1]; omega) ho2.row ?_ HK2.out.1 fun i r t hr ht => (HK2.out.2 i r t hr ht).keepB hbw (Nat.le_refl _)
        rcases Nat.eq_zero_or_pos ks.length with h0 | h0
        · exact .inl h0
        · obtain ⟨q, cap6, e⟩ := hown.somewhere h0
          have hq1 := (hown.below (g := q) (by rw [e]; rfl)).1
          exact .inr ⟨q, 0, _, _, e, by have := HBz.out; omega, by have := HBz.out; have := HG.out; omega⟩
end Go.Proofs.YtnbfifmnigeolaaDoor
