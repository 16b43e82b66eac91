/- Rows that a call itself has made, whatever mark lies behind their last cell: append, reading, storing. No conditions beyond sizes. -/
import Derived.WalkKit
import Derived.WalkLawsBesides
import Derived.WalkSpells
import Derived.Lib.Hide
import Derived.Lib.Strings
import Derived.Lib.AppendStr
namespace Go.Proofs.Ytndekogkfbhabaa
open Go.RowKit

/-- the slice value v, of n elements of sz cells, has the cells xs of a row of the call's own; no cell of the row is frozen -/
def OwnC (B : Nat) (e : TypeId) (sz : Nat) (w : World) (v : Value) (n : Nat) (xs : List Value) : Prop :=
  xs.length = n * sz ∧ ((v = .slice none 0 0 ∧ n = 0) ∨
    ∃ g cap cur fz, v = .slice (some ⟨g, 0, none⟩) n cap ∧ B ≤ g ∧ w.heap[g]? = some (.cells cur e fz) ∧ (∀ j, j < cur.size → ¬ (fz.1 ≤ j ∧ j < fz.2)) ∧
      n ≤ cap ∧ cap ≤ maxLen ∧ cur.size = cap * sz ∧ cur.toList.take (n * sz) = xs)

section
variable {B : Nat} {e : TypeId} {sz : Nat} {w : World} {v : Value} {n : Nat} {xs : List Value}
theorem OwnC.nil : OwnC B e sz w (.slice none 0 0) 0 [] := ⟨by simp, .inl ⟨rfl, rfl⟩⟩
theorem OwnC.len (h : OwnC B e sz w v n xs) : xs.length = n * sz := h.1
theorem OwnC.of_own (h : w.ownsRow B e sz v n xs) : OwnC B e sz w v n xs := by
  refine ⟨h.1, ?_⟩
  rcases h.2 with h | ⟨g, cap, cur, hv, hB, hg, rest⟩
  · exact .inl h
  · exact .inr ⟨g, cap, cur, (0, 0), hv, hB, hg, fun j _ h => by simp at h, rest⟩
theorem OwnC.base {B' : Nat} (h : OwnC B e sz w v n xs) (hB : B' ≤ B) : OwnC B' e sz w v n xs := by
  refine ⟨h.1, ?_⟩
  rcases h.2 with h | ⟨g, cap, cur, fz, hv, hb, rest⟩
  · exact .inl h
  · exact .inr ⟨g, cap, cur, fz, hv, Nat.le_trans hB hb, rest⟩
theorem OwnC.lt (h : OwnC B e sz w v n xs) : ∀ k, v.ownBlock = some k → B ≤ k ∧ k < w.heap.size := by
  intro k hk
  rcases h.2 with ⟨rfl, _⟩ | ⟨g, cap, cur, fz, rfl, hb, hg, _⟩
  · simp [Value.ownBlock] at hk
  · simp only [Value.ownBlock, Option.some.injEq] at hk
    subst hk
    exact ⟨hb, (Array.getElem?_eq_some_iff.1 hg).1⟩
/-- the row's block is all that matters -/
theorem OwnC.block {w' : World} (h : OwnC B e sz w v n xs) (hb : ∀ k, v.ownBlock = some k → w'.heap[k]? = w.heap[k]?) : OwnC B e sz w' v n xs := by
  refine ⟨h.1, ?_⟩
  rcases h.2 with h | ⟨g, cap, cur, fz, rfl, hB, hg, rest⟩
  · exact .inl h
  · exact .inr ⟨g, cap, cur, fz, rfl, hB, by rw [hb g rfl]; exact hg, rest⟩
/-- it stays so while only blocks from B' on turn -/
theorem OwnC.keep {B' : Nat} {w' : World} (h : OwnC B e sz w v n xs) (hb : Below B' w w') (hB : w.heap.size ≤ B') : OwnC B e sz w' v n xs :=
  h.block fun k hk => hb.block k (by have := (h.lt k hk).2; omega)
theorem OwnC.grown {w' : World} {row : Option Nat} (h : OwnC B e sz w v n xs) (hg : w.grownBy w' row) (hne : v.ownBlock = none ∨ v.ownBlock ≠ row) : OwnC B e sz w' v n xs :=
  h.block fun k hk => hg.block k (h.lt k hk).2 (by rcases hne with h | h <;> simp_all)
theorem OwnC.alloc (h : OwnC B e sz w v n xs) (o : Obj) : OwnC B e sz (w.alloc o) v n xs :=
  h.grown (World.grownBy_alloc w o (none : Option Nat)) (by cases hv : v.ownBlock with | none => exact .inl rfl | some k => exact .inr (by simp))
theorem OwnC.cell {g cap : Nat} (h : OwnC B e sz w (.slice (some ⟨g, 0, none⟩) n cap) n xs) (j : Nat) (hj : j < n * sz) : w.cell? ⟨g, j, none⟩ = xs[j]? := by
  rcases h.2 with ⟨h', _⟩ | ⟨g', cap', cur, fz, h', _, hg, _, _, _, _, ht⟩
  · simp at h'
  · simp only [Value.slice.injEq, Option.some.injEq, Addr.mk.injEq, and_true, true_and] at h'
    obtain ⟨rfl, rfl⟩ := h'
    rw [cell_of_row w g j cur e fz hg, ← ht, List.getElem?_take, if_pos hj]
    simp
theorem OwnC.free {g cap : Nat} (h : OwnC B e sz w (.slice (some ⟨g, 0, none⟩) n cap) n xs) (j : Nat) (hj : j < n * sz) : w.frozen? ⟨g, j, none⟩ = false := by
  rcases h.2 with ⟨h', _⟩ | ⟨g', cap', cur, fz, h', _, hg, hf, hnc, _, hcs, _⟩
  · simp at h'
  · simp only [Value.slice.injEq, Option.some.injEq, Addr.mk.injEq, and_true, true_and] at h'
    obtain ⟨rfl, rfl⟩ := h'
    have hjc : j < cur.size := by rw [hcs]; exact Nat.lt_of_lt_of_le hj (Nat.mul_le_mul_right _ hnc)
    have := hf j hjc
    obtain ⟨lo, hi⟩ := fz
    simp only [World.frozen?, hg]
    simpa using this
theorem OwnC.store {g cap : Nat} (h : OwnC B e sz w (.slice (some ⟨g, 0, none⟩) n cap) n xs) (j : Nat) (u : Value) :
    OwnC B e sz (w.setCell ⟨g, j, none⟩ u) (.slice (some ⟨g, 0, none⟩) n cap) n (xs.set j u) := by
  rcases h.2 with ⟨h', _⟩ | ⟨g', cap', cur, fz, h', hB, hg, hf, hnc, hcm, hcs, ht⟩
  · simp at h'
  · simp only [Value.slice.injEq, Option.some.injEq, Addr.mk.injEq, and_true, true_and] at h'
    obtain ⟨rfl, rfl⟩ := h'
    refine ⟨by simpa using h.1, .inr ⟨g, cap, cur.setIfInBounds j u, fz, rfl, hB, ?_, by simpa using hf, hnc, hcm, by simpa using hcs, ?_⟩⟩
    · rw [setCell_eq_setRow w g j cur e fz u hg]; exact setRow_heap w g cur _ e fz hg
    · rw [Array.toList_setIfInBounds, ← ht, List.take_set]
end

/-- a list of cells stored into a row -/
theorem storeCells_row (P : Program) (g o : Nat) (t : TypeId) (fz : Nat × Nat) : ∀ (vs : List Value) (i : Nat) (cur : Array Value) (w : World), w.heap[g]? = some (.cells cur t fz) →
    (∀ j, j < cur.size → ¬ (fz.1 ≤ j ∧ j < fz.2)) → o + i + vs.length ≤ cur.size → (∀ v ∈ vs, v.oneCell' = true) →
    ∃ cur' : Array Value, (storeCells ⟨g, o, none⟩ vs i).run P w = .ok () (w.setRow g cur') ∧ cur'.size = cur.size ∧
      ∀ j, cur'[j]? = if o + i ≤ j ∧ j < o + i + vs.length then vs[j - (o + i)]? else cur[j]?
  | [], i, cur, w, hg, _, _, _ => ⟨cur, by rw [setRow_self w g cur t fz hg]; rfl, rfl, fun j => by rw [if_neg (by simp only [List.length_nil]; omega)]⟩
  | v :: rest, i, cur, w, hg, hf, hl, h1 => by
    simp only [List.length_cons] at hl
    have hi : o + i < cur.size := by omega
    have hadd : (⟨g, o, none⟩ : Addr).add i = ⟨g, o + i, none⟩ := by rw [Addr.add_lit]
    have hcell : w.cell? ⟨g, o + i, none⟩ = some cur[o + i] := by rw [cell_of_row w g _ cur t fz hg]; simp [hi]
    have hfro : w.frozen? ⟨g, o + i, none⟩ = false := by
      have := hf (o + i) hi
      obtain ⟨lo, hi'⟩ := fz
      simp only [World.frozen?, hg]
      simpa using this
    have hst : (store ((⟨g, o, none⟩ : Addr).add i) v).run P w = .ok () (w.setRow g (cur.setIfInBounds (o + i) v)) := by
      rw [hadd, run_store P w _ v _ (h1 v (by simp)), hcell]
      simp [hfro, setCell_eq_setRow w g (o + i) cur t fz v hg]
    obtain ⟨cur', hr, hs, hc⟩ := storeCells_row P g o t fz rest (i + 1) (cur.setIfInBounds (o + i) v) (w.setRow g (cur.setIfInBounds (o + i) v)) (setRow_heap w g cur _ t fz hg)
      (by simpa using hf) (by simp; omega) (fun x hx => h1 x (by simp [hx]))
    refine ⟨cur', ?_, by simpa using hs, fun j => ?_⟩
    · simp only [storeCells, Sem.run_bind, hst, Result.andThen_ok, hr, setRow_setRow]
    · rw [hc j]
      by_cases hj : o + i = j
      · subst hj
        rw [if_neg (by omega), if_pos (by simp), Nat.sub_self]
        simp [hi]
      · by_cases hj2 : o + (i + 1) ≤ j ∧ j < o + (i + 1) + rest.length
        · rw [if_pos hj2, if_pos (by simp; omega), show j - (o + i) = (j - (o + (i + 1))) + 1 from by omega]
          rfl
        · rw [if_neg hj2, if_neg (by simp; omega)]
          simp [hj]

/-- append to a row of the call's own: whatever is appended, so its cells are read -/
theorem run_append_C {P : Program} (w : World) (B : Nat) (t u ty e : TypeId) (i : TypeInfo) (z : Value) (sz bytes : Nat) (ht : P.underlying t = some (.slice e)) (hu : P.underlying u = some (.slice e) ∨ P.underlying u = some .string) (hi : P.info? e = some i) (hz : i.zero = some z) (hsize : i.size = sz) (hby : i.bytes = bytes) (hzs : z.cells.size = sz)
    (v : Value) (n : Nat) (xs : List Value) (hown : OwnC B e sz w v n xs) (x : Value) (m : Nat) (news : List Value)
    (hlen : (Builtin.lenOf x).run P w = .ok m w) (hfc : ∀ k : Nat, (Builtin.firstCells sz m x).run P (w.drewN k) = .ok news.toArray (w.drewN k)) (hnl : news.length = m * sz) (h1 : ∀ u ∈ news, u.oneCell' = true)
    (hbig : (n + m) * bytes ≤ 140737488355328) (h63 : n + m ≤ maxLen) (hB : B ≤ w.heap.size) :
    ∃ v' w', (Builtin.append_ #[t, u] ty #[v, x]).run P w = .ok v' w' ∧ OwnC B e sz w' v' (n + m) (xs ++ news) ∧ w.grownBy w' v.ownBlock := by
  subst hsize hby
  have h63' : ¬ (9223372036854775807 < (n : Int) + (m : Int)) := by have := h63; simp only [maxLen] at this; omega
  have hxl : xs.length = n * i.size := hown.1
  have hlen' : (xs ++ news).length = (n + m) * i.size := by rw [List.length_append, hxl, hnl, Nat.add_mul]
  have hf0 : (Builtin.firstCells i.size m x).run P w = .ok news.toArray w := hfc 0
  have hf1 : (Builtin.firstCells i.size m x).run P w.drew = .ok news.toArray w.drew := hfc 1
  -- what a new row owns
  have fresh : ∀ old : Nat, old < n + m → ∀ row : Option Nat,
      OwnC B e i.size (w.drew.alloc (.cells (xs.toArray ++ news.toArray ++ Builtin.zeroCells z.cells (grownCap w (n + m) old e - (n + m))) e)) (.slice (some ⟨w.heap.size, 0, none⟩) (n + m) (grownCap w (n + m) old e)) (n + m) (xs ++ news) ∧
      w.grownBy (w.drew.alloc (.cells (xs.toArray ++ news.toArray ++ Builtin.zeroCells z.cells (grownCap w (n + m) old e - (n + m))) e)) row := by
    intro old ho row
    have hge := grownCap_ge w (n + m) old e
    have hcm := grownCap_le_maxLen w (n + m) old e h63
    have hl2 := hlen'
    rw [List.length_append] at hl2
    refine ⟨⟨hlen', .inr ⟨w.heap.size, _, _, (0, 0), rfl, hB, Go.heap_alloc_new w.drew _, fun j _ h => by simp at h, hge, hcm, ?_, ?_⟩⟩, ⟨rfl, rfl, rfl, by simp, fun k hk _ => Go.heap_alloc_old w.drew _ hk⟩⟩
    · simp only [Array.size_append, List.size_toArray, size_zeroCells, hzs]
      rw [hl2, ← Nat.add_mul, Nat.add_sub_of_le hge]
    · simp only [Array.toList_append]
      rw [← hlen']
      exact List.take_left
  rcases hown.2 with ⟨rfl, rfl⟩ | ⟨g, cap, cur, fz, rfl, hbg, hg, hf, hnc, hcm, hcs, htake⟩
  · have hx : xs = [] := List.eq_nil_of_length_eq_zero (by simpa using hxl)
    subst hx
    by_cases hm : m = 0
    · subst hm
      have hn : news = [] := List.eq_nil_of_length_eq_zero (by simpa using hnl)
      subst hn
      refine ⟨.slice none 0 0, w, ?_, by simpa using OwnC.nil, ⟨rfl, rfl, rfl, Nat.le_refl _, fun _ _ _ => rfl⟩⟩
      rcases hu with hu | hu <;> simp [Builtin.append_, run_underlying ht, run_underlying hu, sizeOf, typeInfo, hi, hlen, hf0]
    · obtain ⟨r1, r2⟩ := fresh 0 (by omega) (Value.slice none 0 0).ownBlock
      refine ⟨_, _, ?_, r1, r2⟩
      have h48 : ¬ (281474976710656 < Builtin.nextslicecap m 0 * i.bytes) := by
        have := growslice_fits (need := m) (old := 0) (bytes := i.bytes) (by omega) (by simpa using hbig)
        omega
      have h63'' : ¬ (9223372036854775807 < (m : Int)) := by simpa using h63'
      have hfo : (Builtin.firstCells i.size 0 (.slice none 0 0)).run P w.drew = .ok #[] w.drew := by simp [Builtin.firstCells]
      rcases hu with hu | hu <;> simp [Builtin.append_, run_underlying ht, run_underlying hu, sizeOf, typeInfo, zeroValue, hi, hz, hlen, hm, h63'', h48, Question.forced, hf1, hfo, newRow, grownCap]
  · by_cases hroom : n + m ≤ cap
    · have hfit : n * i.size + 0 + news.length ≤ cur.size := by rw [hnl, hcs, Nat.add_zero, ← Nat.add_mul]; exact Nat.mul_le_mul_right _ hroom
      obtain ⟨cur', hr, hs, hc⟩ := storeCells_row P g (n * i.size) e fz news 0 cur w hg hf hfit h1
      refine ⟨.slice (some ⟨g, 0, none⟩) (n + m) cap, w.setRow g cur', ?_, ⟨hlen', .inr ⟨g, cap, cur', fz, rfl, hbg, setRow_heap w g cur _ e fz hg, by rw [hs]; exact hf, hroom, hcm, by rw [hs, hcs], ?_⟩⟩, ⟨rfl, rfl, rfl, by simp, fun k _ hk => setRow_other w g k _ (fun e => hk (by simp [Value.ownBlock, e]))⟩⟩
      · have hadd : (⟨g, 0, none⟩ : Addr).add (n * i.size) = ⟨g, n * i.size, none⟩ := by rw [Addr.add_lit, Nat.zero_add]
        rcases hu with hu | hu <;> simp [Builtin.append_, run_underlying ht, run_underlying hu, sizeOf, typeInfo, hi, hlen, hroom, hf0, hadd, hr]
      · apply List.ext_getElem?
        intro j
        rw [List.getElem?_take, Array.getElem?_toList, hc j]
        by_cases hj : j < n * i.size
        · rw [if_pos (by rw [Nat.add_mul]; omega), if_neg (by omega), List.getElem?_append_left (by omega), ← htake, List.getElem?_take, if_pos hj]
          simp
        · by_cases hj2 : j < (n + m) * i.size
          · have hj3 := hj2
            rw [Nat.add_mul] at hj3
            rw [if_pos hj2, if_pos (by omega), List.getElem?_append_right (by omega), hxl, Nat.add_zero]
          · rw [if_neg hj2, List.getElem?_eq_none (by rw [hlen']; omega)]
    · obtain ⟨r1, r2⟩ := fresh cap (by omega) (Value.slice (some ⟨g, 0, none⟩) n cap).ownBlock
      refine ⟨_, _, ?_, r1, r2⟩
      have h48 : ¬ (281474976710656 < Builtin.nextslicecap (n + m) cap * i.bytes) := by
        have := growslice_fits (need := n + m) (old := cap) (bytes := i.bytes) (by omega) hbig
        omega
      have hfo := run_firstCells_some (P := P) w.drew i.size n ⟨g, 0, none⟩ n cap xs hxl (fun j u hj => by
        have hj' : j < n * i.size := by rw [← hxl]; exact (List.getElem?_eq_some_iff.1 hj).1
        rw [Addr.add_lit, Nat.zero_add]
        exact (OwnC.cell hown j hj').trans hj)
      rcases hu with hu | hu <;> simp [Builtin.append_, run_underlying ht, run_underlying hu, sizeOf, typeInfo, zeroValue, hi, hz, hlen, hroom, h63', h48, Question.forced, hf1, hfo, newRow, grownCap]
      all_goals
        congr 2
        apply Array.ext'
        simp

/-- the operation: 'append(s, x...)', whatever x is, so its cells are read in every later state of the same memory -/
theorem wp_append {P : Program} {w : World} {ops : Array Oper} {rest : List Oper} {o : Oper} {a : Act} {Q : Exit → Act → World → Prop} {t u e : TypeId} (B : Nat) {v : Value} {n : Nat} {xs : List Value} {z : Value} (sz bytes : Nat)
    (ht : P.underlying t = some (.slice e)) (hu : P.underlying u = some (.slice e) ∨ P.underlying u = some .string) (h2 : (P.info? e).map (fun i => (i.zero, i.size, i.bytes)) = some (some z, sz, bytes)) (hzs : z.cells.size = sz)
    (hg : o.guard = none) (s x' : Operand) (hop : o.op = Op.call { callee := Callee.builtin Builtin.append, args := #[s, x'], argTypes := #[t, u] }) (hs : a.eval s = v)
    (m : Nat) (news : List Value) (hlen : (Builtin.lenOf (a.eval x')).run P w = .ok m w) (hfc : ∀ k : Nat, (Builtin.firstCells sz m (a.eval x')).run P (w.drewN k) = .ok news.toArray (w.drewN k)) (hnl : news.length = m * sz) (h1 : ∀ u ∈ news, u.oneCell' = true)
    (hown : OwnC B e sz w v n xs) (hB : B ≤ w.heap.size) (hbig : (n + m) * bytes ≤ 140737488355328) (h63 : n + m ≤ maxLen)
    (hK : ∀ v' w', OwnC B e sz w' v' (n + m) (xs ++ news) → w.grownBy w' v.ownBlock → wpList P ops Q rest (a.put o.dst v') w') :
    wpList P ops Q (o :: rest) a w := by
  obtain ⟨i, hi, hz0, hz1, hz2⟩ := info_parts h2
  refine wpList_plain hg fun K hK' => ?_
  obtain ⟨v', w', hrun, r1, r2⟩ := run_append_C (P := P) w B t u o.type e i z sz bytes ht hu hi hz0 hz1 hz2 hzs v n xs hown (a.eval x') m news hlen hfc hnl h1 hbig h63 hB
  unfold Oper.wp
  simp [execOp, hop, resolve, invoke, builtin, hs, hrun, Result.andThen]
  exact hK' _ _ (hK v' w' r1 r2)
/-- what stands in a slice of cells that lie somewhere -/
theorem firstCells_at {P : Program} {w : World} {ad : Addr} {m c sz : Nat} {news : List Value} (hnl : news.length = m * sz) (h : ∀ j u, news[j]? = some u → w.cell? (ad.add j) = some u) (k : Nat) :
    (Builtin.firstCells sz m (.slice (some ad) m c)).run P (w.drewN k) = .ok news.toArray (w.drewN k) :=
  run_firstCells_some (P := P) (w.drewN k) sz m ad m c news hnl (fun j u hj => h j u hj)
theorem firstCells_none {P : Program} {w : World} {m c sz : Nat} (k : Nat) : (Builtin.firstCells sz m (.slice none m c)).run P (w.drewN k) = .ok ([] : List Value).toArray (w.drewN k) := by simp [Builtin.firstCells]
theorem firstCells_str {P : Program} {w : World} {s : ByteArray} {sz : Nat} (k : Nat) : (Builtin.firstCells sz s.size (.string s)).run P (w.drewN k) = .ok (Lib.strCells s).toArray (w.drewN k) := Lib.run_firstCells_string (P := P) (w.drewN k) sz s
theorem lenOf_slice {P : Program} {w : World} {a : Option Addr} {n c : Nat} : (Builtin.lenOf (.slice a n c)).run P w = .ok n w := rfl
theorem lenOf_str {P : Program} {w : World} {s : ByteArray} : (Builtin.lenOf (.string s)).run P w = .ok s.size w := rfl
end Go.Proofs.Ytndekogkfbhabaa
