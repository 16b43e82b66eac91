/- Rows that a call itself has made, whatever mark lies behind their last cell: append, reading, storing. No conditions beyond sizes. -/
import Derived.WalkKit
import Derived.WalkLawsBesides
import Derived.WalkSpells
import Derived.Lib.Hide
import Derived.Lib.Strings
import Derived.Lib.AppendStr
namespace Go.Proofs.Ytbomloodllddaaa
open Go.RowKit

/-- the slice value v, of n elements of sz cells, has the cells xs of a row of the call's own; no cell of the row is frozen -/
def OwnC (B : Nat) (e : TypeId) (sz : Nat) (w : World) (v : Value) (n : Nat) (xs : List Value) : Prop :=
  xs.length = n * sz ∧ ((v = .slice none 0 0 ∧ n = 0) ∨
    ∃ g cap cur fz, v = .slice (some ⟨g, 0, none⟩) n cap ∧ B ≤ g ∧ w.heap[g]? = some (.cells cur e fz) ∧ (∀ j, j < cur.size → ¬ (fz.1 ≤ j ∧ j < fz.2)) ∧
      n ≤ cap ∧ cap ≤ maxLen ∧ cur.size = cap * sz ∧ cur.toList.take (n * sz) = xs)

section
variable {B : Nat} {e : TypeId} {sz : Nat} {w : World} {v : Value} {n : Nat} {xs : List Value}
theorem OwnC.nil : OwnC B e sz w (.slice none 0 0) 0 [] := ⟨by simp, .inl ⟨rfl, rfl⟩⟩
theorem OwnC.len (h : OwnC B e sz w v n xs) : xs.length = n * sz := h.1
theorem OwnC.of_own (h : w.ownsRow B e sz v n xs) : OwnC B e sz w v n xs := by
  refine ⟨h.1, ?_⟩
  rcases h.2 with h | ⟨g, cap, cur, hv, hB, hg, rest⟩
  · exact .inl h
  · exact .inr ⟨g, cap, cur, (0, 0), hv, hB, hg, fun j _ h => by simp at h, rest⟩
theorem OwnC.base {B' : Nat} (h : OwnC B e sz w v n xs) (hB : B' ≤ B) : OwnC B' e sz w v n xs := by
  refine ⟨h.1, ?_⟩
  rcases h.2 with h | ⟨g, cap, cur, fz, hv, hb, rest⟩
  · exact .inl h
  · exact .inr ⟨g, cap, cur, fz, hv, Nat.le_trans hB hb, rest⟩
theorem OwnC.lt (h : OwnC B e sz w v n xs) : ∀ k, v.ownBlock = some k → B ≤ k ∧ k < w.heap.size := by
  intro k hk
  rcases h.2 with ⟨rfl, _⟩ | ⟨g, cap, cur, fz, rfl, hb, hg, _⟩
  · simp [Value.ownBlock] at hk
  · simp only [Value.ownBlock, Option.some.injEq] at hk
    subst hk
    exact ⟨hb, (Array.getElem?_eq_some_iff.1 hg).1⟩
/-- the row's block is all that matters -/
theorem OwnC.block {w' : World} (h : OwnC B e sz w v n xs) (hb : ∀ k, v.ownBlock = some k → w'.heap[k]? = w.heap[k]?) : OwnC B e sz w' v n xs := by
  refine ⟨h.1, ?_⟩
  rcases h.2 with h | ⟨g, cap, cur, fz, rfl, hB, hg, rest⟩
  · exact .inl h
  · exact .inr ⟨g, cap, cur, fz, rfl, hB, by rw [hb g rfl]; exact hg, rest⟩
/-- it stays so while only blocks from B' on turn -/
theorem OwnC.keep {B' : Nat} {w' : World} (h : OwnC B e sz w v n xs) (hb : Below B' w w') (hB : w.heap.size ≤ B') : OwnC B e sz w' v n xs :=
  h.block fun k hk => hb.block k (by have := (h.lt k hk).2; omega)
theorem OwnC.grown {w' : World} {row : Option Nat} (h : OwnC B e sz w v n xs) (hg : w.grownBy w' row) (hne : v.ownBlock = none ∨ v.ownBlock ≠ row) : OwnC B e sz w' v n xs :=
  h.block fun k hk => hg.block k (h.lt k hk).2 (by rcases hne with h | h <;> simp_all)
theorem OwnC.alloc (h : OwnC B e sz w v n xs) (o : Obj) : OwnC B e sz (w.alloc o) v n xs :=
  h.grown (World.grownBy_alloc w o (none : Option Nat)) (by cases hv : v.ownBlock with | none => exact .inl rfl | some k => exact .inr (by simp))
theorem OwnC.cell {g cap : Nat} (h : OwnC B e sz w (.slice (some ⟨g, 0, none⟩) n cap) n xs) (j : Nat) (hj : j < n * sz) : w.cell? ⟨g, j, none⟩ = xs[j]? := by
  rcases h.2 with ⟨h', _⟩ | ⟨g', cap', cur, fz, h', _, hg, _, _, _, _, ht⟩
  · simp at h'
  · simp only [Value.slice.injEq, Option.some.injEq, Addr.mk.injEq, and_true, true_and] at h'
    obtain ⟨rfl, rfl⟩ := h'
    rw [cell_of_row w g j cur e fz hg, ← ht, List.getElem?_take, if_pos hj]
    simp
theorem OwnC.free {g cap : Nat} (h : OwnC B e sz w (.slice (some ⟨g, 0, none⟩) n cap) n xs) (j : Nat) (hj : j < n * sz) : w.frozen? ⟨g, j, none⟩ = false := by
  rcases h.2 with ⟨h', _⟩ | ⟨g', cap', cur, fz, h', _, hg, hf, hnc, _, hcs, _⟩
  · simp at h'
  · simp only [Value.slice.injEq, Option.some.injEq, Addr.mk.injEq, and_true, true_and] at h'
    obtain ⟨rfl, rfl⟩ := h'
    have hjc : j < cur.size := by rw [hcs]; exact Nat.lt_of_lt_of_le hj (Nat.mul_le_mul_right _ hnc)
    have := hf j hjc
    obtain ⟨lo, hi⟩ := fz
    simp only [World.frozen?, hg]
    simpa using this
theorem OwnC.store {g cap : Nat} (h : OwnC B e sz w (.slice (some ⟨g, 0, none⟩) n cap) n xs) (j : Nat) (u : Value) :
    OwnC B e sz (w.setCell ⟨g, j, none⟩ u) (.slice (some ⟨g, 0, none⟩) n cap) n (xs.set j u) := by
  rcases h.2 with ⟨h', _⟩ | ⟨g', cap', cur, fz, h', hB, hg, hf, hnc, hcm, hcs, ht⟩
  · simp at h'
  · simp only [Value.slice.injEq, Option.some.injEq, Addr.mk.injEq, and_true, true_and] at h'
    obtain ⟨rfl, rfl⟩ := h'
    refine ⟨by simpa using h.1, .inr ⟨g, cap, cur.setIfInBounds j u, fz, rfl, hB, ?_, by simpa using hf, hnc, hcm, by simpa using hcs, ?_⟩⟩
    · rw [setCell_eq_setRow w g j cur e fz u hg]; exact setRow_heap w g cur _ e fz hg
    · rw [Array.toList_setIfInBounds, ← ht, List.take_set]
end

/-- a list of cells stored into a row -/
theorem storeCells_row (P : Program) (g o : Nat) (t : TypeId) (fz : Nat × Nat) : ∀ (vs : List Value) (i : Nat) (cur : Array Value) (w : World), w.heap[g]? = some (.cells cur t fz) →
    (∀ j, j < cur.size → ¬ (fz.1 ≤ j ∧ j < fz.2)) → o + i + vs.length ≤ cur.size → (∀ v ∈ vs, v.oneCell' = true) →
    ∃ cur' : Array Value, (storeCells ⟨g, o, none⟩ vs i).run P w = .ok () (w.setRow g cur') ∧ cur'.size = cur.size ∧
      ∀ j, cur'[j]? = if o + i ≤ j ∧ j < o + i + vs.length then vs[j - (o + i)]? else cur[j]?
  | [], i, cur, w, hg, _, _, _ => ⟨cur, by rw [setRow_self w g cur t fz hg]; rfl, rfl, fun j => by rw [if_neg (by simp only [List.length_nil]; omega)]⟩
  | v :: rest, i, cur, w, hg, hf, hl, h1 => by
    simp only [List.length_cons] at hl
    have hi : o + i < cur.size := by omega
    have hadd : (⟨g, o, none⟩ : Addr).add i = ⟨g, o + i, none⟩ := by rw [Addr.add_lit]
    have hcell : w.cell? ⟨g, o + i, none⟩ = some cur[o + i] := by rw [cell_of_row w g _ cur t fz hg]; simp [hi]
    have hfro : w.frozen? ⟨g, o + i, none⟩ = false := by
      have := hf (o + i) hi
      obtain ⟨lo, hi'⟩ := fz
      simp only [World.frozen?, hg]
      simpa using this
    have hst : (store ((⟨g, o, none⟩ : Addr).add i) v).run P w = .ok () (w.setRow g (cur.setIfInBounds (o + i) v)) := by
      rw [hadd, run_store P w _ v _ (h1 v (by simp)), hcell]
      simp [hfro, setCell_eq_setRow w g (o + i) cur t fz v hg]
    obtain ⟨cur', hr, hs, hc⟩ := storeCells_row P g o t fz rest (i + 1) (cur.setIfInBounds (o + i) v) (w.setRow g (cur.setIfInBounds (o + i) v)) (setRow_heap w g cur _ t fz hg)
      (by simpa using hf) (by simp; omega) (fun x hx => h1 x (by simp [hx]))
    refine ⟨cur', ?_, by simpa using hs, fun j => ?_⟩
    · simp only [storeCells, Sem.run_bind, hst, Result.andThen_ok, hr, setRow_setRow]
    · rw [hc j]
      by_cases hj : o + i = j
      · subst hj
        rw [if_neg (by omega), if_pos (by simp), Nat.sub_self]
        simp [hi]
      · by_cases hj2 : o + (i + 1) ≤ j ∧ j < o + (i + 1) + rest.length
        · rw [if_pos hj2, if_pos (by simp; omega), show j - (o + i) = (j - (o + (i + 1))) + 1 from by omega]
          rfl
        · rw [if_neg hj2, if_neg (by simp; omega)]
          simp [hj]

/-- append to a row of the call's own: whatever is appended, so its cells are read -/
theorem run_append_C {P : Program} (w : World) (B : Nat) (t u ty e : TypeId) (i : TypeInfo) (z : Value) (sz bytes : Nat) (ht : P.underlying t = some (.slice e)) (hu : P.underlying u = some (.slice e) ∨ P.underlying u = some .string) (hi : P.info? e = some i) (hz : i.zero = some z) (hsize : i.size = sz) (hby : i.bytes = bytes) (hzs : z.cells.size = sz)
    (v : Value) (n : Nat) (xs : List Value) (hown : OwnC B e sz w v n xs) (x : Value) (m : Nat) (news : List Value)
    (hlen : (Builtin.lenOf x).run P w = .ok m w) (hfc : ∀ k : Nat, (Builtin.firstCells sz m x).run P (w.drewN k) = .ok news.toArray (w.drewN k)) (hnl : news.length = m * sz) (h1 : ∀ u ∈ news, u.oneCell' = true)
    (hbig : (n + m) * bytes ≤ 140737488355328) (h63 : n + m ≤ maxLen) (hB : B ≤ w.heap.size) :
    ∃ v' w', (Builtin.append_ #[t, u] ty #[v, x]).run P w = .ok v' w' ∧ OwnC B e sz w' v' (n + m) (xs ++ news) ∧ w.grownBy w' v.ownBlock := by
  subst hsize hby
  have h63' : ¬ (9223372036854775807 < (n : Int) + (m : Int)) := by have := h63; simp only [maxLen] at this; omega
  have hxl : xs.length = n * i.size := hown.1
  have hlen' : (xs ++ news).length = (n + m) * i.size := by rw [List.length_append, hxl, hnl, Nat.add_mul]
  have hf0 : (Builtin.firstCells i.size m x).run P w = .ok news.toArray w := hfc 0
  have hf1 : (Builtin.firstCells i.size m x).run P w.drew = .ok news.toArray w.drew := hfc 1
  -- what a new row owns
  have fresh : ∀ old : Nat, old < n + m → ∀ row : Option Nat,
      OwnC B e i.size (w.drew.alloc (.cells (xs.toArray ++ news.toArray ++ Builtin.zeroCells z.cells (grownCap w (n + m) old e - (n + m))) e)) (.slice (some ⟨w.heap.size, 0, none⟩) (n + m) (grownCap w (n + m) old e)) (n + m) (xs ++ news) ∧
      w.grownBy (w.drew.alloc (.cells (xs.toArray ++ news.toArray ++ Builtin.zeroCells z.cells (grownCap w (n + m) old e - (n + m))) e)) row := by
    intro old ho row
    have hge := grownCap_ge w (n + m) old e
    have hcm := grownCap_le_maxLen w (n + m) old e h63
    have hl2 := hlen'
    rw [List.length_append] at hl2
    refine ⟨⟨hlen', .inr ⟨w.heap.size, _, _, (0, 0), rfl, hB, Go.heap_alloc_new w.drew _, fun j _ h => by simp at h, hge, hcm, ?_, ?_⟩⟩, ⟨rfl, rfl, rfl, by simp, fun k hk _ => Go.heap_alloc_old w.drew _ hk⟩⟩
    · simp only [Array.size_append, List.size_toArray, size_zeroCells, hzs]
      rw [hl2, ← Nat.add_mul, Nat.add_sub_of_le hge]
    · simp only [Array.toList_append]
      rw [← hlen']
      exact List.take_left
  rcases hown.2 with ⟨rfl, rfl⟩ | ⟨g, cap, cur, fz, rfl, hbg, hg, hf, hnc, hcm, hcs, htake⟩
  · have hx : xs = [] := List.eq_nil_of_length_eq_zero (by simpa using hxl)
    subst hx
    by_cases hm : m = 0
    · subst hm
      have hn : news = [] := List.eq_nil_of_length_eq_zero (by simpa using hnl)
      subst hn
      refine ⟨.slice none 0 0, w, ?_, by simpa using OwnC.nil, ⟨rfl, rfl, rfl, Nat.le_refl _, fun _ _ _ => rfl⟩⟩
      rcases hu with hu | hu <;> simp [Builtin.append_, run_underlying ht, run_underlying hu, sizeOf, typeInfo, hi, hlen, hf0]
    · obtain ⟨r1, r2⟩ := fresh 0 (by omega) (Value.slice none 0 0).ownBlock
      refine ⟨_, _, ?_, r1, r2⟩
      have h48 : ¬ (281474976710656 < Builtin.nextslicecap m 0 * i.bytes) := by
        have := growslice_fits (need := m) (old := 0) (bytes := i.bytes) (by omega) (by simpa using hbig)
        omega
      have h63'' : ¬ (9223372036854775807 < (m : Int)) := by simpa using h63'
      have hfo : (Builtin.firstCells i.size 0 (.slice none 0 0)).run P w.drew = .ok #[] w.drew := by simp [Builtin.firstCells]
      rcases hu with hu | hu <;> simp [Builtin.append_, run_underlying ht, run_underlying hu, sizeOf, typeInfo, zeroValue, hi, hz, hlen, hm, h63'', h48, Question.forced, hf1, hfo, newRow, grownCap]
  · by_cases hroom : n + m ≤ cap
    · have hfit : n * i.size + 0 + news.length ≤ cur.size := by rw [hnl, hcs, Nat.add_zero, ← Nat.add_mul]; exact Nat.mul_le_mul_right _ hroom
      obtain ⟨cur', hr, hs, hc⟩ := storeCells_row P g (n * i.size) e fz news 0 cur w hg hf hfit h1
      refine ⟨.slice (some ⟨g, 0, none⟩) (n + m) cap, w.setRow g cur', ?_, ⟨hlen', .inr ⟨g, cap, cur', fz, rfl, hbg, setRow_heap w g cur _ e fz hg, by rw [hs]; exact hf, hroom, hcm, by rw [hs, hcs], ?_⟩⟩, ⟨rfl, rfl, rfl, by simp, fun k _ hk => setRow_other w g k _ (fun e => hk (by simp [Value.ownBlock, e]))⟩⟩
      · have hadd : (⟨g, 0, none⟩ : Addr).add (n * i.size) = ⟨g, n * i.size, none⟩ := by rw [Addr.add_lit, Nat.zero_add]
        rcases hu with hu | hu <;> simp [Builtin.append_, run_underlying ht, run_underlying hu, sizeOf, typeInfo, hi, hlen, hroom, hf0, hadd, hr]
      · apply List.ext_getElem?
        intro j
        rw [List.getElem?_take, Array.getElem?_toList, hc j]
        by_cases hj : j < n * i.size
        · rw [if_pos (by rw [Nat.add_mul]; omega), if_neg (by omega), List.getElem?_append_left (by omega), ← htake, List.getElem?_take, if_pos hj]
          simp
        · by_cases hj2 : j < (n + m) * i.size
          · have hj3 := hj2
            rw [Nat.add_mul] at hj3
            rw [if_pos hj2, if_pos (by omega), List.getElem?_append_right (by omega), hxl, Nat.add_zero]
          · rw [if_neg hj2, List.getElem?_eq_none (by rw [hlen']; omega)]
    · obtain ⟨r1, r2⟩ := fresh cap (by omega) (Value.slice (some ⟨g, 0, none⟩) n cap).ownBlock
      refine ⟨_, _, ?_, r1, r2⟩
      have h48 : ¬ (281474976710656 < Builtin.nextslicecap (n + m) cap * i.bytes) := by
        have := growslice_fits (need := n + m) (old := cap) (bytes := i.bytes) (by omega) hbig
        omega
      have hfo := run_firstCells_some (P := P) w.drew i.size n ⟨g, 0, none⟩ n cap xs hxl (fun j u hj => by
        have hj' : j < n * i.size := by rw [← hxl]; exact (List.getElem?_eq_some_iff.1 hj).1
        rw [Addr.add_lit, Nat.zero_add]
        exact (OwnC.cell hown j hj').trans hj)
      rcases hu with hu | hu <;> simp [Builtin.append_, run_underlying ht, run_underlying hu, sizeOf, typeInfo, zeroValue, hi, hz, hlen, hroom, h63', h48, Question.forced, hf1, hfo, newRow, grownCap]
      all_goals
        congr 2
        apply Array.ext'
        simp

/-- the operation: 'append(s, x...)', whatever x is, so its cells are read in every later state of the same memory -/
theorem wp_append {P : Program} {w : World} {ops : Array Oper} {rest : List Oper} {o : Oper} {a : Act} {Q : Exit → Act → World → Prop} {t u e : TypeId} (B : Nat) {v : Value} {n : Nat} {xs : List Value} {z : Value} (sz bytes : Nat)
    (ht : P.underlying t = some (.slice e)) (hu : P.underlying u = some (.slice e) ∨ P.underlying u = some .string) (h2 : (P.info? e).map (fun i => (i.zero, i.size, i.bytes)) = some (some z, sz, bytes)) (hzs : z.cells.size = sz)
    (hg : o.guard = none) (s x' : Operand) (hop : o.op = Op.call { callee := Callee.builtin Builtin.append, args := #[s, x'], argTypes := #[t, u] }) (hs : a.eval s = v)
    (m : Nat) (news : List Value) (hlen : (Builtin.lenOf (a.eval x')).run P w = .ok m w) (hfc : ∀ k : Nat, (Builtin.firstCells sz m (a.eval x')).run P (w.drewN k) = .ok news.toArray (w.drewN k)) (hnl : news.length = m * sz) (h1 : ∀ u ∈ news, u.oneCell' = true)
    (hown : OwnC B e sz w v n xs) (hB : B ≤ w.heap.size) (hbig : (n + m) * bytes ≤ 140737488355328) (h63 : n + m ≤ maxLen)
    (hK : ∀ v' w', OwnC B e sz w' v' (n + m) (xs ++ news) → w.grownBy w' v.ownBlock → wpList P ops Q rest (a.put o.dst v') w') :
    wpList P ops Q (o :: rest) a w := by
  obtain ⟨i, hi, hz0, hz1, hz2⟩ := info_parts h2
  refine wpList_plain hg fun K hK' => ?_
  obtain ⟨v', w', hrun, r1, r2⟩ := run_append_C (P := P) w B t u o.type e i z sz bytes ht hu hi hz0 hz1 hz2 hzs v n xs hown (a.eval x') m news hlen hfc hnl h1 hbig h63 hB
  unfold Oper.wp
  simp [execOp, hop, resolve, invoke, builtin, hs, hrun, Result.andThen]
  exact hK' _ _ (hK v' w' r1 r2)
/-- what stands in a slice of cells that lie somewhere -/
theorem firstCells_at {P : Program} {w : World} {ad : Addr} {m c sz : Nat} {news : List Value} (hnl : news.length = m * sz) (h : ∀ j u, news[j]? = some u → w.cell? (ad.add j) = some u) (k : Nat) :
    (Builtin.firstCells sz m (.slice (some ad) m c)).run P (w.drewN k) = .ok news.toArray (w.drewN k) :=
  run_firstCells_some (P := P) (w.drewN k) sz m ad m c news hnl (fun j u hj => h j u hj)
theorem firstCells_none {P : Program} {w : World} {m c sz : Nat} (k : Nat) : (Builtin.firstCells sz m (.slice none m c)).run P (w.drewN k) = .ok ([] : List Value).toArray (w.drewN k) := by simp [Builtin.firstCells]
theorem firstCells_str {P : Program} {w : World} {s : ByteArray} {sz : Nat} (k : Nat) : (Builtin.firstCells sz s.size (.string s)).run P (w.drewN k) = .ok (Lib.strCells s).toArray (w.drewN k) := Lib.run_firstCells_string (P := P) (w.drewN k) sz s
theorem lenOf_slice {P : Program} {w : World} {a : Option Addr} {n c : Nat} : (Builtin.lenOf (.slice a n c)).run P w = .ok n w := rfl
theorem lenOf_str {P : Program} {w : World} {s : ByteArray} : (Builtin.lenOf (.string s)).run P w = .ok s.size w := rfl
end Go.Proofs.Ytbomloodllddaaa
/- Base laws of mine, for walks over any program: appends to a row of the call's own, bytes to a text, results. No conditions. -/
namespace Go.Proofs.Ytbomloodllddaaa
open Go.RowKit

theorem nn_add (a b : Nat) : ((0 : Int) ≤ (a : Int) + (b : Int)) = True := by simp; omega
theorem nn_add1 (a b : Nat) : ((0 : Int) ≤ (a : Int) + (b : Int) + 1) = True := by simp; omega
theorem nn_s (a : Nat) : ((0 : Int) ≤ (a : Int) + 1) = True := by simp; omega

attribute [go_sem] nn_add nn_add1 nn_s

/-- a bound that the walk must not see -/
def U64 (n : Nat) : Prop := n < 18446744073709551616
def U32 (n : Nat) : Prop := n < 4294967296

theorem wu64 {x : Int} (h0 : 0 ≤ x) (h : U64 x.toNat) : IntKind.u64.wrap x = x := IntWalk.u64_in x (by unfold U64 at h; omega)
theorem wu32 {x : Int} (h0 : 0 ≤ x) (h : U32 x.toNat) : IntKind.u32.wrap x = x := IntWalk.u32_in x (by unfold U32 at h; omega)
theorem U64.le {a b : Nat} (h : U64 b) (h' : a ≤ b) : U64 a := by unfold U64 at *; omega
def I64 (a : Int) : Prop := -9223372036854775808 ≤ a ∧ a ≤ 9223372036854775807
theorem wi64 {x : Int} (h : I64 x) : IntKind.i64.wrap x = x := IntWalk.i64_in x h
theorem I64.u64 {x : Int} (h : I64 x) : U64 x.toNat := by unfold U64; unfold I64 at h; omega
theorem u64_small {n : Nat} (h : n ≤ 1000000000000000) : U64 n := by unfold U64; omega
theorem i64_small {x : Int} (h : -1000000000000000 ≤ x ∧ x ≤ 1000000000000000) : I64 x := by unfold I64; omega
theorem nat_u64 {a : Int} (h : (Lit.int .u64 a).wf = true) : ∃ n : Nat, a = n ∧ U64 n := by
  have hx : 0 ≤ a ∧ a ≤ 18446744073709551615 := by simpa [Lit.wf, IntKind.min, IntKind.max, IntKind.signed, IntKind.bits] using h
  exact ⟨a.toNat, by omega, by unfold U64; omega⟩
theorem nat_u32 {a : Int} (h : (Lit.int .u32 a).wf = true) : ∃ n : Nat, a = n ∧ U32 n := by
  have hx : 0 ≤ a ∧ a ≤ 4294967295 := by simpa [Lit.wf, IntKind.min, IntKind.max, IntKind.signed, IntKind.bits] using h
  exact ⟨a.toNat, by omega, by unfold U32; omega⟩
theorem int_i64 {a : Int} (h : (Lit.int .i64 a).wf = true) : I64 a := by
  have hx : -9223372036854775808 ≤ a ∧ a ≤ 9223372036854775807 := by simpa [Lit.wf, IntKind.min, IntKind.max, IntKind.signed, IntKind.bits] using h
  exact hx
/-- a slice of numbers that came in: nil, or a row of 'cap' cells, the numbers 'zs' -/
def IsRow (k : IntKind) (w : World) (a : Option Addr) (len cap : Nat) (zs : List Int) : Prop :=
  (a = none ∧ len = 0 ∧ cap = 0 ∧ zs = []) ∨
  ∃ x, a = some x ∧ len ≤ cap ∧ cap ≤ maxLen ∧ zs.length = cap ∧ (∀ i, i < zs.length → w.cell? (x.add i) = some (.int k (zs.getD i 0))) ∧ ∀ n ∈ zs, (Lit.int k n).wf = true

theorem below_of_drew {B : Nat} {w w' : World} (h : Below B w.drew w') : Below B w w' := ⟨h.os, h.tape, h.output, h.size, h.block⟩
/-- a byte, closed to simp -/
def u8 (n : Nat) : UInt8 := UInt8.ofNat n
theorem u8_toNat (n : Nat) : (u8 n).toNat = n % 256 := by simp [u8]
theorem u8_toNat_lt {n : Nat} (h : n < 256) : (u8 n).toNat = n := by rw [u8_toNat]; omega
theorem u8_self (b : UInt8) : u8 b.toNat = b := by simp [u8]
theorem u8_congr {a b : Nat} (h : a % 256 = b % 256) : u8 a = u8 b := by
  apply UInt8.toNat_inj.1
  rw [u8_toNat, u8_toNat, h]
/-- a text's byte, as the list's -/
theorem ba_get (s : ByteArray) (i : Nat) (h : i < s.size) : s[i] = s.data.toList.getD i 0 := by
  show s.data[i] = _
  have h' : i < s.data.size := h
  simp only [List.getD, Array.getElem?_toList]
  rw [Array.getElem?_eq_getElem h']; rfl
theorem ba_len (s : ByteArray) : s.data.toList.length = s.size := by simp
def at8 (t : List UInt8) (i : Nat) : Nat := (t.getD i 0).toNat
theorem at8_lt (t : List UInt8) (i : Nat) : at8 t i < 256 := UInt8.toNat_lt _
theorem ba_at (s : ByteArray) (i : Nat) (h : i < s.size) : s[i].toNat = at8 s.data.toList i := by rw [ba_get]; rfl
attribute [go_sem] ba_at
theorem ba_extract (s : ByteArray) (i j : Nat) : s.extract i j = ⟨((s.data.toList.drop i).take (j - i)).toArray⟩ := by
  apply ByteArray.ext
  apply Array.ext'
  exact Lib.extract_data s i j

def toU8s (l : List Int) : List UInt8 := l.map fun n => u8 n.toNat
theorem toU8s_append (a b : List Int) : toU8s (a ++ b) = toU8s a ++ toU8s b := by simp [toU8s]
theorem toU8s_nil : toU8s [] = [] := rfl
theorem toU8s_cons (a : Int) (l : List Int) : toU8s (a :: l) = u8 a.toNat :: toU8s l := rfl

attribute [simp] toU8s_nil toU8s_cons

/-- the call's own row of numbers -/
def OwnI (B : Nat) (e : TypeId) (k : IntKind) (w : World) (v : Value) (l : List Int) : Prop := OwnC B e 1 w v l.length (l.map (Value.int k))

theorem OwnI.nil (B : Nat) (e : TypeId) (k : IntKind) (w : World) : OwnI B e k w (.slice none 0 0) [] := OwnC.nil

theorem OwnI.lit {B : Nat} {e : TypeId} {k : IntKind} (w : World) (l : List Int) (hB : B ≤ w.heap.size) (n : Nat) (hn : n = l.length) (hm : n ≤ maxLen) :
    OwnI B e k (w.alloc (.cells (l.map (Value.int k)).toArray e)) (.slice (some ⟨w.heap.size, 0, none⟩) n n) l := by
  subst hn
  have h := World.ownsRow_lit (base := B) (e := e) (size := 1) w (l.map (Value.int k)).toArray l.length hB hm (by simp)
  exact OwnC.of_own (by simpa using h)

theorem OwnI.below {B : Nat} {e : TypeId} {k : IntKind} {w : World} {v : Value} {l : List Int} (h : OwnI B e k w v l) {g : Nat} (hg : v.ownBlock = some g) : B ≤ g := (OwnC.lt h g hg).1
theorem OwnI.of_c {B : Nat} {e : TypeId} {k : IntKind} {w : World} {v : Value} {l l' : List Int} {n : Nat} (h : OwnC B e 1 w v (l.length + n) (l.map (Value.int k) ++ l'.map (Value.int k))) (hn : n = l'.length) : OwnI B e k w v (l ++ l') := by
  subst hn
  simpa [OwnI, List.map_append] using h

/-- append of a block that was just laid ('append(l, x, y)') to a row of the call's own -/
theorem app_ints {P : Program} {w : World} {ops : Array Oper} {rest : List Oper} {o : Oper} {a : Act} {Q : Exit → Act → World → Prop} {t e : TypeId} (B : Nat) {v : Value} {l : List Int} {k : IntKind} (bytes : Nat) {m : Nat} {cs : Array Value} (xs : List Int) (h1 : P.underlying t = some (.slice e)) (h2 : (P.info? e).map (fun i => (i.zero, i.size, i.bytes)) = some (some (.int k 0), 1, bytes)) (hby : bytes ≤ 8)
    (hg : o.guard = none) (s x' : Operand) (hop : o.op = Op.call { callee := Callee.builtin Builtin.append, args := #[s, x'], argTypes := #[t, t] })
    (hs : a.eval s = v) (hx : a.eval x' = .slice (some ⟨w.heap.size, 0, none⟩) m m) (hcs : cs = (xs.map (Value.int k)).toArray) (hm : m = xs.length)
    (hown : OwnI B e k w v l) (hB : B ≤ w.heap.size) (hlen : l.length + m < 17592186044416)
    (hK : ∀ v' w', OwnI B e k w' v' (l ++ xs) → Below B w w' → w.heap.size ≤ w'.heap.size → wpList P ops Q rest (a.put o.dst v') w') :
    wpList P ops Q (o :: rest) a (w.alloc (.cells cs e)) := by
  subst hcs hm
  refine wp_append B 1 bytes h1 (.inl h1) h2 rfl hg s x' hop hs xs.length (xs.map (Value.int k)) (by rw [hx]; exact lenOf_slice) ?_ (by simp) (ints_oneCell k xs) (OwnC.alloc hown _) (by simp; omega) ?_ (by unfold maxLen; omega) ?_
  · rw [hx]
    exact firstCells_at (by simp) (fun j u hj => by
      rw [Addr.add_lit, Nat.zero_add, cell_of_row _ w.heap.size j _ e (0, 0) (Go.heap_alloc_new w _)]
      simpa using hj)
  · have : (l.length + xs.length) * bytes ≤ 17592186044416 * 8 := Nat.mul_le_mul (by omega) hby
    omega
  · intro v' w1 hown' hgrow
    refine hK v' w1 (OwnI.of_c hown' rfl) ?_ ?_
    · exact ((Below.refl _ _).alloc hB _).grown hgrow (by simp; omega) (fun k hk => (OwnC.lt hown k hk).1)
    · have := hgrow.size; simp at this; omega

/-- append of a text's bytes ('append(b, s...)') to a row of the call's own -/
theorem app_str {P : Program} {w : World} {ops : Array Oper} {rest : List Oper} {o : Oper} {a : Act} {Q : Exit → Act → World → Prop} {t u e : TypeId} (B : Nat) {v : Value} {l : List Int} (x : List UInt8) (h1 : P.underlying t = some (.slice e)) (hu : P.underlying u = some .string) (h2 : (P.info? e).map (fun i => (i.zero, i.size, i.bytes)) = some (some (.int .u8 0), 1, 1))
    (hg : o.guard = none) (s x' : Operand) (hop : o.op = Op.call { callee := Callee.builtin Builtin.append, args := #[s, x'], argTypes := #[t, u] })
    (hs : a.eval s = v) (hx : a.eval x' = .string ⟨x.toArray⟩)
    (hown : OwnI B e .u8 w v l) (hB : B ≤ w.heap.size) (hlen : l.length + x.length ≤ 140737488355328)
    (hK : ∀ v' w', OwnI B e .u8 w' v' (l ++ x.map fun b => (b.toNat : Int)) → Below B w w' → w.heap.size ≤ w'.heap.size → wpList P ops Q rest (a.put o.dst v') w') :
    wpList P ops Q (o :: rest) a w := by
  have hsz : (⟨x.toArray⟩ : ByteArray).size = x.length := by simp [ByteArray.size]
  refine wp_append B 1 1 h1 (.inr hu) h2 rfl hg s x' hop hs (⟨x.toArray⟩ : ByteArray).size (Lib.strCells ⟨x.toArray⟩) (by rw [hx]; exact lenOf_str) ?_ (by rw [Lib.strCells_length]; simp) (Lib.strCells_oneCell _) hown hB (by rw [hsz]; omega) (by rw [hsz]; unfold maxLen; omega) ?_
  · rw [hx]; exact firstCells_str
  · intro v' w1 hown' hgrow
    have hcs : Lib.strCells ⟨x.toArray⟩ = (x.map fun b => (b.toNat : Int)).map (Value.int .u8) := by simp [Lib.strCells]
    rw [hcs, hsz] at hown'
    refine hK v' w1 (OwnI.of_c hown' (by simp)) ?_ hgrow.size
    exact (Below.refl _ _).grown hgrow hB (fun k hk => (OwnC.lt hown k hk).1)

theorem foldl_toU8s (l : List Int) : ∀ s : ByteArray, l.foldl (fun r n => r.push (UInt8.ofNat n.toNat)) s = ⟨s.data ++ (toU8s l).toArray⟩ := by
  induction l with
  | nil => intro s; simp
  | cons x l ih =>
    intro s
    rw [List.foldl_cons, ih]
    show ByteArray.mk _ = _
    congr 1
    show (s.data.push _) ++ _ = _
    rw [toU8s_cons]
    apply Array.ext'
    simp [u8]

/-- 'string(b)', b a row of the call's own -/
theorem conv_own {P : Program} {w : World} {B : Nat} {e : TypeId} {v : Value} {l : List Int} {t d : TypeId} (h1 : P.underlying t = some (.slice e)) (h2 : P.underlying e = some (.int .u8)) (h3 : P.underlying d = some .string)
    (hown : OwnI B e .u8 w v l) : (convert t d v).run P w = .ok (.string ⟨(toU8s l).toArray⟩) w := by
  rcases hown.2 with ⟨rfl, h0⟩ | ⟨g, cap, cur, fz, rfl, hb, hg, hf, hnc, hcm, hcs, htake⟩
  · have : l = [] := List.eq_nil_of_length_eq_zero h0
    subst this
    rw [run_convert_bytes_string w t d e _ _ _ h1 h2 h3]
    simp [Conv.bytesToString, Sem.run_pure]
    rfl
  · rw [run_convert_bytes_string w t d e _ _ _ h1 h2 h3, run_bytesToString w ⟨g, 0, none⟩ l.length cap l, foldl_toU8s]
    · simp
    · have h := run_loadCells_list (P := P) w ⟨g, 0, none⟩ (l.map (Value.int .u8)) (fun j u hj => by
        have hj' : j < l.length := by simpa using (List.getElem?_eq_some_iff.1 hj).1
        rw [Addr.add_lit, Nat.zero_add, OwnC.cell hown j (by omega)]
        exact hj)
      simpa using h

/-- '[]byte(s)': a row of the call's own -/
theorem own_of_bytes {w : World} {B : Nat} {e : TypeId} (s : ByteArray) (hB : B ≤ w.heap.size) (hm : s.size ≤ maxLen) :
    OwnI B e .u8 (w.drew.alloc (.cells (bytesRow s (grownCap w s.size 0 e)) e ((bytesRow s (grownCap w s.size 0 e)).size, (bytesRow s (grownCap w s.size 0 e)).size + 1))) (.slice (some ⟨w.heap.size, 0, none⟩) s.size (grownCap w s.size 0 e)) (s.data.toList.map fun b => (b.toNat : Int)) := by
  have hge := grownCap_ge w s.size 0 e
  have hcm := grownCap_le_maxLen w s.size 0 e hm
  have hl : (s.data.toList.map fun b => (b.toNat : Int)).length = s.size := by simp
  unfold OwnI
  rw [hl]
  refine ⟨by simp, .inr ⟨w.heap.size, _, _, _, rfl, hB, Go.heap_alloc_new w.drew _, fun j h => by simp; omega, hge, hcm, ?_, ?_⟩⟩
  · have e : s.data.size = s.size := rfl
    simp [bytesRow, e]; omega
  · rw [bytesRow, Array.toList_append, List.take_append_of_le_length (by simp)]
    rw [List.take_of_length_le (by simp)]
    simp
theorem wp_bytes_of {P : Program} {w : World} {ops : Array Oper} {rest : List Oper} {o : Oper} {a : Act} {Q : Exit → Act → World → Prop} {e : TypeId} {t d : TypeId} (B : Nat) (x : List UInt8) (h1 : P.underlying t = some .string) (h3 : P.underlying d = some (.slice e)) (h2 : P.underlying e = some (.int .u8))
    (hg : o.guard = none) (x' : Operand) (hop : o.op = Op.convert t d x') (hs : a.eval x' = .string ⟨x.toArray⟩) (hB : B ≤ w.heap.size) (hm : x.length ≤ maxLen)
    (hK : ∀ v' w', OwnI B e .u8 w' v' (x.map fun b => (b.toNat : Int)) → Below w.heap.size w w' → wpList P ops Q rest (a.put o.dst v') w') : wpList P ops Q (o :: rest) a w := by
  refine wpList_plain hg fun K hK' => ?_
  have hsz : (⟨x.toArray⟩ : ByteArray).size = x.length := by simp [ByteArray.size]
  have hrun := run_bytes_of_string (P := P) w t d e ⟨x.toArray⟩ h1 h3 h2
  have hown := own_of_bytes (w := w) (B := B) (e := e) ⟨x.toArray⟩ hB (by rw [hsz]; exact hm)
  unfold Oper.wp
  simp [execOp, hop, hs, hrun, Result.andThen]
  refine hK' _ _ (hK _ _ (by simpa using hown) ?_)
  exact ((Below.refl _ _).drew).alloc (by simp) _

theorem wp_conv_own {P : Program} {w : World} {ops : Array Oper} {rest : List Oper} {o : Oper} {a : Act} {Q : Exit → Act → World → Prop} {B : Nat} {e : TypeId} {v : Value} {l : List Int} {t d : TypeId} (h1 : P.underlying t = some (.slice e)) (h2 : P.underlying e = some (.int .u8)) (h3 : P.underlying d = some .string)
    (hg : o.guard = none) (x : Operand) (hop : o.op = Op.convert t d x) (hs : a.eval x = v) (hown : OwnI B e .u8 w v l)
    (hK : wpList P ops Q rest (a.put o.dst (.string ⟨(toU8s l).toArray⟩)) w) : wpList P ops Q (o :: rest) a w := by
  refine wpList_plain hg fun K hK' => ?_
  have hrun := conv_own h1 h2 h3 hown
  unfold Oper.wp
  simp [execOp, hop, hs, hrun, Result.andThen]
  exact hK' _ _ hK

/-- 'string([]byte{x, y, ..})' -/
theorem wp_conv_lit {P : Program} {w : World} {ops : Array Oper} {rest : List Oper} {o : Oper} {a : Act} {Q : Exit → Act → World → Prop} {e : TypeId} {t d : TypeId} {m : Nat} {cs : Array Value} (xs : List Int) (h1 : P.underlying t = some (.slice e)) (h2 : P.underlying e = some (.int .u8)) (h3 : P.underlying d = some .string)
    (hg : o.guard = none) (x : Operand) (hop : o.op = Op.convert t d x) (hs : a.eval x = .slice (some ⟨w.heap.size, 0, none⟩) m m) (hcs : cs = (xs.map (Value.int .u8)).toArray) (hm : m = xs.length) (hlen : m < 1000000)
    (hK : wpList P ops Q rest (a.put o.dst (.string ⟨(toU8s xs).toArray⟩)) (w.alloc (.cells cs e))) : wpList P ops Q (o :: rest) a (w.alloc (.cells cs e)) := by
  subst hcs
  exact wp_conv_own h1 h2 h3 hg x hop hs (OwnI.lit (B := 0) w xs (Nat.zero_le _) m hm (by unfold maxLen; omega)) hK

theorem wp_conv_lit4 {P : Program} {w : World} {ops : Array Oper} {rest : List Oper} {o : Oper} {a : Act} {Q : Exit → Act → World → Prop} {e : TypeId} {t d : TypeId} {x0 x1 x2 x3 : Int} (h1 : P.underlying t = some (.slice e)) (h2 : P.underlying e = some (.int .u8)) (h3 : P.underlying d = some .string)
    (hg : o.guard = none) (x : Operand) (hop : o.op = Op.convert t d x) (hs : a.eval x = .slice (some ⟨w.heap.size, 0, none⟩) 4 4)
    (hK : wpList P ops Q rest (a.put o.dst (.string ⟨[u8 x0.toNat, u8 x1.toNat, u8 x2.toNat, u8 x3.toNat].toArray⟩)) (w.alloc (.cells #[.int .u8 x0, .int .u8 x1, .int .u8 x2, .int .u8 x3] e))) : wpList P ops Q (o :: rest) a (w.alloc (.cells #[.int .u8 x0, .int .u8 x1, .int .u8 x2, .int .u8 x3] e)) :=
  wp_conv_lit [x0, x1, x2, x3] h1 h2 h3 hg x hop hs rfl rfl (by decide) hK

/-- 's[i:j]', its bounds known -/
theorem slice_str {P : Program} {t : TypeId} (hu : P.underlying t = some .string) (s : ByteArray) (i j : Int) (a b : Nat) (hi : i = a) (hj : j = b) (h1 : a ≤ b) (h2 : b ≤ s.size) (wx : World) :
    (Instr.slice t (.string s) (some (.int .i64 i)) (some (.int .i64 j)) none).run P wx = .ok (.string ⟨((s.data.toList.drop a).take (b - a)).toArray⟩) wx := by
  have := run_slice_string (P := P) wx t s .i64 .i64 i j hu (by omega) (by omega) (by omega)
  rw [this, ba_extract]
  subst hi hj
  simp
theorem or_u64 (n c k : Nat) (hn : n < 2 ^ k) (h : U64 (c * 2 ^ k)) (hk : k < 64) : bits .or .u64 (n : Int) (IntKind.u64.wrap ((c : Int) * 2 ^ k)) = ((n + c * 2 ^ k : Nat) : Int) := by
  have hp : 2 ^ k < 18446744073709551616 := Nat.lt_of_lt_of_le (Nat.pow_lt_pow_right (by omega : 1 < 2) hk) (by decide)
  have e : (c : Int) * 2 ^ k = ((c * 2 ^ k : Nat) : Int) := by simp
  rw [e, wu64 (by omega) (by rw [Int.toNat_natCast]; exact h), u64_or_nat _ _ (by omega) h, Nat.or_comm, nat_join k _ _ (by simp) hn, Nat.add_comm]

theorem ret_i {k : IntKind} {a b : Int} (h : a = b) : Ending.returned (.int k a) = Ending.returned (.int k b) := by rw [h]
theorem ret_s {a b : List UInt8} (h : a = b) : Ending.returned (.string ⟨a.toArray⟩) = Ending.returned (.string ⟨b.toArray⟩) := by rw [h]
theorem ret_b {a b : Bool} (h : a = b) : Ending.returned (.bool a) = Ending.returned (.bool b) := by rw [h]
theorem ret_iii {k1 k2 k3 : IntKind} {a1 b1 a2 b2 a3 b3 : Int} (h1 : a1 = b1) (h2 : a2 = b2) (h3 : a3 = b3) : Ending.returned (.tuple #[.int k1 a1, .int k2 a2, .int k3 a3]) = Ending.returned (.tuple #[.int k1 b1, .int k2 b2, .int k3 b3]) := by rw [h1, h2, h3]
end Go.Proofs.Ytbomloodllddaaa
/- Numbers as bytes, in plain Lean: no program in sight. -/
namespace Go.Proofs.Ytbomloodllddaaa

/-- how a number is written -/
def vput (n : Nat) : List UInt8 :=
  if n < 128 then [u8 n] else u8 (n % 128 + 128) :: vput (n / 128)
  termination_by n
  decreasing_by omega

theorem vput_lt {n : Nat} (h : n < 128) : vput n = [u8 n] := by rw [vput, if_pos h]
theorem vput_ge {n : Nat} (h : 128 ≤ n) : vput n = u8 (n % 128 + 128) :: vput (n / 128) := by rw [vput, if_neg (by omega)]

theorem vput_len (k : Nat) : ∀ n : Nat, n < 128 ^ (k + 1) → (vput n).length ≤ k + 1 := by
  induction k with
  | zero => intro n h; rw [vput_lt (by simpa using h)]; simp
  | succ k ih =>
    intro n h
    by_cases h1 : n < 128
    · rw [vput_lt h1]; simp
    · rw [vput_ge (by omega)]
      have := ih (n / 128) (by rw [Nat.div_lt_iff_lt_mul (by decide)]; rwa [Nat.pow_succ] at h)
      simp; omega
theorem vput_len10 {n : Nat} (h : U64 n) : (vput n).length ≤ 10 := vput_len 9 n (Nat.lt_trans h (by decide))
theorem vput_pos (n : Nat) : 1 ≤ (vput n).length := by rw [vput]; split <;> simp

theorem bit_or128 (m : Nat) : u8 (bits .or .u8 ((m : Int) % 256) 128).toNat = u8 (m % 128 + 128) := by
  have h := u8_or_nat (m % 256) 128 (by omega) (by decide)
  rw [show ((m % 256 : Nat) : Int) = (m : Int) % 256 from by omega] at h
  rw [show ((128 : Nat) : Int) = 128 from rfl] at h
  rw [h]
  have : (m % 256 ||| 128) = m % 128 + 128 := by
    have : ∀ x : Fin 256, (x.val ||| 128) = x.val % 128 + 128 := by decide +kernel
    have := this ⟨m % 256, by omega⟩
    simp at this
    omega
  rw [this]
  exact u8_congr (by omega)

def p64 : Nat := 18446744073709551616
/-- the digits of k bytes from a place on -/
def dsum (t : List UInt8) (a : Nat) : Nat → Nat
  | 0 => 0
  | k + 1 => dsum t a k + at8 t (a + k) % 128 * 2 ^ (7 * k)
theorem dsum_lt (t : List UInt8) (a : Nat) : ∀ k, dsum t a k < 2 ^ (7 * k)
  | 0 => by simp [dsum]
  | k + 1 => by
    have h := dsum_lt t a k
    have e : 2 ^ (7 * (k + 1)) = 128 * 2 ^ (7 * k) := by rw [show 7 * (k + 1) = 7 * k + 7 from by omega, Nat.pow_add]; simp [Nat.mul_comm]
    rw [dsum, e]
    have : at8 t (a + k) % 128 * 2 ^ (7 * k) ≤ 127 * 2 ^ (7 * k) := Nat.mul_le_mul_right _ (by omega)
    omega
theorem dsum_shift (t : List UInt8) (a : Nat) : ∀ k, dsum t a (k + 1) = at8 t a % 128 + 128 * dsum t (a + 1) k
  | 0 => by simp [dsum]
  | k + 1 => by
    rw [dsum, dsum_shift t a k, dsum]
    have e : 2 ^ (7 * (k + 1)) = 128 * 2 ^ (7 * k) := by rw [show 7 * (k + 1) = 7 * k + 7 from by omega, Nat.pow_add]; simp [Nat.mul_comm]
    rw [e, show a + 1 + k = a + (k + 1) from by omega, Nat.mul_add, Nat.mul_left_comm]
    omega
/-- the first k bytes from a place on are there, and go on -/
def Lead (t : List UInt8) (a k : Nat) : Prop := ∀ i, i < k → a + i < t.length ∧ 128 ≤ at8 t (a + i)
theorem Lead.zero (t : List UInt8) (a : Nat) : Lead t a 0 := fun i h => by omega
theorem Lead.succ {t : List UInt8} {a k : Nat} (h : Lead t a k) (h1 : a + k < t.length) (h2 : 128 ≤ at8 t (a + k)) : Lead t a (k + 1) := fun i hi => by
  by_cases e : i = k
  · subst e; exact ⟨h1, h2⟩
  · exact h i (by omega)
def lead (t : List UInt8) (a : Nat) : Nat → Nat
  | 0 => 0
  | k + 1 => if lead t a k = k ∧ a + k < t.length ∧ 128 ≤ at8 t (a + k) then k + 1 else lead t a k
theorem lead_all {t : List UInt8} {a k : Nat} (h : Lead t a k) : ∀ j, j ≤ k → lead t a j = j
  | 0, _ => rfl
  | j + 1, hj => by
    have := h j (by omega)
    rw [lead, if_pos ⟨lead_all h j (by omega), this⟩]
theorem lead_stop {t : List UInt8} {a k : Nat} (h : Lead t a k) (hs : ¬ (a + k < t.length ∧ 128 ≤ at8 t (a + k))) : ∀ j, lead t a (k + j) = k
  | 0 => lead_all h k (Nat.le_refl _)
  | j + 1 => by
    have ih := lead_stop h hs j
    rw [← Nat.add_assoc, lead, ih, if_neg]
    rintro ⟨h1, h2⟩
    obtain rfl : j = 0 := by omega
    exact hs h2

/-- what Get tells: the number, the place behind it, the error -/
def vget (t : List UInt8) (a : Int) : Nat × Int × Int :=
  if a < 0 ∨ (t.length : Int) < a then (0, 0, 1) else
  if lead t a.toNat 10 = 10 then (0, 0, 21) else
  if a.toNat + lead t a.toNat 10 = t.length then (0, 0, 20) else
  if vput (dsum t a.toNat (lead t a.toNat 10 + 1) % p64) = (t.drop a.toNat).take (lead t a.toNat 10 + 1) then (dsum t a.toNat (lead t a.toNat 10 + 1) % p64, (a.toNat : Int) + lead t a.toNat 10 + 1, 0) else (0, 0, 21)

theorem vget_arg {t : List UInt8} {a : Int} (h : a < 0 ∨ (t.length : Int) < a) : vget t a = (0, 0, 1) := if_pos h
theorem vget_short {t : List UInt8} {a k : Nat} (h : Lead t a k) (hk : k < 10) (he : a + k = t.length) : vget t a = (0, 0, 20) := by
  have hl : lead t a 10 = k := by have := lead_stop h (by omega) (10 - k); rwa [show k + (10 - k) = 10 from by omega] at this
  unfold vget
  rw [if_neg (by omega), Int.toNat_natCast, hl, if_neg (by omega), if_pos he]
theorem vget_ten {t : List UInt8} {a : Nat} (h : Lead t a 10) : vget t a = (0, 0, 21) := by
  have hl : lead t a 10 = 10 := lead_all h 10 (Nat.le_refl _)
  have := h 0 (by omega)
  unfold vget
  rw [if_neg (by omega), Int.toNat_natCast, if_pos hl]
theorem vget_at {t : List UInt8} {a k : Nat} (h : Lead t a k) (hk : k < 10) (he : a + k < t.length) (hc : at8 t (a + k) < 128) :
    vget t a = if vput (dsum t a (k + 1) % p64) = (t.drop a).take (k + 1) then (dsum t a (k + 1) % p64, (a : Int) + k + 1, 0) else (0, 0, 21) := by
  have hl : lead t a 10 = k := by have := lead_stop h (by omega) (10 - k); rwa [show k + (10 - k) = 10 from by omega] at this
  unfold vget
  rw [if_neg (by omega), Int.toNat_natCast, hl, if_neg (by omega), if_neg (by omega)]

theorem drop_at8 {t : List UInt8} {a : Nat} (h : a < t.length) : t.drop a = u8 (at8 t a) :: t.drop (a + 1) := by
  rw [List.drop_eq_getElem_cons h]
  congr 1
  unfold at8
  rw [List.getD_eq_getElem?_getD, List.getElem?_eq_getElem h]
  exact (u8_self _).symm
/-- digits that end as they must are written as they stand -/
theorem vput_dsum {t : List UInt8} : ∀ {k a : Nat}, Lead t a k → a + k < t.length → at8 t (a + k) < 128 → (at8 t (a + k) ≠ 0 ∨ k = 0) → vput (dsum t a (k + 1)) = (t.drop a).take (k + 1)
  | 0, a, _, he, hc, _ => by
    have e : dsum t a (0 + 1) = at8 t a := by simp only [dsum, Nat.mul_zero, Nat.add_zero] at *; omega
    rw [e, vput_lt (by simpa using hc), drop_at8 (by simpa using he)]
    simp
  | k + 1, a, h, he, hc, hz => by
    have h0 := h 0 (by omega)
    have hne : at8 t (a + (k + 1)) ≠ 0 := by omega
    have ih := vput_dsum (k := k) (a := a + 1) (fun i hi => by have := h (i + 1) (by omega); rwa [show a + (i + 1) = a + 1 + i from by omega] at this) (by omega)
      (by rwa [show a + 1 + k = a + (k + 1) from by omega]) (.inl (by rwa [show a + 1 + k = a + (k + 1) from by omega]))
    have hb := at8_lt t a
    have hpos : 1 ≤ dsum t (a + 1) (k + 1) := by
      rw [dsum, show a + 1 + k = a + (k + 1) from by omega]
      have : 1 ≤ at8 t (a + (k + 1)) % 128 * 2 ^ (7 * k) := Nat.mul_pos (by omega) (Nat.two_pow_pos _)
      omega
    rw [Nat.add_zero] at h0
    rw [dsum_shift, vput_ge (by omega), drop_at8 (by omega), List.take_succ_cons]
    congr 1
    · exact u8_congr (by omega)
    · rw [← ih]; congr 1; omega
/-- what is written, read off its bytes -/
theorem dsum_vput {t : List UInt8} : ∀ {k a n : Nat}, a + k < t.length → vput n = (t.drop a).take (k + 1) → dsum t a (k + 1) = n ∧ (k = 0 ∨ at8 t (a + k) ≠ 0)
  | 0, a, n, he, h => by
    rw [drop_at8 (by omega)] at h
    have hn : n < 128 := by
      have := congrArg List.length h
      by_cases hn : n < 128
      · exact hn
      · rw [vput_ge (by omega), List.length_cons, List.length_take] at this
        have := vput_pos (n / 128)
        omega
    rw [vput_lt hn] at h
    simp at h
    have h' := congrArg UInt8.toNat h
    rw [u8_toNat_lt (by omega), u8_toNat_lt (at8_lt _ _)] at h'
    refine ⟨?_, .inl rfl⟩
    simp only [dsum, Nat.mul_zero, Nat.add_zero]
    omega
  | k + 1, a, n, he, h => by
    rw [drop_at8 (by omega), List.take_succ_cons] at h
    have hn : ¬ n < 128 := by
      intro hn
      rw [vput_lt hn] at h
      have := congrArg List.length h
      simp at this
      omega
    rw [vput_ge (by omega)] at h
    simp only [List.cons.injEq] at h
    obtain ⟨h1, h2⟩ := h
    have h' := congrArg UInt8.toNat h1
    rw [u8_toNat_lt (by omega), u8_toNat_lt (at8_lt _ _)] at h'
    have ih := dsum_vput (k := k) (a := a + 1) (by omega) h2
    rw [show a + 1 + k = a + (k + 1) from by omega] at ih
    have hpos : 1 ≤ n / 128 := by omega
    refine ⟨?_, .inr ?_⟩
    · rw [dsum_shift, ih.1]; omega
    · rcases ih.2 with h3 | h3
      · subst h3
        intro h0
        have := ih.1
        rw [dsum, dsum, Nat.add_zero, show a + 1 = a + (0 + 1) from rfl, h0] at this
        simp at this
        omega
      · exact h3
theorem pow63 : (2 : Nat) ^ (7 * 9) = 9223372036854775808 := by decide
theorem dsum_u64 {t : List UInt8} {a k : Nat} (hk : k < 10) (h9 : k = 9 → at8 t (a + k) ≤ 1) : dsum t a (k + 1) < p64 := by
  by_cases e : k = 9
  · subst e
    have h := dsum_lt t a 9
    have := h9 rfl
    rw [dsum]
    rw [pow63] at *
    unfold p64
    have : at8 t (a + 9) % 128 ≤ 1 := by omega
    omega
  · have h := dsum_lt t a (k + 1)
    have : (2 : Nat) ^ (7 * (k + 1)) ≤ 2 ^ 63 := Nat.pow_le_pow_right (by omega) (by omega)
    have e : (2 : Nat) ^ 63 = 9223372036854775808 := by decide
    unfold p64
    omega
theorem vget_ok {t : List UInt8} {a k : Nat} (h : Lead t a k) (hk : k < 10) (he : a + k < t.length) (hc : at8 t (a + k) < 128) (hz : at8 t (a + k) ≠ 0 ∨ k = 0) (h9 : k = 9 → at8 t (a + k) ≤ 1) :
    vget t a = (dsum t a (k + 1), (a : Int) + k + 1, 0) := by
  rw [vget_at h hk he hc, Nat.mod_eq_of_lt (dsum_u64 hk h9), if_pos (vput_dsum h he hc hz)]
theorem vget_nought {t : List UInt8} {a k : Nat} (h : Lead t a k) (hk : k < 10) (he : a + k < t.length) (hc : at8 t (a + k) = 0) (h0 : 0 < k) :
    vget t a = (0, 0, 21) := by
  rw [vget_at h hk he (by omega), if_neg]
  intro hv
  have := (dsum_vput he hv).2
  omega
theorem vget_wide {t : List UInt8} {a : Nat} (h : Lead t a 9) (he : a + 9 < t.length) (hc : 1 < at8 t (a + 9)) : vget t a = (0, 0, 21) := by
  by_cases h1 : at8 t (a + 9) < 128
  · rw [vget_at h (by omega) he h1, if_neg]
    intro hv
    have h2 := (dsum_vput he hv).1
    have h3 : dsum t a (9 + 1) % p64 < p64 := Nat.mod_lt _ (by unfold p64; omega)
    rw [← h2] at h3
    rw [dsum, pow63] at h3
    unfold p64 at h3
    have : 2 ≤ at8 t (a + 9) % 128 := by omega
    omega
  · exact vget_ten (h.succ he (by omega))
end Go.Proofs.Ytbomloodllddaaa
/- Texts with their lengths, in plain Lean. -/
namespace Go.Proofs.Ytbomloodllddaaa
theorem vget_cases (t : List UInt8) (a : Int) : (∃ e : Int, vget t a = (0, 0, e) ∧ (e = 1 ∨ e = 20 ∨ e = 21)) ∨
    ∃ m k n : Nat, a = m ∧ k < 10 ∧ m + k < t.length ∧ vput n = (t.drop m).take (k + 1) ∧ n < p64 ∧ vget t a = (n, (m : Int) + k + 1, 0) := by
  unfold vget
  split
  · exact .inl ⟨1, rfl, .inl rfl⟩
  · rename_i h0
    split
    · exact .inl ⟨21, rfl, .inr (.inr rfl)⟩
    · rename_i h1
      split
      · exact .inl ⟨20, rfl, .inr (.inl rfl)⟩
      · rename_i h2
        split
        · rename_i h3
          refine .inr ⟨a.toNat, lead t a.toNat 10, _, by omega, ?_, ?_, h3, Nat.mod_lt _ (by unfold p64; omega), rfl⟩
          · have : ∀ j, lead t a.toNat j ≤ j := by
              intro j
              induction j with
              | zero => exact Nat.le_refl _
              | succ j ih => rw [lead]; split <;> omega
            have := this 10
            omega
          · have hl : ∀ j, a.toNat + lead t a.toNat j ≤ t.length := by
              intro j
              induction j with
              | zero => show a.toNat + 0 ≤ _; omega
              | succ j ih =>
                rw [lead]; split
                · omega
                · exact ih
            have := hl 10
            omega
        · exact .inl ⟨21, rfl, .inr (.inr rfl)⟩
/-- what GetText tells -/
def gett (t : List UInt8) (a most : Int) : List UInt8 × Int × Int :=
  if (vget t a).2.2 ≠ 0 then ([], 0, (vget t a).2.2) else
  if max most 0 < ((vget t a).1 : Int) then ([], 0, 2) else
  if (t.length : Int) - (vget t a).2.1 < (vget t a).1 then ([], 0, 20) else
  ((t.drop (vget t a).2.1.toNat).take (vget t a).1, (vget t a).2.1 + (vget t a).1, 0)
theorem gett_bad {t : List UInt8} {a most e : Int} (h : vget t a = (0, 0, e)) (he : e ≠ 0) : gett t a most = ([], 0, e) := by
  unfold gett; rw [h]; exact if_pos he
theorem gett_long {t : List UInt8} {a most tq : Int} {n : Nat} (h : vget t a = (n, tq, 0)) (hn : max most 0 < (n : Int)) : gett t a most = ([], 0, 2) := by
  unfold gett; rw [h, if_neg (by simp)]; exact if_pos hn
theorem gett_short {t : List UInt8} {a most tq : Int} {n : Nat} (h : vget t a = (n, tq, 0)) (hn : ¬ max most 0 < (n : Int)) (hs : (t.length : Int) - tq < n) : gett t a most = ([], 0, 20) := by
  unfold gett; rw [h, if_neg (by simp), if_neg hn]; exact if_pos hs
theorem gett_ok {t : List UInt8} {a most : Int} {n tq : Nat} (h : vget t a = (n, (tq : Int), 0)) (hn : ¬ max most 0 < (n : Int)) (hs : ¬ (t.length : Int) - tq < n) : gett t a most = ((t.drop tq).take n, (tq : Int) + n, 0) := by
  unfold gett; rw [h, if_neg (by simp), if_neg hn]; exact if_neg hs
end Go.Proofs.Ytbomloodllddaaa
/- What is written is read again, what is read is written again: numbers and texts, in plain Lean. -/
namespace Go.Proofs.Ytbomloodllddaaa
end Go.Proofs.Ytbomloodllddaaa
/- The sum of a text, in plain numbers: the register's step is linear over the bits. No conditions. -/
namespace Go.Proofs.Ytbomloodllddaaa
def poly : Nat := 3988292384
/-- one bit's step -/
def stp (c : Nat) : Nat := if c % 2 = 1 then c / 2 ^^^ poly else c / 2
def stps : Nat → Nat → Nat
  | 0, c => c
  | k + 1, c => stps k (stp c)
theorem stps_end : ∀ k c, stps (k + 1) c = stp (stps k c)
  | 0, _ => rfl
  | k + 1, c => by rw [stps, stps_end k (stp c)]; rfl
theorem xor_mod2 (a b : Nat) : (a ^^^ b) % 2 = (a % 2 + b % 2) % 2 := by
  have := @Nat.xor_mod_two_pow a b 1
  simp only [Nat.pow_one] at this
  rw [this]
  rcases Nat.mod_two_eq_zero_or_one a with ha | ha <;> rcases Nat.mod_two_eq_zero_or_one b with hb | hb <;> rw [ha, hb] <;> rfl
theorem xor_div2 (a b : Nat) : (a ^^^ b) / 2 = a / 2 ^^^ b / 2 := by
  apply Nat.eq_of_testBit_eq
  intro i
  simp [Nat.testBit_div_two]
theorem xor_left (a b c : Nat) : a ^^^ (b ^^^ c) = b ^^^ (a ^^^ c) := by rw [← Nat.xor_assoc, Nat.xor_comm a b, Nat.xor_assoc]
theorem xor_same (a b : Nat) : a ^^^ (a ^^^ b) = b := by rw [← Nat.xor_assoc, Nat.xor_self, Nat.zero_xor]
theorem stp_xor (a b : Nat) : stp (a ^^^ b) = stp a ^^^ stp b := by
  unfold stp
  rw [xor_mod2, xor_div2]
  rcases Nat.mod_two_eq_zero_or_one a with ha | ha <;> rcases Nat.mod_two_eq_zero_or_one b with hb | hb <;> rw [ha, hb]
  all_goals simp [xor_left, xor_same, Nat.xor_comm]
theorem stps_xor : ∀ k a b, stps k (a ^^^ b) = stps k a ^^^ stps k b
  | 0, _, _ => rfl
  | k + 1, a, b => by rw [stps, stp_xor, stps_xor k]; rfl
theorem stps_shift : ∀ k x, stps k (2 ^ k * x) = x
  | 0, x => by rw [Nat.pow_zero, Nat.one_mul]; rfl
  | k + 1, x => by
    have e : 2 ^ (k + 1) * x = 2 * (2 ^ k * x) := by rw [Nat.pow_succ, Nat.mul_comm (2 ^ k) 2, Nat.mul_assoc]
    rw [stps, e]
    have : stp (2 * (2 ^ k * x)) = 2 ^ k * x := by unfold stp; rw [if_neg (by omega)]; omega
    rw [this, stps_shift k x]
theorem stp_lt {c : Nat} (h : c < 4294967296) : stp c < 4294967296 := by
  unfold stp
  split
  · exact Nat.xor_lt_two_pow (n := 32) (by omega) (by decide)
  · omega
theorem stps_lt : ∀ k {c : Nat}, c < 4294967296 → stps k c < 4294967296
  | 0, _, h => h
  | k + 1, c, h => by rw [stps]; exact stps_lt k (stp_lt h)
/-- a text's bytes as one number, the first the lowest -/
def num : List UInt8 → Nat
  | [] => 0
  | b :: t => b.toNat ^^^ (256 * num t)
/-- the register behind a text -/
def reg (c : Nat) (t : List UInt8) : Nat := t.foldl (fun c b => stps 8 (c ^^^ b.toNat)) c
theorem reg_nil (c : Nat) : reg c [] = c := List.foldl_nil
theorem reg_cons (c : Nat) (b : UInt8) (t : List UInt8) : reg c (b :: t) = reg (stps 8 (c ^^^ b.toNat)) t := List.foldl_cons ..
theorem reg_append (t : List UInt8) (s : List UInt8) : ∀ c : Nat, reg c (s ++ t) = reg (reg c s) t := by
  induction s with
  | nil => intro c; rw [List.nil_append, reg_nil]
  | cons b s ih => intro c; rw [List.cons_append, reg_cons, reg_cons, ih]
theorem reg_snoc (c : Nat) (s : List UInt8) (b : UInt8) : reg c (s ++ [b]) = stps 8 (reg c s ^^^ b.toNat) := by rw [reg_append, reg_cons, reg_nil]
/-- a sum, turned round -/
def inv32 (c : Nat) : Nat := 4294967295 - c
theorem inv32_xor {c : Nat} (h : c < 4294967296) : inv32 c = 4294967295 ^^^ c := by
  have h2 : 4294967295 ^^^ c < 2 ^ 32 := Nat.xor_lt_two_pow (by decide) h
  have e : (BitVec.ofNat 32 (inv32 c)) = (BitVec.ofNat 32 (4294967295 ^^^ c)) := by
    have e1 : BitVec.ofNat 32 (4294967295 ^^^ c) = ~~~ (BitVec.ofNat 32 c) := by
      rw [BitVec.ofNat_xor, show BitVec.ofNat 32 4294967295 = BitVec.allOnes 32 from by decide, BitVec.allOnes_xor]
    rw [e1]
    apply BitVec.eq_of_toNat_eq
    rw [BitVec.toNat_not, BitVec.toNat_ofNat, BitVec.toNat_ofNat, Nat.mod_eq_of_lt h, Nat.mod_eq_of_lt (by unfold inv32; omega)]
    rfl
  have e' := congrArg BitVec.toNat e
  rwa [BitVec.toNat_ofNat, BitVec.toNat_ofNat, Nat.mod_eq_of_lt (by unfold inv32; omega), Nat.mod_eq_of_lt h2] at e'
theorem inv32_lt (c : Nat) : inv32 c < 4294967296 := by unfold inv32; omega
/-- the sum that goes on from c -/
def sumOn (c : Nat) (t : List UInt8) : Nat := inv32 (reg (inv32 c) t)
theorem xor_low8 (c : Nat) : c % 256 ^^^ 256 * (c / 256) = c := by
  apply Nat.eq_of_testBit_eq
  intro i
  have e1 : 256 * (c / 256) = 2 ^ 8 * (c / 2 ^ 8) := rfl
  have e2 : c % 256 = c % 2 ^ 8 := rfl
  rw [e1, e2, Nat.testBit_xor, Nat.testBit_two_pow_mul, Nat.testBit_mod_two_pow, Nat.testBit_div_two_pow]
  by_cases hi : i < 8
  · have h2 : ¬ 8 ≤ i := by omega
    simp [hi, h2]
  · have h2 : 8 ≤ i := by omega
    have h3 : i - 8 + 8 = i := by omega
    simp [hi, h2, h3]
/-- a byte's eight steps, by the table -/
theorem stps_table (c b : Nat) : stps 8 (c % 256 ^^^ b) ^^^ c / 256 = stps 8 (c ^^^ b) := by
  conv => rhs; rw [← xor_low8 c, Nat.xor_assoc, Nat.xor_comm (256 * (c / 256)), ← Nat.xor_assoc, stps_xor]
  congr 1
  exact (stps_shift 8 (c / 256)).symm
end Go.Proofs.Ytbomloodllddaaa
/- Lists of numbers, in plain Lean. -/
namespace Go.Proofs.Ytbomloodllddaaa
/-- n numbers from a place on, the place behind them, the error -/
def getn (t : List UInt8) : Nat → Int → List Nat × Int × Int
  | 0, a => ([], a, 0)
  | n + 1, a => if (vget t a).2.2 ≠ 0 then ([], 0, (vget t a).2.2) else
      if (getn t n (vget t a).2.1).2.2 ≠ 0 then ([], 0, (getn t n (vget t a).2.1).2.2) else ((vget t a).1 :: (getn t n (vget t a).2.1).1, (getn t n (vget t a).2.1).2.1, 0)
/-- what GetAll tells -/
def geta (t : List UInt8) (a most : Int) : List Nat × Int × Int :=
  if (vget t a).2.2 ≠ 0 then ([], 0, (vget t a).2.2) else
  if max most 0 < ((vget t a).1 : Int) then ([], 0, 2) else getn t (vget t a).1 (vget t a).2.1
/-- numbers ahead of what is read -/
def ahead (l : List Nat) (q : List Nat × Int × Int) : List Nat × Int × Int := if q.2.2 ≠ 0 then ([], 0, q.2.2) else (l ++ q.1, q.2.1, 0)
theorem ahead_nil (t : List UInt8) : ∀ n a, ahead [] (getn t n a) = getn t n a
  | 0, a => rfl
  | n + 1, a => by
    rw [getn]
    split
    · unfold ahead; rw [if_pos (by assumption)]
    · split
      · unfold ahead; rw [if_pos (by assumption)]
      · rfl
theorem ahead_zero (t : List UInt8) (l : List Nat) (a : Int) : ahead l (getn t 0 a) = (l, a, 0) := by simp [ahead, getn]
theorem ahead_bad {t : List UInt8} (l : List Nat) {n : Nat} {a e x : Int} {y : Nat} (h : vget t a = (y, x, e)) (he : e ≠ 0) : ahead l (getn t (n + 1) a) = ([], 0, e) := by
  rw [getn, h, if_pos he]
  unfold ahead; rw [if_pos he]
theorem ahead_step {t : List UInt8} (l : List Nat) {n x : Nat} {a tq : Int} (h : vget t a = (x, tq, 0)) : ahead l (getn t (n + 1) a) = ahead (l ++ [x]) (getn t n tq) := by
  rw [getn, h, if_neg (by simp)]
  dsimp only
  by_cases hq : (getn t n tq).2.2 ≠ 0
  · rw [if_pos hq]
    unfold ahead
    rw [if_pos hq, if_pos hq]
  · rw [if_neg hq]
    unfold ahead
    rw [if_neg hq, if_neg (by simp)]
    simp
theorem geta_bad {t : List UInt8} {a most e : Int} (h : vget t a = (0, 0, e)) (he : e ≠ 0) : geta t a most = ([], 0, e) := by
  unfold geta; rw [h]; exact if_pos he
theorem geta_long {t : List UInt8} {a most tq : Int} {n : Nat} (h : vget t a = (n, tq, 0)) (hn : max most 0 < (n : Int)) : geta t a most = ([], 0, 2) := by
  unfold geta; rw [h, if_neg (by simp)]; exact if_pos hn
theorem geta_go {t : List UInt8} {a most tq : Int} {n : Nat} (h : vget t a = (n, tq, 0)) (hn : ¬ max most 0 < (n : Int)) : geta t a most = getn t n tq := by
  unfold geta; rw [h, if_neg (by simp)]; exact if_neg hn
def nats (l : List Nat) : List Int := l.map fun n : Nat => (n : Int)
theorem nats_append (a b : List Nat) : nats (a ++ b) = nats a ++ nats b := by simp [nats]
theorem nats_len (a : List Nat) : (nats a).length = a.length := by simp [nats]
end Go.Proofs.Ytbomloodllddaaa
