/- An append to a row of the call's own: the row lies where it was, or in a new block. No conditions beyond sizes. -/
import Derived.Test.YtndekogkfbhabaaOwnRows
namespace Go.Proofs.Ytndekogkfbhabaa
open Go.RowKit
/-- append to a row of the call's own: whatever is appended, so its cells are read -/
theorem run_append_D {P : Program} (w : World) (B : Nat) (t u ty e : TypeId) (i : TypeInfo) (z : Value) (sz bytes : Nat) (ht : P.underlying t = some (.slice e)) (hu : P.underlying u = some (.slice e) ∨ P.underlying u = some .string) (hi : P.info? e = some i) (hz : i.zero = some z) (hsize : i.size = sz) (hby : i.bytes = bytes) (hzs : z.cells.size = sz)
    (v : Value) (n : Nat) (xs : List Value) (hown : OwnC B e sz w v n xs) (x : Value) (m : Nat) (news : List Value)
    (hlen : (Builtin.lenOf x).run P w = .ok m w) (hfc : ∀ k : Nat, (Builtin.firstCells sz m x).run P (w.drewN k) = .ok news.toArray (w.drewN k)) (hnl : news.length = m * sz) (h1 : ∀ u ∈ news, u.oneCell' = true)
    (hbig : (n + m) * bytes ≤ 140737488355328) (h63 : n + m ≤ maxLen) (hB : B ≤ w.heap.size) :
    ∃ v' w', (Builtin.append_ #[t, u] ty #[v, x]).run P w = .ok v' w' ∧ OwnC B e sz w' v' (n + m) (xs ++ news) ∧ w.grownBy w' v.ownBlock ∧ (v'.ownBlock = v.ownBlock ∨ ∃ g, v'.ownBlock = some g ∧ w.heap.size ≤ g) := by
  subst hsize hby
  have h63' : ¬ (9223372036854775807 < (n : Int) + (m : Int)) := by have := h63; simp only [maxLen] at this; omega
  have hxl : xs.length = n * i.size := hown.1
  have hlen' : (xs ++ news).length = (n + m) * i.size := by rw [List.length_append, hxl, hnl, Nat.add_mul]
  have hf0 : (Builtin.firstCells i.size m x).run P w = .ok news.toArray w := hfc 0
  have hf1 : (Builtin.firstCells i.size m x).run P w.drew = .ok news.toArray w.drew := hfc 1
  -- what a new row owns
  have fresh : ∀ old : Nat, old < n + m → ∀ row : Option Nat,
      OwnC B e i.size (w.drew.alloc (.cells (xs.toArray ++ news.toArray ++ Builtin.zeroCells z.cells (grownCap w (n + m) old e - (n + m))) e)) (.slice (some ⟨w.heap.size, 0, none⟩) (n + m) (grownCap w (n + m) old e)) (n + m) (xs ++ news) ∧
      w.grownBy (w.drew.alloc (.cells (xs.toArray ++ news.toArray ++ Builtin.zeroCells z.cells (grownCap w (n + m) old e - (n + m))) e)) row := by
    intro old ho row
    have hge := grownCap_ge w (n + m) old e
    have hcm := grownCap_le_maxLen w (n + m) old e h63
    have hl2 := hlen'
    rw [List.length_append] at hl2
    refine ⟨⟨hlen', .inr ⟨w.heap.size, _, _, (0, 0), rfl, hB, Go.heap_alloc_new w.drew _, fun j _ h => by simp at h, hge, hcm, ?_, ?_⟩⟩, ⟨rfl, rfl, rfl, by simp, fun k hk _ => Go.heap_alloc_old w.drew _ hk⟩⟩
    · simp only [Array.size_append, List.size_toArray, size_zeroCells, hzs]
      rw [hl2, ← Nat.add_mul, Nat.add_sub_of_le hge]
    · simp only [Array.toList_append]
      rw [← hlen']
      exact List.take_left
  rcases hown.2 with ⟨rfl, rfl⟩ | ⟨g, cap, cur, fz, rfl, hbg, hg, hf, hnc, hcm, hcs, htake⟩
  · have hx : xs = [] := List.eq_nil_of_length_eq_zero (by simpa using hxl)
    subst hx
    by_cases hm : m = 0
    · subst hm
      have hn : news = [] := List.eq_nil_of_length_eq_zero (by simpa using hnl)
      subst hn
      refine ⟨.slice none 0 0, w, ?_, by simpa using OwnC.nil, ⟨rfl, rfl, rfl, Nat.le_refl _, fun _ _ _ => rfl⟩, .inl rfl⟩
      rcases hu with hu | hu <;> simp [Builtin.append_, run_underlying ht, run_underlying hu, sizeOf, typeInfo, hi, hlen, hf0]
    · obtain ⟨r1, r2⟩ := fresh 0 (by omega) (Value.slice none 0 0).ownBlock
      refine ⟨_, _, ?_, r1, r2, .inr ⟨_, rfl, Nat.le_refl _⟩⟩
      have h48 : ¬ (281474976710656 < Builtin.nextslicecap m 0 * i.bytes) := by
        have := growslice_fits (need := m) (old := 0) (bytes := i.bytes) (by omega) (by simpa using hbig)
        omega
      have h63'' : ¬ (9223372036854775807 < (m : Int)) := by simpa using h63'
      have hfo : (Builtin.firstCells i.size 0 (.slice none 0 0)).run P w.drew = .ok #[] w.drew := by simp [Builtin.firstCells]
      rcases hu with hu | hu <;> simp [Builtin.append_, run_underlying ht, run_underlying hu, sizeOf, typeInfo, zeroValue, hi, hz, hlen, hm, h63'', h48, Question.forced, hf1, hfo, newRow, grownCap]
  · by_cases hroom : n + m ≤ cap
    · have hfit : n * i.size + 0 + news.length ≤ cur.size := by rw [hnl, hcs, Nat.add_zero, ← Nat.add_mul]; exact Nat.mul_le_mul_right _ hroom
      obtain ⟨cur', hr, hs, hc⟩ := storeCells_row P g (n * i.size) e fz news 0 cur w hg hf hfit h1
      refine ⟨.slice (some ⟨g, 0, none⟩) (n + m) cap, w.setRow g cur', ?_, ⟨hlen', .inr ⟨g, cap, cur', fz, rfl, hbg, setRow_heap w g cur _ e fz hg, by rw [hs]; exact hf, hroom, hcm, by rw [hs, hcs], ?_⟩⟩, ⟨rfl, rfl, rfl, by simp, fun k _ hk => setRow_other w g k _ (fun e => hk (by simp [Value.ownBlock, e]))⟩, .inl rfl⟩
      · have hadd : (⟨g, 0, none⟩ : Addr).add (n * i.size) = ⟨g, n * i.size, none⟩ := by rw [Addr.add_lit, Nat.zero_add]
        rcases hu with hu | hu <;> simp [Builtin.append_, run_underlying ht, run_underlying hu, sizeOf, typeInfo, hi, hlen, hroom, hf0, hadd, hr]
      · apply List.ext_getElem?
        intro j
        rw [List.getElem?_take, Array.getElem?_toList, hc j]
        by_cases hj : j < n * i.size
        · rw [if_pos (by rw [Nat.add_mul]; omega), if_neg (by omega), List.getElem?_append_left (by omega), ← htake, List.getElem?_take, if_pos hj]
          simp
        · by_cases hj2 : j < (n + m) * i.size
          · have hj3 := hj2
            rw [Nat.add_mul] at hj3
            rw [if_pos hj2, if_pos (by omega), List.getElem?_append_right (by omega), hxl, Nat.add_zero]
          · rw [if_neg hj2, List.getElem?_eq_none (by rw [hlen']; omega)]
    · obtain ⟨r1, r2⟩ := fresh cap (by omega) (Value.slice (some ⟨g, 0, none⟩) n cap).ownBlock
      refine ⟨_, _, ?_, r1, r2, .inr ⟨_, rfl, Nat.le_refl _⟩⟩
      have h48 : ¬ (281474976710656 < Builtin.nextslicecap (n + m) cap * i.bytes) := by
        have := growslice_fits (need := n + m) (old := cap) (bytes := i.bytes) (by omega) hbig
        omega
      have hfo := run_firstCells_some (P := P) w.drew i.size n ⟨g, 0, none⟩ n cap xs hxl (fun j u hj => by
        have hj' : j < n * i.size := by rw [← hxl]; exact (List.getElem?_eq_some_iff.1 hj).1
        rw [Addr.add_lit, Nat.zero_add]
        exact (OwnC.cell hown j hj').trans hj)
      rcases hu with hu | hu <;> simp [Builtin.append_, run_underlying ht, run_underlying hu, sizeOf, typeInfo, zeroValue, hi, hz, hlen, hroom, h63', h48, Question.forced, hf1, hfo, newRow, grownCap]
      all_goals
        congr 2
        apply Array.ext'
        simp

/-- 'append(l, x)', the block of x just laid; another row of the call's own stands -/
theorem app_two {α : Type} {f : α → List Value} {sz B : Nat} {e : TypeId} {w : World} {v : Value} {l : List α} {P : Program} {ops : Array Oper} {rest : List Oper} {o : Oper} {a : Act} {Q : Exit → Act → World → Prop} {t : TypeId} {z : Value} {cs : Array Value} (bytes : Nat) (h : Nat) (hh : h = w.heap.size) (x : α) (hf : ∀ y, (f y).length = sz) (ho : ∀ u ∈ f x, u.oneCell' = true)
    (h1 : P.underlying t = some (.slice e)) (h2 : (P.info? e).map (fun i => (i.zero, i.size, i.bytes)) = some (some z, sz, bytes)) (hzs : z.cells.size = sz)
    (hg : o.guard = none) (s x' : Operand) (hop : o.op = Op.call { callee := Callee.builtin Builtin.append, args := #[s, x'], argTypes := #[t, t] })
    (hs : a.eval s = v) (hx : a.eval x' = .slice (some ⟨h, 0, none⟩) 1 1) (hcs : cs = (f x).toArray)
    (hown : OwnR f sz B e w v l) (hB : B ≤ w.heap.size) (hbig : (l.length + 1) * bytes ≤ 140737488355328) (hlen : l.length + 1 ≤ maxLen)
    (hK : ∀ v' w', OwnR f sz B e w' v' (l ++ [x]) → (w.alloc (.cells cs e)).grownBy w' v.ownBlock → (v'.ownBlock = v.ownBlock ∨ ∃ g, v'.ownBlock = some g ∧ w.heap.size ≤ g) → wpList P ops Q rest (a.put o.dst v') w') :
    wpList P ops Q (o :: rest) a (w.alloc (.cells cs e)) := by
  subst hcs hh
  obtain ⟨i, hi, hz0, hz1, hz2⟩ := info_parts h2
  refine wpList_plain hg fun K hK' => ?_
  have hfc := fun k => firstCells_at (P := P) (w := w.alloc (.cells (f x).toArray e)) (ad := ⟨w.heap.size, 0, none⟩) (m := 1) (c := 1) (news := f x) (by rw [hf, Nat.one_mul]) (fun j u hj => by
      rw [Addr.add_lit, Nat.zero_add, cell_of_row _ w.heap.size j _ e (0, 0) (Go.heap_alloc_new w _)]
      simpa using hj) k
  obtain ⟨v', w', hrun, r1, r2, r3⟩ := run_append_D (P := P) (w.alloc (.cells (f x).toArray e)) B t t o.type e i z sz bytes h1 (.inl h1) hi hz0 hz1 hz2 hzs v l.length (l.flatMap f) (OwnC.alloc hown _) (a.eval x') 1 (f x)
    (by rw [hx]; exact lenOf_slice) (fun k => by rw [hx]; exact hfc k) (by rw [hf, Nat.one_mul]) ho hbig hlen (by simp; omega)
  unfold Oper.wp
  simp [execOp, hop, resolve, invoke, builtin, hs, hrun, Result.andThen]
  refine hK' _ _ (hK v' w' ?_ r2 ?_)
  · unfold OwnR; simpa [List.flatMap_append] using r1
  · rcases r3 with r3 | ⟨g, r3, r4⟩
    · exact .inl r3
    · exact .inr ⟨g, r3, by simp at r4; omega⟩
theorem grown_bel {B : Nat} {w w' : World} {r : Option Nat} (h : w.grownBy w' r) (hB : B ≤ w.heap.size) (hr : ∀ k, r = some k → B ≤ k) : Below B w w' :=
  (Below.refl _ _).grown h hB hr
theorem grown_blk {w w' : World} {r : Option Nat} (h : w.grownBy w' r) {g : Nat} {o : Obj} (hg : w.heap[g]? = some o) (hne : r ≠ some g) : w'.heap[g]? = some o := by
  rw [h.block g (Array.getElem?_eq_some_iff.1 hg).1 hne.symm]; exact hg
theorem OwnR.grow {α : Type} {f : α → List Value} {sz B : Nat} {e : TypeId} {w w' : World} {v : Value} {l : List α} {r : Option Nat} (h : OwnR f sz B e w v l) (hg : w.grownBy w' r) (hne : v.ownBlock = none ∨ v.ownBlock ≠ r) : OwnR f sz B e w' v l := OwnC.grown h hg hne
end Go.Proofs.Ytndekogkfbhabaa
