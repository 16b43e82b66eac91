/- Trees in memory that a call itself makes: where their rows lie; rows of trees. No conditions. -/
import Derived.Test.YtnbfifmnigeolaaPrsOne
import Derived.Test.YtnbfifmnigeolaaAppTwo
import Derived.Test.YtnbfifmnigeolaaApp
import Derived.Test.YtnbfifmnigeolaaReDeep
namespace Go.Proofs.Ytnbfifmnigeolaa
open Go.RowKit Go.Lib
/-- a tree whose rows lie at B or behind it, none of them in the block p -/
inductive ReX (B p : Nat) (w : World) : RN → Re → Prop where
  | mk (r : RN) (kids : List Re) (rs : List RN) (hI : I64 r.k ∧ I64 r.mn ∧ I64 r.mx) (hk : kids.length ≤ 140737488351232) (hrow : RowOf reC 8 w r.v rs) (hb : rs.length = 0 ∨ ∃ b off n cap, r.v = .slice (some ⟨b, off, none⟩) n cap ∧ B ≤ b ∧ b ≠ p) (hl : rs.length = kids.length)
      (hs : ∀ (i : Nat) (r' : RN) (t : Re), rs[i]? = some r' → kids[i]? = some t → ReX B p w r' t) : ReX B p w r (.mk r.k r.s r.mn r.mx kids)
section
variable {B p : Nat} {w w' : World} {r : RN} {t : Re}
theorem ReX.one (h : ReX B p w r t) : r.v.oneCell' = true := by
  cases h with
  | mk _ kids rs hI hk hrow hb hl hs => exact hrow.one
theorem ReX.kindIs (h : ReX B p w r t) : t.kindP = r.k := by cases h; rfl
theorem ReX.kindI (h : ReX B p w r t) : I64 r.k := by cases h with | mk _ kids rs hI hk hrow hb hl hs => exact hI.1
theorem RowOf.keepX {rs : List RN} {v : Value} (h : RowOf reC 8 w v rs) (hb : rs.length = 0 ∨ ∃ b off n cap, v = .slice (some ⟨b, off, none⟩) n cap ∧ B ≤ b ∧ b ≠ p) (hK : ∀ k, B ≤ k → k < w.heap.size → k ≠ p → w'.heap[k]? = w.heap[k]?) (hz : w.heap.size ≤ w'.heap.size) : RowOf reC 8 w' v rs := by
  obtain ⟨a, cap, rfl, h1, h2, h3, h4⟩ := h
  refine ⟨a, cap, rfl, h1, h2, h3, ?_⟩
  rcases h4 with h4 | ⟨b, off, rfl, hlt, hc⟩
  · exact .inl h4
  · rcases hb with hb | ⟨b', off', n', cap', he, hB, hp⟩
    · exact .inl hb
    · simp only [Value.slice.injEq, Option.some.injEq, Addr.mk.injEq] at he
      obtain ⟨⟨rfl, rfl, _⟩, _, _⟩ := he
      exact .inr ⟨b, off, rfl, by omega, fun i hi => by rw [World.cell?_of_block (w := w) (hK b hB hlt hp)]; exact hc i hi⟩
theorem ReX.keep (h : ReX B p w r t) (hK : ∀ k, B ≤ k → k < w.heap.size → k ≠ p → w'.heap[k]? = w.heap[k]?) (hz : w.heap.size ≤ w'.heap.size) : ReX B p w' r t := by
  induction h with
  | mk r kids rs hI hk hrow hb hl hs ih => exact .mk r kids rs hI hk (hrow.keepX hb hK hz) hb hl ih
theorem ReX.keepB {C : Nat} (h : ReX B p w r t) (hb : Below C w w') (hC : w.heap.size ≤ C) : ReX B p w' r t := h.keep (fun k _ hk _ => hb.block k (by omega)) hb.size
theorem ReX.els {g : Nat} (h : ReX B p w r t) (he : Else g w w') (hg : g < B) : ReX B p w' r t := h.keep (fun k hB hk _ => he.block k hk (by omega)) he.size
theorem ReX.mono {B' : Nat} (h : ReX B p w r t) (hB : B' ≤ B) : ReX B' p w r t := by
  induction h with
  | mk r kids rs hI hk hrow hb hl hs ih => exact .mk r kids rs hI hk hrow (hb.imp id fun ⟨b, off, n, cap, e, h1, h2⟩ => ⟨b, off, n, cap, e, by omega, h2⟩) hl ih
/-- another block that no row can lie in -/
theorem ReX.keepDrop {p' : Nat} (h : ReX B p w r t) (hK : ∀ k, B ≤ k → k < w.heap.size → k ≠ p → w'.heap[k]? = w.heap[k]?) (hz : w.heap.size ≤ w'.heap.size) (hp : p' < B ∨ w.heap.size ≤ p') : ReX B p' w' r t := by
  induction h with
  | mk r kids rs hI hk hrow hb hl hs ih =>
    refine .mk r kids rs hI hk (hrow.keepX hb hK hz) ?_ hl ih
    rcases hb with hb | ⟨b, off, n, cap, e, h1, h2⟩
    · exact .inl hb
    · rcases Nat.eq_zero_or_pos rs.length with h0 | h0
      · exact .inl h0
      refine .inr ⟨b, off, n, cap, e, h1, ?_⟩
      obtain ⟨a, cap', hv, _, _, _, h4⟩ := hrow
      rcases h4 with h4 | ⟨b2, off2, rfl, hlt, _⟩
      · omega
      · rw [e] at hv
        simp only [Value.slice.injEq, Option.some.injEq, Addr.mk.injEq] at hv
        have := hv.1.1
        omega
theorem ReX.drop {p' : Nat} (h : ReX B p w r t) (hp : p' < B ∨ w.heap.size ≤ p') : ReX B p' w r t := h.keepDrop (fun _ _ _ _ => rfl) (Nat.le_refl _) hp
theorem ReAt.lift : ∀ {h h' : Nat} {r : RN} {t : Re}, h ≤ h' → ReAt w h r t → ReAt w h' r t
  | h, 0, r, t, hl, hr => by rw [Nat.le_zero.1 hl] at hr; exact hr
  | h, h' + 1, r, t, hl, hr => by
    rcases Nat.lt_or_ge h (h' + 1) with h1 | h1
    · exact (ReAt.lift (by omega) hr).up
    · rw [show h' + 1 = h by omega]; exact hr
theorem many_levels {rs : List RN} {ts : List Re} : ∀ (n : Nat), (∀ (i : Nat) r t, i < n → rs[i]? = some r → ts[i]? = some t → ∃ h, ReAt w h r t) → ∃ h, ∀ (i : Nat) r t, i < n → rs[i]? = some r → ts[i]? = some t → ReAt w h r t
  | 0, _ => ⟨0, fun i r t hi => by omega⟩
  | n + 1, hall => by
    obtain ⟨h1, H1⟩ := many_levels n fun i r t hi => hall i r t (by omega)
    cases hr : rs[n]? with
    | none => exact ⟨h1, fun i r t hi hri => by
        by_cases e : i = n
        · subst e; rw [hr] at hri; cases hri
        · exact H1 i r t (by omega) hri⟩
    | some r =>
      cases ht : ts[n]? with
      | none => exact ⟨h1, fun i r t hi hri hti => by
          by_cases e : i = n
          · subst e; rw [ht] at hti; cases hti
          · exact H1 i r t (by omega) hri hti⟩
      | some t =>
        obtain ⟨h2, H2⟩ := hall n r t (by omega) hr ht
        refine ⟨max h1 h2, fun i r' t' hi hri hti => ?_⟩
        by_cases e : i = n
        · subst e
          rw [hr] at hri; rw [ht] at hti
          simp only [Option.some.injEq] at hri hti
          subst hri hti
          exact H2.lift (Nat.le_max_right _ _)
        · exact (H1 i r' t' (by omega) hri hti).lift (Nat.le_max_left _ _)
theorem ReX.at' (h : ReX B p w r t) : ∃ n, ReAt w n r t := by
  induction h with
  | mk r kids rs hI hk hrow hb hl hs ih =>
    obtain ⟨n, hn⟩ := many_levels (w := w) (rs := rs) (ts := kids) rs.length fun i r t hi hr ht => ih i r t hr ht
    exact ⟨n + 1, ⟨rfl, rfl, rfl, rfl⟩, hI, hk, rs, hrow, hl, fun i r' t hr ht => hn i r' t (List.getElem?_eq_some_iff.1 hr).1 hr ht⟩
theorem ReX.setT (B p : Nat) (w : World) (q : Nat → Bool) : ReX B p w (setN q) (setT q) :=
  .mk (setN q) [] [] ⟨by show I64 1; unfold I64; omega, by show I64 0; unfold I64; omega, by show I64 0; unfold I64; omega⟩ (Nat.zero_le _) ⟨none, 0, rfl, Nat.le_refl _, Nat.zero_le _, rfl, .inl rfl⟩ (.inl rfl) rfl fun i r t h => by simp at h
end
/-- a row of the call's own of such trees -/
def LsAt (B : Nat) (w : World) (v : Value) (l : List Re) : Prop :=
  ∃ rs : List RN, OwnR reC 8 B 29 w v rs ∧ rs.length = l.length ∧ ∀ (i : Nat) r t, rs[i]? = some r → l[i]? = some t → ∀ q, (v.ownBlock = some q ∨ q < B) → ReX B q w r t
theorem reC_oneAll {r : RN} (h : r.v.oneCell' = true) : ∀ u ∈ reC r, u.oneCell' = true := by
  intro u hu
  simp only [reC, List.mem_cons, List.not_mem_nil, or_false] at hu
  rcases hu with rfl | rfl | rfl | rfl | rfl | rfl | rfl | rfl
  all_goals first | rfl | exact h
theorem info_re3 : (Try.prog.info? 29).map (fun i => (i.zero, i.size, i.bytes)) = some (some (.agg #[.int .i64 0, .int .u64 0, .int .u64 0, .int .u64 0, .int .u64 0, .int .i64 0, .int .i64 0, .slice none 0 0]), 8, 80) := by kernel_rfl
section
variable {B : Nat} {w w' : World} {v : Value} {l : List Re}
theorem LsAt.nil (B : Nat) (w : World) : LsAt B w (.slice none 0 0) [] := ⟨[], OwnR.nil, rfl, fun i r t h => by simp at h⟩
theorem LsAt.keep (h : LsAt B w v l) (hK : ∀ k, B ≤ k → k < w.heap.size → w'.heap[k]? = w.heap[k]?) (hz : w.heap.size ≤ w'.heap.size) : LsAt B w' v l := by
  obtain ⟨rs, h1, h2, h3⟩ := h
  exact ⟨rs, h1.other fun k hk => hK k (h1.below hk).1 (h1.below hk).2, h2, fun i r t hr ht q hq => (h3 i r t hr ht q hq).keep (fun k hB hk _ => hK k hB hk) hz⟩
theorem LsAt.keepB (h : LsAt B w v l) (hb : Below w.heap.size w w') : LsAt B w' v l := h.keep (fun k _ hk => hb.block k hk) hb.size
theorem LsAt.els {g : Nat} (h : LsAt B w v l) (he : Else g w w') (hg : g < B) : LsAt B w' v l := h.keep (fun k hB hk => he.block k hk (by omega)) he.size
theorem LsAt.single {r : RN} {t : Re} (hB : B ≤ w.heap.size) (hr : ∃ p, ReX B p w r t) (hp : ∀ q, q < B → ReX B q w r t) : LsAt B (w.alloc (.cells (reC r).toArray 29)) (.slice (some ⟨w.heap.size, 0, none⟩) 1 1) [t] := by
  obtain ⟨p, hr⟩ := hr
  refine ⟨[r], ⟨rfl, .inr ⟨w.heap.size, 1, (reC r).toArray, (0, 0), rfl, hB, Go.heap_alloc_new w _, fun j _ h => by simp at h, Nat.le_refl _, by unfold maxLen; omega, rfl, rfl⟩⟩, rfl, fun i r' t' hr' ht' q hq => ?_⟩
  have hi : i = 0 := by have := (List.getElem?_eq_some_iff.1 hr').1; simpa using this
  subst hi
  simp only [List.getElem?_cons_zero, Option.some.injEq] at hr' ht'
  subst hr' ht'
  have hk := (Below.refl w.heap.size w).alloc (Nat.le_refl _) (.cells (reC r).toArray 29)
  rcases hq with hq | hq
  · simp only [Value.ownBlock, Option.some.injEq] at hq
    subst hq
    exact (hr.drop (.inr (Nat.le_refl _))).keepB hk (Nat.le_refl _)
  · exact (hp q hq).keepB hk (Nat.le_refl _)
/-- behind an append of one tree that was made later than the row -/
theorem LsAt.snoc {rs : List RN} {r : RN} {t : Re} {v' : Value} {w0 : World} (hB0 : 0 < B) (hown : OwnR reC 8 B 29 w' v' (rs ++ [r])) (hl : rs.length = l.length) (h3 : ∀ (i : Nat) r t, rs[i]? = some r → l[i]? = some t → ∀ q, (v.ownBlock = some q ∨ q < B) → ReX B q w r t)
    (hr : ∀ q, (v.ownBlock = some q ∨ q < B) → ReX B q w r t) (hg : w0.grownBy w' v.ownBlock) (h0 : ∀ k, k < w.heap.size → w0.heap[k]? = w.heap[k]?) (hz : w.heap.size ≤ w0.heap.size) (hs : v'.ownBlock = v.ownBlock ∨ ∃ g, v'.ownBlock = some g ∧ w.heap.size ≤ g) : LsAt B w' v' (l ++ [t]) := by
  have hz' : w.heap.size ≤ w'.heap.size := Nat.le_trans hz hg.size
  have keep : ∀ (r : RN) (t : Re), (∀ q, (v.ownBlock = some q ∨ q < B) → ReX B q w r t) → ∀ q, (v'.ownBlock = some q ∨ q < B) → ReX B q w' r t := by
    intro r t H q hq
    cases hv : v.ownBlock with
    | none =>
      have hh := H 0 (.inr hB0)
      refine hh.keepDrop (fun k _ hk _ => by rw [hg.block k (by omega) (by rw [hv]; intro e; cases e), h0 k hk]) hz' ?_
      rcases hq with hq | hq
      · rcases hs with hs | ⟨g, hs, hge⟩
        · rw [hs, hv] at hq; cases hq
        · rw [hs] at hq; exact .inr (by rw [← Option.some.inj hq]; exact hge)
      · exact .inl hq
    | some q0 =>
      have hh := H q0 (.inl hv)
      have hK : ∀ k, B ≤ k → k < w.heap.size → k ≠ q0 → w'.heap[k]? = w.heap[k]? := fun k _ hk hne => by rw [hg.block k (by omega) (by rw [hv]; intro e; exact hne (Option.some.inj e)), h0 k hk]
      rcases hq with hq | hq
      · rcases hs with hs | ⟨g, hs, hge⟩
        · rw [hs, hv] at hq
          rw [← Option.some.inj hq]
          exact hh.keep hK hz'
        · rw [hs] at hq
          exact hh.keepDrop hK hz' (.inr (by rw [← Option.some.inj hq]; exact hge))
      · exact hh.keepDrop hK hz' (.inl hq)
  refine ⟨rs ++ [r], hown, by rw [List.length_append, List.length_append, hl]; rfl, fun i r' t' hr' ht' => keep r' t' ?_⟩
  by_cases hi : i < rs.length
  · rw [List.getElem?_append_left hi] at hr'
    rw [List.getElem?_append_left (by omega)] at ht'
    exact h3 i r' t' hr' ht'
  · have h1 := (List.getElem?_eq_some_iff.1 hr').1
    rw [List.length_append, List.length_cons, List.length_nil] at h1
    obtain rfl : i = rs.length := by omega
    rw [List.getElem?_append_right (Nat.le_refl _), Nat.sub_self] at hr'
    rw [hl, List.getElem?_append_right (Nat.le_refl _), Nat.sub_self] at ht'
    simp only [List.getElem?_cons_zero, Option.some.injEq] at hr' ht'
    subst hr' ht'
    exact hr
end
/-- an append of a whole row of trees -/
theorem app_res {B : Nat} {w : World} {v : Value} {l0 l1 : List RN} {ops : Array Oper} {rest : List Oper} {o : Oper} {a : Act} {Q : Exit → Act → World → Prop}
    (ho : ∀ y, y ∈ l1 → ∀ u ∈ reC y, u.oneCell' = true) (hg : o.guard = none) (s x' : Operand) (hop : o.op = Op.call { callee := Callee.builtin Builtin.append, args := #[s, x'], argTypes := #[27, 27] }) (hs : a.eval s = v) {vx : Value} (hx' : a.eval x' = vx) (hx : RowOf reC 8 w vx l1)
    (hown : OwnR reC 8 B 29 w v l0) (hB : B ≤ w.heap.size) (hn : l0.length + l1.length ≤ 100000)
    (hK : ∀ v' w', OwnR reC 8 B 29 w' v' (l0 ++ l1) → w.grownBy w' v.ownBlock → wpList Try.prog ops Q rest (a.put o.dst v') w') : wpList Try.prog ops Q (o :: rest) a w := by
  subst hx'
  refine wpList_plain hg fun K hK' => ?_
  exact app_rowW 80 reC_length ho Try.underlying27 info_re3 rfl s x' hop hs hx hown hB (by omega) (by unfold maxLen; omega) fun v' w' h1 h2 => hK' _ _ (hK v' w' h1 h2)
end Go.Proofs.Ytnbfifmnigeolaa
