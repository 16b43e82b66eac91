/- Regions that draw their order, whose last operations wait for all others: what is ahead leaves the world in a class, whatever its order; what is behind goes in the text's order. No conditions. -/
import Derived.Test.YtndekogkfbhabaaRegion
import Derived.StillTailTactics
namespace Go.Proofs.Ytndekogkfbhabaa
open Go.RowKit
section
variable {P : Program} {ops : Array Oper} {md : Region.Mode} {C : World → Prop}
/-- so many operations come up, all of them among the first n, each quiet in the class; then L -/
def headQ (P : Program) (md : Region.Mode) (ops : Array Oper) (C : World → Prop) (n : Nat) (L : Array Bool → Act → Prop) : Nat → Array Bool → Act → Prop
  | 0, done, a => L done a
  | k + 1, done, a => Region.ready md ops done ≠ [] ∧ ∀ i, i ∈ Region.ready md ops done → i < n ∧ qOp P ops C i (headQ P md ops C n L k (done.setIfInBounds i true)) a
theorem headQ_any {n g : Nat} {L : Array Bool → Act → Prop} {Q : Exit → Act → World → Prop} (hL : ∀ done a, L done a → ∀ w, C w → wpAny P md ops Q g done a w) :
    ∀ (k : Nat) (done : Array Bool) (a : Act) (w : World), C w → headQ P md ops C n L k done a → wpAny P md ops Q (k + g) done a w := by
  intro k
  induction k with
  | zero => intro done a w hw h; rw [Nat.zero_add]; exact hL _ _ h _ hw
  | succ k ih =>
    intro done a w hw h
    rw [Nat.add_right_comm]
    refine ⟨fun e => absurd e h.1, fun i hi => wpOp_of_qOp hw (fun a' w' hw' h' => ih _ a' w' hw' h') (h.2 i hi).2⟩
theorem headQ_take {n i : Nat} {oi : Oper} {v : Value} {L : Array Bool → Act → Prop} (hi : ops[i]? = some oi) (hsel : Region.noSelect ops = true)
    (hs : Region.sinkB md ops n = true) (hc : Region.chainB md ops n = true) (hn : n < ops.size) (hin : i < n) (hend : ∀ done a, L done a → ∀ j, j ∈ Region.ready md ops done → n ≤ j) :
    ∀ (k : Nat) (done : Array Bool) (a : Act), HeadInv md ops n done →
      (∀ j oj, ops[j]? = some oj → j ≠ i → done.getD j true = false → (∀ e ∈ oj.after, Region.binds md e = true → e.on ≠ i) → oi.apart ops oj = true) →
      i ∈ Region.ready md ops done → YieldsIn P ops C oi v a → headQ P md ops C n L k (done.setIfInBounds i true) (a.put oi.dst v) → headQ P md ops C n L (k + 1) done a := by
  have sel := Region.noSelect_spec hsel
  intro k
  induction k with
  | zero =>
    intro done a inv _ hr hy H
    refine ⟨List.ne_nil_of_mem hr, fun j hj => ?_⟩
    have hjn : j < n := Nat.lt_of_not_le fun h => tail_waits hs hc hn inv _ i rfl hin (mem_ready.1 hr).1 j h hj
    refine ⟨hjn, ?_⟩
    rcases Nat.decEq j i with hji | hji
    · exact absurd (hend _ _ H j (ready_mono hj hji)) (by omega)
    · subst hji; exact hy.qOp hi H
  | succ k ih =>
    intro done a inv hfree hr hy H
    refine ⟨List.ne_nil_of_mem hr, fun j hj => ?_⟩
    have hjn : j < n := Nat.lt_of_not_le fun h => tail_waits hs hc hn inv _ i rfl hin (mem_ready.1 hr).1 j h hj
    refine ⟨hjn, ?_⟩
    rcases Nat.decEq j i with hji | hji
    · obtain ⟨hjun, oj, hoj, hall⟩ := mem_ready.1 hj
      have hno : ∀ e ∈ oj.after, Region.binds md e = true → e.on ≠ i := fun e he hb h => by
        have h1 := hall e he hb
        rw [h, getD_both (mem_ready.1 hr).1] at h1
        cases h1
      have h2 := qOp_put hoj (hfree j oj hoj hji hjun hno) (fun cs b => sel i oi cs b hi) (fun cs b => sel j oj cs b hoj) hy (H.2 j (ready_mono hj hji)).2
      refine qOp_mono (fun a' h3 => ih (done.setIfInBounds j true) a' (inv.set hj hjn) (fun m om hm hmi hun hnm => hfree m om hm hmi ?_ hnm) (ready_mono hr (Ne.symm hji)) h3.1 ?_) h2
      · rcases Nat.decEq j m with h | h
        · rwa [getD_set_ne true h] at hun
        · subst h; exact hjun
      · rw [Array.setIfInBounds_comm _ _ hji]; exact h3.2
    · subst hji; exact hy.qOp hi H
theorem headQ_lex {n g : Nat} {Lq : Act → Prop} (hsel : Region.noSelect ops = true) (hs : Region.sinkB md ops n = true) (hc : Region.chainB md ops n = true) (hn : n < ops.size) :
    ∀ (l : List Oper) (k : Nat) (done : Array Bool) (a : Act), (∀ j, j < l.length → l[j]? = ops[k + j]?) → k + l.length = n → HeadInv md ops n done →
    Region.lexHead md ops g l.length k done = true → wpQuiet P ops C Lq l a → headQ P md ops C n (fun done' a' => Region.seqB md ops g n done' = true ∧ Lq a') l.length done a := by
  intro l
  induction l with
  | nil =>
    intro k done a _ hk _ hB h
    obtain rfl : k = n := by simpa using hk
    exact ⟨by simpa [Region.lexHead] using hB, h⟩
  | cons o l ih =>
    intro k done a hl hk inv hB h
    simp only [List.length_cons] at hk hB
    have h0 : ops[k]? = some o := by simpa using (hl 0 (by simp)).symm
    simp only [Region.lexHead, Bool.and_eq_true] at hB
    have hr : k ∈ Region.ready md ops done := by simpa using hB.1.1
    have hq : qOp P ops C k (wpQuiet P ops C Lq l) a := by unfold qOp; simp only [h0]; exact h
    obtain ⟨v, hy, hK⟩ := yieldsIn_of_qOp h0 hq
    refine headQ_take h0 hsel hs hc hn (by omega) (fun done' a' hL => seqB_ready hL.1) l.length done a inv (Region.free_spec h0 hB.1.2) hr hy ?_
    refine ih (k + 1) _ _ (fun j hj => ?_) (by omega) (inv.set hr (by omega)) hB.2 hK
    have := hl (j + 1) (by simp; omega)
    simpa [Nat.add_assoc, Nat.add_comm 1 j] using this
theorem wp_region_head {id : Nat} {Q : Exit → Act → World → Prop} {a : Act} {w : World} {l : List Oper} (n : Nat) (hm : P.follows .mixedOrders = true) (hB : Region.lexTailB .any l.toArray n = true) (hC : C w.drew)
    (h : wpQuiet P l.toArray C (fun a' => ∀ w', C w' → wpList P l.toArray Q (l.drop n) a' w') (l.take n) a) : (Code.region id l.toArray true).wp P Q a w := by
  simp only [Region.lexTailB, Bool.and_eq_true, decide_eq_true_eq] at hB
  obtain ⟨⟨⟨⟨hsel, hn⟩, hs⟩, hc⟩, hlex⟩ := hB
  have hnl : n < l.length := by simpa using hn
  have htl : (l.take n).length = n := by simp; omega
  have hdl : (l.drop n).length = l.toArray.size - n := by simp
  have inv0 : HeadInv .any l.toArray n (Array.replicate l.toArray.size false) :=
    ⟨by simp, fun j oj _ hl => (by rw [getD_replicate_false] at hl; cases hl), fun t _ ht => getD_in (by simpa using ht) (getD_replicate_false _ _)⟩
  have H := headQ_lex (md := .any) (g := l.toArray.size - n) hsel hs hc hn (l.take n) 0 _ a (fun j hj => by
    have : j < n := by omega
    simp [this]) (by omega) inv0 (by rw [htl]; exact hlex) h
  have H2 := headQ_any (Q := Q) (g := l.toArray.size - n) (fun done a' hL w' hw' => by
    have h3 := wpAny_of_seq (md := .any) (Q' := Q) (l.drop n) n done a' w' (fun j => by simp [List.getElem?_drop]) (by rw [hdl]; exact hL.1) (hL.2 w' hw')
    rwa [hdl] at h3) _ _ _ w.drew hC H
  rw [htl, show n + (l.toArray.size - n) = l.toArray.size by omega] at H2
  exact wp_region_any hm H2
end
theorem wp_region_tail {P : Program} {id : Nat} {Q : Exit → Act → World → Prop} {a : Act} {w : World} {l : List Oper} (n : Nat) (hm : P.follows .mixedOrders = true) (hB : Region.lexTailB .any l.toArray n = true) (w0 : World) (hw : Below w0.heap.size w0 w)
    (h : wpQuiet P l.toArray (fun w' => ∃ n : WB w0, w' = n.1) (fun a' => ∀ w', (∃ n : WB w0, w' = n.1) → wpList P l.toArray Q (l.drop n) a' w') (l.take n) a) : (Code.region id l.toArray true).wp P Q a w :=
  wp_region_head (C := fun w' => ∃ n : WB w0, w' = n.1) n hm hB ⟨⟨w.drew, hw.drew⟩, rfl⟩ h
end Go.Proofs.Ytndekogkfbhabaa
