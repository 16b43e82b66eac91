/- Memory of a plain tree while words are put into it. No conditions. -/
import Derived.Test.YtndekogkfbhabaaTriNode
import Derived.Test.YtndekogkfbhabaaTriTwice
namespace Go.Proofs.Ytndekogkfbhabaa
open Go.RowKit
/-- a function turned at one place -/
def upd {β : Type} (f : List UInt8 → β) (q : List UInt8) (v : β) : List UInt8 → β := fun p => if p = q then v else f p
theorem upd_at {β : Type} (f : List UInt8 → β) (q : List UInt8) (v : β) : upd f q v q = v := if_pos rfl
theorem upd_ne {β : Type} (f : List UInt8 → β) {q p : List UInt8} (v : β) (h : p ≠ q) : upd f q v p = f p := if_neg h
/-- the paths of a tree, each with its node -/
structure BT (B : Nat) (w : World) (S : List (List UInt8)) (n : List UInt8 → Int) (A Mp : List UInt8 → Nat) : Prop where
  root : [] ∈ S
  pre : ∀ p c, p ++ [c] ∈ S → p ∈ S
  nd : ∀ p ∈ S, ∃ l, NdAt w (A p) (n p) (Mp p) l ∧ ∀ c, bpOf l c = if p ++ [c] ∈ S then some (A (p ++ [c])) else none
  lo : ∀ p ∈ S, B ≤ A p ∧ B ≤ Mp p
  injA : ∀ p ∈ S, ∀ q ∈ S, A p = A q → p = q
  injM : ∀ p ∈ S, ∀ q ∈ S, Mp p = Mp q → p = q
section
variable {B : Nat} {w w' : World} {S : List (List UInt8)} {n : List UInt8 → Int} {A Mp : List UInt8 → Nat}
theorem NdAt.keep {nd mp : Nat} {x : Int} {l : List (UInt8 × Nat)} (h : NdAt w nd x mp l) (hb : Below w.heap.size w w') : NdAt w' nd x mp l := h.kn (KN.of_below hb)
theorem NdAt.lt {nd mp : Nat} {x : Int} {l : List (UInt8 × Nat)} (h : NdAt w nd x mp l) : nd < w.heap.size ∧ mp < w.heap.size := ⟨(Array.getElem?_eq_some_iff.1 h.box).1, h.map.lt⟩
theorem BT.keep (h : BT B w S n A Mp) (hb : Below w.heap.size w w') : BT B w' S n A Mp :=
  ⟨h.root, h.pre, fun p hp => by
    obtain ⟨l, h1, h2⟩ := h.nd p hp
    exact ⟨l, h1.keep hb, h2⟩, h.lo, h.injA, h.injM⟩
theorem bpOf_snoc (l : List (UInt8 × Nat)) (c : UInt8) (a : Nat) (h : bpOf l c = none) (d : UInt8) : bpOf (l ++ [(c, a)]) d = if d = c then some a else bpOf l d := by
  unfold bpOf at h ⊢
  rw [List.find?_append]
  by_cases e : d = c
  · subst e
    rw [if_pos rfl]
    cases hf : l.find? fun x => x.1 == d with
    | some x => rw [hf] at h; simp at h
    | none => simp
  · rw [if_neg e]
    cases hf : l.find? fun x => x.1 == d with
    | some x => simp
    | none =>
      have : (c == d) = false := beq_false_of_ne fun h => e h.symm
      simp [this]
theorem snoc_inj {p q : List UInt8} {c d : UInt8} (h : p ++ [c] = q ++ [d]) : p = q ∧ c = d := by
  obtain ⟨h1, h2⟩ := List.append_inj' h rfl
  exact ⟨h1, by simpa using h2⟩
/-- a node more -/
theorem BT.add (h : BT B w S n A Mp) {p : List UInt8} {c : UInt8} (hp : p ∈ S) (hc : p ++ [c] ∉ S) (hn : n (p ++ [c]) = -1) (hB : B ≤ w.heap.size) {w1 : World} (hb : Below w.heap.size w w1) {m a : Nat} (hm : BpAt w1 m []) (hm0 : w.heap.size ≤ m)
    (ha : w1.heap[a]? = some (.cells #[.int .i64 (-1), .map (some m)] 51 (0, 0))) (ha0 : w.heap.size ≤ a) {l : List (UInt8 × Nat)} (hl : BpAt w1 (Mp p) l) (hlc : ∀ c, bpOf l c = if p ++ [c] ∈ S then some (A (p ++ [c])) else none) :
    BT B (Go.ChangeMaps.setBlock w1 (Mp p) (.map (bpFrom 0 (l ++ [(c, a)])).toArray (l.length + 1))) (S ++ [p ++ [c]]) n (upd A (p ++ [c]) a) (upd Mp (p ++ [c]) m) := by
  obtain ⟨W, hW⟩ : ∃ W, Go.ChangeMaps.setBlock w1 (Mp p) (.map (bpFrom 0 (l ++ [(c, a)])).toArray (l.length + 1)) = W := ⟨_, rfl⟩
  have hput := hl.put (c, a)
  have hoth : ∀ {k : Nat} {o : Obj}, w1.heap[k]? = some o → k ≠ Mp p → W.heap[k]? = some o := fun {k o} h1 h2 => by
    rw [← hW, Go.ChangeMaps.heap_setBlock_other hl _ h2]; exact h1
  rw [hW] at hput ⊢
  have hne : ∀ q ∈ S, q ≠ p ++ [c] := fun q hq e => hc (e ▸ hq)
  have hlt : ∀ q ∈ S, A q < w.heap.size ∧ Mp q < w.heap.size := fun q hq => by
    obtain ⟨l, h1, _⟩ := h.nd q hq
    exact h1.lt
  refine ⟨List.mem_append_left _ h.root, fun q d hq => ?_, fun q hq => ?_, fun q hq => ?_, fun q hq r hr e => ?_, fun q hq r hr e => ?_⟩
  · rcases List.mem_append.1 hq with hq | hq
    · exact List.mem_append_left _ (h.pre q d hq)
    · obtain ⟨e1, _⟩ := snoc_inj (List.mem_singleton.1 hq)
      subst e1
      exact List.mem_append_left _ hp
  · rcases List.mem_append.1 hq with hq | hq
    · rw [upd_ne _ _ (hne q hq), upd_ne _ _ (hne q hq)]
      obtain ⟨lq, h1, h2⟩ := h.nd q hq
      have h1 := h1.keep hb
      by_cases e : q = p
      · subst e
        refine ⟨l ++ [(c, a)], ⟨hoth h1.box fun e => ?_, hput⟩, fun d => ?_⟩
        · have := h1.map
          unfold BpAt at this
          rw [← e, h1.box] at this
          cases this
        · rw [bpOf_snoc l c a (by rw [hlc c, if_neg hc]) d]
          by_cases e2 : d = c
          · subst e2
            rw [if_pos rfl, if_pos (List.mem_append_right _ (List.mem_singleton.2 rfl)), upd_at]
          · have e3 : q ++ [d] ≠ q ++ [c] := fun e => e2 (snoc_inj e).2
            rw [if_neg e2, hlc d, upd_ne _ _ e3]
            have : q ++ [d] ∈ S ++ [q ++ [c]] ↔ q ++ [d] ∈ S := by simp [e2]
            simp only [this]
      · refine ⟨lq, ⟨hoth h1.box fun e1 => ?_, hoth h1.map fun e1 => e (h.injM q hq p hp e1)⟩, fun d => ?_⟩
        · have h3 := hl
          unfold BpAt at h3
          rw [← e1, h1.box] at h3
          cases h3
        · have e3 : q ++ [d] ≠ p ++ [c] := fun e4 => e (snoc_inj e4).1
          rw [h2 d, upd_ne _ _ e3]
          have : q ++ [d] ∈ S ++ [p ++ [c]] ↔ q ++ [d] ∈ S := by simp [e3]
          simp only [this]
    · obtain rfl := List.mem_singleton.1 hq
      rw [upd_at, upd_at, hn]
      have hmp := (hlt p hp).2
      refine ⟨[], ⟨hoth ha (by omega), hoth hm (by omega)⟩, fun d => ?_⟩
      rw [if_neg]
      · rfl
      · intro hd
        rcases List.mem_append.1 hd with hd | hd
        · exact hc (h.pre _ d hd)
        · have := congrArg List.length (List.mem_singleton.1 hd)
          simp at this
  · rcases List.mem_append.1 hq with hq | hq
    · rw [upd_ne _ _ (hne q hq), upd_ne _ _ (hne q hq)]; exact h.lo q hq
    · obtain rfl := List.mem_singleton.1 hq
      rw [upd_at, upd_at]; omega
  · rcases List.mem_append.1 hq with hq | hq
    · rw [upd_ne _ _ (hne q hq)] at e
      rcases List.mem_append.1 hr with hr | hr
      · rw [upd_ne _ _ (hne r hr)] at e
        exact h.injA q hq r hr e
      · obtain rfl := List.mem_singleton.1 hr
        rw [upd_at] at e
        have := (hlt q hq).1
        omega
    · obtain rfl := List.mem_singleton.1 hq
      rw [upd_at] at e
      rcases List.mem_append.1 hr with hr | hr
      · rw [upd_ne _ _ (hne r hr)] at e
        have := (hlt r hr).1
        omega
      · exact (List.mem_singleton.1 hr).symm
  · rcases List.mem_append.1 hq with hq | hq
    · rw [upd_ne _ _ (hne q hq)] at e
      rcases List.mem_append.1 hr with hr | hr
      · rw [upd_ne _ _ (hne r hr)] at e
        exact h.injM q hq r hr e
      · obtain rfl := List.mem_singleton.1 hr
        rw [upd_at] at e
        have := (hlt q hq).2
        omega
    · obtain rfl := List.mem_singleton.1 hq
      rw [upd_at] at e
      rcases List.mem_append.1 hr with hr | hr
      · rw [upd_ne _ _ (hne r hr)] at e
        have := (hlt r hr).2
        omega
      · exact (List.mem_singleton.1 hr).symm
/-- a word's number is set -/
theorem BT.num (h : BT B w S n A Mp) {p : List UInt8} (hp : p ∈ S) (i : Int) : BT B (w.setCell ⟨A p, 0, none⟩ (.int .i64 i)) S (upd n p i) A Mp := by
  obtain ⟨lp, hp1, hp2⟩ := h.nd p hp
  have hoth : ∀ {k : Nat} {o : Obj}, w.heap[k]? = some o → k ≠ A p → (w.setCell ⟨A p, 0, none⟩ (.int .i64 i)).heap[k]? = some o := fun {k o} h1 h2 => by
    rw [Below.heap_setCell _ _ _ _ (by dsimp only; exact h2)]; exact h1
  have hmn : ∀ {m : Nat} {l : List (UInt8 × Nat)}, BpAt w m l → m ≠ A p := fun {m l} hm e => by
    unfold BpAt at hm
    rw [e, hp1.box] at hm
    cases hm
  refine ⟨h.root, h.pre, fun q hq => ?_, h.lo, h.injA, h.injM⟩
  obtain ⟨lq, h1, h2⟩ := h.nd q hq
  by_cases e : q = p
  · subst e
    rw [upd_at]
    refine ⟨lq, ⟨?_, hoth h1.map (hmn h1.map)⟩, h2⟩
    rw [setCell_eq_setRow w (A q) 0 _ _ _ _ h1.box]
    exact setRow_heap _ _ _ _ _ _ h1.box
  · rw [upd_ne _ _ e]
    exact ⟨lq, ⟨hoth h1.box fun e1 => e (h.injA q hq p hp e1), hoth h1.map (hmn h1.map)⟩, h2⟩
end
end Go.Proofs.Ytndekogkfbhabaa
