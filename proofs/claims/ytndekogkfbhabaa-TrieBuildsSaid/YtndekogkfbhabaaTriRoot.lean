/- Plain laws: what is found in a double array of all words is the word's place in the list, and no other text (P16.2). No conditions; no program. -/
import Derived.Test.YtndekogkfbhabaaTriLay
namespace Go.Proofs.Ytndekogkfbhabaa
/-- the maker as it begins -/
def tm0 : TM := ⟨[0], [-1], [-1], 1⟩
theorem tm0_St (q : Nat) (h : tm0.St q) : q = 0 := by
  rcases h with h | h
  · exact h
  · have : q < 1 := C_in (M := tm0) h
    omega
theorem tm0_inv : Inv tm0 fun _ => [] := by
  refine ⟨rfl, rfl, by decide, by decide, rfl, fun x => ?_, by decide, fun q h => ?_, fun q q' h h' _ => by rw [tm0_St q h, tm0_St q' h']⟩
  · show -255 ≤ ([0] : List Int).getD x 0 ∧ ([0] : List Int).getD x 0 ≤ _
    have : ([0] : List Int).getD x 0 = 0 := by
      cases x with
      | zero => rfl
      | succ x => simp
    rw [this]
    exact ⟨by decide, by decide⟩
  · have h0 := tm0_St q (.inr h)
    subst h0
    exact absurd h (by decide)
theorem tm0_fresh : FreshP tm0 (fun _ => []) [] := fun q _ l hl e => hl (by simpa using e.symm)
/-- the number of a text in a double array -/
def numD (M : TM) (l : List UInt8) : Int :=
  match walkD M l with
  | some p => if M.W p < 0 then -1 else M.W p
  | none => -1
theorem wordN_ge (ws : List Wd) : wordN ws = -1 ∨ 0 ≤ wordN ws := by
  unfold wordN
  split
  · exact .inr (by omega)
  · exact .inl rfl
/-- what is found in what was laid -/
theorem lay_num (f : Nat) (ws : List Wd) (hw : ∀ x ∈ ws, x.1.length ≤ f) : (layF (f + 1) ws 0 tm0).b.length = (layF (f + 1) ws 0 tm0).c.length ∧ (layF (f + 1) ws 0 tm0).w.length = (layF (f + 1) ws 0 tm0).c.length ∧ 1 ≤ (layF (f + 1) ws 0 tm0).c.length ∧ (layF (f + 1) ws 0 tm0).c.length ≤ 1 + costW ws ∧
    (∀ x, -255 ≤ (layF (f + 1) ws 0 tm0).B x ∧ (layF (f + 1) ws 0 tm0).B x ≤ (layF (f + 1) ws 0 tm0).c.length) ∧ ∀ l, numD (layF (f + 1) ws 0 tm0) l = wordN (subs ws l) := by
  obtain ⟨P, L⟩ := lay_post f ws 0 tm0 (fun _ => []) tm0_inv (.inl rfl) tm0_fresh hw
  refine ⟨L.inv.lb, L.inv.lw, L.inv.pos, L.len, L.inv.bas, fun l => ?_⟩
  have fix : ∀ ws : List Wd, (if wordN ws < 0 then -1 else wordN ws) = wordN ws := by
    intro ws
    rcases wordN_ge ws with h | h
    · rw [h]; rfl
    · rw [if_neg (by omega)]
  by_cases hl : l = []
  · subst hl
    show (if (layF (f + 1) ws 0 tm0).W 0 < 0 then -1 else (layF (f + 1) ws 0 tm0).W 0) = wordN ws
    rw [L.wd]
    exact fix ws
  · by_cases hs : subs ws l = []
    · have : walkD (layF (f + 1) ws 0 tm0) l = none := by
        cases e : walkD (layF (f + 1) ws 0 tm0) l with
        | none => rfl
        | some p =>
          obtain ⟨h1, h2⟩ := (walk_iff L.inv l.length l p rfl).1 e
          have hn : ¬ tm0.St p := fun q => by
            have := tm0_St p q
            subst this
            rw [L.inv.p0] at h2
            exact hl h2.symm
          obtain ⟨l', _, e2, e3, _⟩ := L.nw p hn h1
          rw [h2] at e2
          exact absurd hs (by rw [show l = l' by simpa using e2]; exact e3)
      unfold numD
      rw [this, hs]
      rfl
    · obtain ⟨p, h1, h2⟩ := L.al l hl hs
      have h3 : P p = l := by simpa using h2
      have hn : ¬ tm0.St p := fun q => by
        have := tm0_St p q
        subst this
        rw [L.inv.p0] at h3
        exact hl h3.symm
      obtain ⟨l', _, e2, _, e4⟩ := L.nw p hn h1
      have e5 : l' = l := by rw [h3] at e2; simpa using e2.symm
      subst e5
      unfold numD
      rw [(walk_iff L.inv _ _ p rfl).2 ⟨h1, h3⟩]
      dsimp only
      rw [e4]
      exact fix _
/-- the number of a text among words that go on so -/
theorem wordN_subs : ∀ (l : List UInt8) (ws : List Wd), wordN (subs ws l) = match ws.find? fun x => x.1 == l with | some x => (x.2 : Int) | none => -1
  | [], ws => by
    show wordN ws = _
    unfold wordN
    have : (fun x : Wd => x.1.isEmpty) = fun x : Wd => x.1 == [] := by
      funext x
      cases x.1 <;> rfl
    rw [this]
    rfl
  | c :: l, ws => by
    show wordN (subs (sub ws c) l) = _
    rw [wordN_subs l (sub ws c)]
    induction ws with
    | nil => rfl
    | cons x ws ih =>
      obtain ⟨m, n⟩ := x
      cases m with
      | nil => rw [sub_nilW, ih, List.find?_cons_of_neg (by simp)]
      | cons d m =>
        rw [sub_consW]
        by_cases hd : d = c
        · subst hd
          rw [if_pos rfl]
          by_cases hm : m = l
          · subst hm
            rw [List.find?_cons_of_pos (by simp), List.find?_cons_of_pos (by simp)]
          · rw [List.find?_cons_of_neg (by simpa using hm), List.find?_cons_of_neg (by simpa using hm), ih]
        · rw [if_neg hd, ih, List.find?_cons_of_neg (by simp [hd])]
/-- words, each with its place -/
def numbered (words : List (List UInt8)) : List Wd := words.zipIdx
/-- a word's place in a list; -1: it is not there -/
def atW (words : List (List UInt8)) (l : List UInt8) : Int :=
  match words.idxOf? l with
  | some i => (i : Int)
  | none => -1
theorem find_zip (l : List UInt8) : ∀ (words : List (List UInt8)) (k : Nat), (match (words.zipIdx k).find? fun x => x.1 == l with | some x => (x.2 : Int) | none => -1) = match words.idxOf? l with | some i => ((i + k : Nat) : Int) | none => -1
  | [], _ => rfl
  | w :: words, k => by
    rw [List.zipIdx_cons, List.idxOf?_cons]
    by_cases h : w = l
    · subst h
      rw [List.find?_cons_of_pos (by simp)]
      simp
    · rw [List.find?_cons_of_neg (by simpa using h), find_zip l words (k + 1), if_neg (by simpa using h)]
      cases words.idxOf? l with
      | none => rfl
      | some i =>
        show ((i + (k + 1) : Nat) : Int) = ((i + 1 + k : Nat) : Int)
        rw [show i + (k + 1) = i + 1 + k by omega]
/-- what is found is the place in the list -/
theorem num_at (f : Nat) (words : List (List UInt8)) (hw : ∀ l ∈ words, l.length ≤ f) (l : List UInt8) : numD (layF (f + 1) (numbered words) 0 tm0) l = atW words l := by
  have h := (lay_num f (numbered words) (by
    rintro ⟨x, n⟩ hx
    exact hw x (List.fst_mem_of_mem_zipIdx hx))).2.2.2.2.2 l
  rw [h, wordN_subs]
  have := find_zip l words 0
  unfold numbered atW
  refine Eq.trans rfl (this.trans ?_)
  cases words.idxOf? l <;> rfl
end Go.Proofs.Ytndekogkfbhabaa
