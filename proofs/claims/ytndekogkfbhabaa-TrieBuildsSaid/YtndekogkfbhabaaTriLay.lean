/- Plain laws: words laid into a double array: which states there are, and what each tells. No conditions; no program. -/
import Derived.Test.YtndekogkfbhabaaTriSum
namespace Go.Proofs.Ytndekogkfbhabaa
/-- what laying a node's words at a state leaves -/
structure LayPost (M M' : TM) (P P' : Nat → List UInt8) (s : Nat) (ws : List Wd) : Prop where
  inv : Inv M' P'
  st : ∀ q, M.St q → M'.St q ∧ P' q = P q
  ow : ∀ q, M.St q → q ≠ s → M'.W q = M.W q
  wd : M'.W s = wordN ws
  nw : ∀ q, ¬ M.St q → M'.St q → ∃ l, l ≠ [] ∧ P' q = P s ++ l ∧ subs ws l ≠ [] ∧ M'.W q = wordN (subs ws l)
  al : ∀ l, l ≠ [] → subs ws l ≠ [] → ∃ q, M'.St q ∧ P' q = P s ++ l
  len : M'.c.length ≤ M.c.length + costW ws
theorem tlW_some {c : UInt8} {x y : Wd} (h : tlW c x = some y) : x = (c :: y.1, y.2) := by
  obtain ⟨l, n⟩ := x
  unfold tlW at h
  cases l with
  | nil => cases h
  | cons d l =>
    dsimp only at h
    split at h
    · rename_i e
      subst e
      rw [← Option.some.inj h]
    · cases h
theorem mem_sub {ws : List Wd} {c : UInt8} {y : Wd} : y ∈ sub ws c ↔ (c :: y.1, y.2) ∈ ws := by
  unfold sub
  rw [List.mem_filterMap]
  constructor
  · rintro ⟨x, hx, e⟩
    rw [← tlW_some e]; exact hx
  · intro h
    exact ⟨_, h, by show (if c = c then some (y.1, y.2) else none) = some y; rw [if_pos rfl]⟩
theorem subs_nil : ∀ l : List UInt8, subs [] l = []
  | [] => rfl
  | _ :: l => subs_nil l
section
variable {f : Nat} {ws : List Wd} {p : List UInt8} {g : UInt8 → Nat}
/-- the kids are laid one behind another -/
theorem fold_post (IH : ∀ (ws : List Wd) (s : Nat) (M : TM) (P : Nat → List UInt8), Inv M P → M.St s → FreshP M P (P s) → (∀ x ∈ ws, x.1.length ≤ f) → ∃ P', LayPost M (layF (f + 1) ws s M) P P' s ws)
    (hw : ∀ x ∈ ws, x.1.length ≤ f + 1) : ∀ (todo : List UInt8) (T : TM) (PT : Nat → List UInt8), Inv T PT → todo.Nodup → (∀ c ∈ todo, T.St (g c) ∧ PT (g c) = p ++ [c] ∧ FreshP T PT (p ++ [c])) →
    ∃ P', Inv (todo.foldl (fun T c => layF (f + 1) (sub ws c) (g c) T) T) P' ∧ (∀ q, T.St q → (todo.foldl (fun T c => layF (f + 1) (sub ws c) (g c) T) T).St q ∧ P' q = PT q) ∧
      (∀ q, T.St q → (∀ c ∈ todo, q ≠ g c) → (todo.foldl (fun T c => layF (f + 1) (sub ws c) (g c) T) T).W q = T.W q) ∧
      (∀ c ∈ todo, (todo.foldl (fun T c => layF (f + 1) (sub ws c) (g c) T) T).W (g c) = wordN (sub ws c)) ∧
      (∀ q, ¬ T.St q → (todo.foldl (fun T c => layF (f + 1) (sub ws c) (g c) T) T).St q → ∃ c ∈ todo, ∃ l, l ≠ [] ∧ P' q = p ++ c :: l ∧ subs (sub ws c) l ≠ [] ∧ (todo.foldl (fun T c => layF (f + 1) (sub ws c) (g c) T) T).W q = wordN (subs (sub ws c) l)) ∧
      (∀ c ∈ todo, ∀ l, l ≠ [] → subs (sub ws c) l ≠ [] → ∃ q, (todo.foldl (fun T c => layF (f + 1) (sub ws c) (g c) T) T).St q ∧ P' q = p ++ c :: l) ∧
      (todo.foldl (fun T c => layF (f + 1) (sub ws c) (g c) T) T).c.length ≤ T.c.length + (todo.map fun c => costW (sub ws c)).sum
  | [], T, PT, hI, _, _ => ⟨PT, hI, fun q hq => ⟨hq, rfl⟩, fun _ _ _ => rfl, fun c hc => by simp at hc, fun q h1 h2 => absurd h2 h1, fun c hc => by simp at hc, Nat.le_refl _⟩
  | c :: todo, T, PT, hI, hn, hk => by
    obtain ⟨hn1, hn2⟩ := List.nodup_cons.1 hn
    obtain ⟨k1, k2, k3⟩ := hk c (by simp)
    obtain ⟨P1, L⟩ := IH (sub ws c) (g c) T PT hI k1 (k2 ▸ k3) (fun x hx => by have := hw _ (mem_sub.1 hx); simpa using this)
    have hne : ∀ c' ∈ todo, g c ≠ g c' := by
      intro c' hc' e
      have h1 := (hk c' (by simp [hc'])).2.1
      rw [← e, k2] at h1
      have := List.append_cancel_left h1
      obtain rfl : c = c' := by simpa using this
      exact hn1 hc'
    obtain ⟨P', i1, i2, i3, i4, i5, i6, i7⟩ := fold_post IH hw todo (layF (f + 1) (sub ws c) (g c) T) P1 L.inv hn2 (fun c' hc' => by
      obtain ⟨h1, h2, h3⟩ := hk c' (by simp [hc'])
      refine ⟨(L.st _ h1).1, by rw [(L.st _ h1).2, h2], fun q hq l hl e => ?_⟩
      by_cases ht : T.St q
      · rw [(L.st q ht).2] at e
        exact h3 q ht l hl e
      · obtain ⟨l', _, e2, _⟩ := L.nw q ht hq
        rw [e2, k2, List.append_assoc, List.append_assoc] at e
        have := List.append_cancel_left e
        obtain ⟨e3, _⟩ := List.cons.inj this
        exact hn1 (e3 ▸ hc'))
    rw [List.foldl_cons]
    refine ⟨P', i1, fun q hq => ?_, fun q hq hc => ?_, fun x hx => ?_, fun q hq hq' => ?_, fun x hx l hl hs => ?_, ?_⟩
    · obtain ⟨a1, a2⟩ := L.st q hq
      obtain ⟨b1, b2⟩ := i2 q a1
      exact ⟨b1, by rw [b2, a2]⟩
    · rw [i3 q (L.st q hq).1 (fun c' hc' => hc c' (by simp [hc'])), L.ow q hq (hc c (by simp))]
    · rcases List.mem_cons.1 hx with rfl | hx
      · rw [i3 _ (L.st _ k1).1 hne]; exact L.wd
      · exact i4 x hx
    · by_cases h1 : (layF (f + 1) (sub ws c) (g c) T).St q
      · obtain ⟨l, e1, e2, e3, e4⟩ := L.nw q hq h1
        refine ⟨c, by simp, l, e1, ?_, e3, ?_⟩
        · rw [(i2 q h1).2, e2, k2, List.append_assoc]; rfl
        · rw [i3 q h1 (fun c' hc' e => hq (e ▸ (hk c' (by simp [hc'])).1)), e4]
      · obtain ⟨c', hc', l, e1, e2, e3, e4⟩ := i5 q h1 hq'
        exact ⟨c', by simp [hc'], l, e1, e2, e3, e4⟩
    · rcases List.mem_cons.1 hx with rfl | hx
      · obtain ⟨q, a1, a2⟩ := L.al l hl hs
        obtain ⟨b1, b2⟩ := i2 q a1
        exact ⟨q, b1, by rw [b2, a2, k2, List.append_assoc]; rfl⟩
      · exact i6 x hx l hl hs
    · have := L.len
      rw [List.map_cons, List.sum_cons]
      omega
end
theorem setW (M : TM) (s : Nat) (v : Int) (hs : s < M.w.length) (q : Nat) : TM.W { M with w := M.w.set s v } q = if s = q then v else M.W q := by
  unfold TM.W
  dsimp only
  rw [getD_setI]
  by_cases h : s = q
  · rw [if_pos ⟨h, hs⟩, if_pos h]
  · rw [if_neg (fun p => h p.1), if_neg h]
theorem inv_setW {M : TM} {P : Nat → List UInt8} (h : Inv M P) (s : Nat) (v : Int) : Inv { M with w := M.w.set s v } P :=
  ⟨h.lb, by show (M.w.set s v).length = _; rw [List.length_set]; exact h.lw, h.pos, h.c0, h.p0, h.bas, h.fr, h.par, h.inj⟩
/-- words are laid -/
theorem lay_post : ∀ (f : Nat) (ws : List Wd) (s : Nat) (M : TM) (P : Nat → List UInt8), Inv M P → M.St s → FreshP M P (P s) → (∀ x ∈ ws, x.1.length ≤ f) → ∃ P', LayPost M (layF (f + 1) ws s M) P P' s ws := by
  intro f
  induction f with
  | zero =>
    intro ws s M P hI hs hf hw
    have hk : kids ws = [] := by
      cases e : kids ws with
      | nil => rfl
      | cons c l =>
        exfalso
        have hc : c ∈ kids ws := by rw [e]; simp
        obtain ⟨y, hy⟩ := List.exists_mem_of_ne_nil _ (mem_kids.1 hc)
        have := hw _ (mem_sub.1 hy)
        simp at this
    have hsl := St_lt hI hs
    have hno : ∀ l, l ≠ [] → subs ws l = [] := by
      intro l hl
      cases l with
      | nil => exact absurd rfl hl
      | cons c l =>
        show subs (sub ws c) l = []
        by_cases hc : sub ws c = []
        · rw [hc]; exact subs_nil l
        · have := mem_kids.2 hc
          rw [hk] at this; simp at this
    unfold layF
    rw [hk]
    dsimp only
    refine ⟨P, inv_setW hI s _, fun q hq => ⟨hq, rfl⟩, fun q hq hne => ?_, ?_, fun q h1 h2 => absurd h2 h1, fun l hl hne => absurd (hno l hl) hne, Nat.le_add_right _ _⟩
    · rw [setW M s _ (by rw [hI.lw]; exact hsl), if_neg (Ne.symm hne)]
    · rw [setW M s _ (by rw [hI.lw]; exact hsl), if_pos rfl]
  | succ f IH =>
    intro ws s M P hI hs hf hw
    have hsl := St_lt hI hs
    have hW := setW M s (wordN ws) (by rw [hI.lw]; exact hsl)
    have hI0 := inv_setW hI s (wordN ws)
    have hs0 : TM.St { M with w := M.w.set s (wordN ws) } s := hs
    have hf0 : FreshP { M with w := M.w.set s (wordN ws) } P (P s) := hf
    rw [layF]
    cases e : kids ws with
    | nil =>
      have hno : ∀ l, l ≠ [] → subs ws l = [] := by
        intro l hl
        cases l with
        | nil => exact absurd rfl hl
        | cons c l =>
          show subs (sub ws c) l = []
          by_cases hc : sub ws c = []
          · rw [hc]; exact subs_nil l
          · have := mem_kids.2 hc
            rw [e] at this; simp at this
      dsimp only
      refine ⟨P, hI0, fun q hq => ⟨hq, rfl⟩, fun q hq hne => ?_, ?_, fun q h1 h2 => absurd h2 h1, fun l hl hne => absurd (hno l hl) hne, Nat.le_add_right _ _⟩
      · rw [hW, if_neg (Ne.symm hne)]
      · rw [hW, if_pos rfl]
    | cons k ks =>
      dsimp only
      have hp := kids_lt ws
      rw [e] at hp
      have hnd : (k :: ks).Nodup := hp.imp fun h q => by subst q; omega
      obtain ⟨M0, hM0⟩ : ∃ M0 : TM, { M with w := M.w.set s (wordN ws) } = M0 := ⟨_, rfl⟩
      have hb : baseF M k ks = baseF M0 k ks := by rw [← hM0]; rfl
      have hcl : M.c.length = M0.c.length := by rw [← hM0]
      have hSt : ∀ q, M0.St q ↔ M.St q := fun q => by rw [← hM0]; exact Iff.rfl
      rw [hM0] at hI0 hW hs0 hf0 ⊢
      rw [hb]
      clear hM0 hb
      have HI := put_inv hI0 hp hs0 hf0
      have HS := put_St (s := s) hI0 hp
      have HK : ∀ c ∈ k :: ks, (putF M0 s k ks).St (kS M0 k ks c) ∧ putP M0 P s k ks (kS M0 k ks c) = P s ++ [c] ∧ FreshP (putF M0 s k ks) (putP M0 P s k ks) (P s ++ [c]) := by
        intro c hc
        refine ⟨(HS _).2 (.inr ⟨c, hc, rfl⟩), putP_kid hI0 hp hc, fun q hq l hl e2 => ?_⟩
        rcases (HS q).1 hq with hq | ⟨b, hb, rfl⟩
        · rw [putP_old hI0 hp hq, List.append_assoc] at e2
          exact hf0 q hq _ (by simp) e2
        · rw [putP_kid hI0 hp hb, List.append_assoc] at e2
          have := List.append_cancel_left e2
          cases l with
          | nil => exact hl rfl
          | cons d l => simp at this
      obtain ⟨P', i1, i2, i3, i4, i5, i6, i7⟩ := fold_post (p := P s) (g := kS M0 k ks) IH hw (k :: ks) _ _ HI hnd HK
      have hnk : ∀ q, M0.St q → ∀ c ∈ k :: ks, q ≠ kS M0 k ks c := by
        rintro q hq c hc rfl
        have := kS_at hI0 hp hc
        rcases hq with e3 | hq <;> omega
      refine ⟨P', i1, fun q hq => ?_, fun q hq hne => ?_, ?_, fun q h1 h2 => ?_, fun l hl hne => ?_, ?_⟩
      · have hq0 := (hSt q).2 hq
        obtain ⟨a1, a2⟩ := i2 q ((HS q).2 (.inl hq0))
        exact ⟨a1, by rw [a2, putP_old hI0 hp hq0]⟩
      · have hq0 := (hSt q).2 hq
        have := i3 q ((HS q).2 (.inl hq0)) (hnk q hq0)
        rw [put_W, hW, if_neg (Ne.symm hne)] at this
        exact this
      · have := i3 s ((HS s).2 (.inl hs0)) (hnk s hs0)
        rw [put_W, hW, if_pos rfl] at this
        exact this
      · have h10 : ¬ M0.St q := fun x => h1 ((hSt q).1 x)
        by_cases h3 : (putF M0 s k ks).St q
        · rcases (HS q).1 h3 with h4 | ⟨c, hc, rfl⟩
          · exact absurd h4 h10
          · refine ⟨[c], by simp, by rw [(i2 _ h3).2, putP_kid hI0 hp hc], ?_, i4 c hc⟩
            exact mem_kids.1 (e ▸ hc)
        · obtain ⟨c, hc, l, e1, e2, e3, e4⟩ := i5 q h3 h2
          exact ⟨c :: l, by simp, e2, e3, e4⟩
      · cases l with
        | nil => exact absurd rfl hl
        | cons c l =>
          have hsub : sub ws c ≠ [] := fun q => hne (by show subs (sub ws c) l = []; rw [q]; exact subs_nil l)
          have hc : c ∈ k :: ks := e ▸ mem_kids.2 hsub
          by_cases hl2 : l = []
          · subst hl2
            have h3 := (HK c hc).1
            exact ⟨_, (i2 _ h3).1, by rw [(i2 _ h3).2]; exact (HK c hc).2.1⟩
          · exact i6 c hc l hl2 hne
      · obtain ⟨_, b2, b3⟩ := base_at (M := M0) (k := k) (ks := ks) hI0.fr (List.pairwise_cons.1 hp).1
        have hpl := (put_len (M := M0) (s := s) (k := k) (ks := ks) ⟨hI0.lb, hI0.lw⟩).1
        have hkb := k.toNat_lt
        have hlb : lastF k ks < 256 := ((k :: ks).getLast (by simp)).toNat_lt
        refine Nat.le_trans i7 ?_
        rw [hcl]
        refine kids_cost e (fun hz => ?_) ?_
        · subst hz
          have : lastF k [] = k.toNat := rfl
          omega
        · omega
end Go.Proofs.Ytndekogkfbhabaa
