/- Plain law: the classes that are parted set by set are those of what all sets say of a byte. No conditions; no walk. -/
import Derived.Test.YtapanlchnmgkmaaClsClasses
namespace Go.Proofs.Ytapanlchnmgkmaa
section
variable {α β : Type} [DecidableEq α] [DecidableEq β]
/-- who came first of each key -/
def repsTo (f : Nat → α) : Nat → List Nat
  | 0 => []
  | n + 1 => if f n ∈ (repsTo f n).map f then repsTo f n else repsTo f n ++ [n]
theorem keys_reps (f : Nat → α) : ∀ n, keysTo f n = (repsTo f n).map f
  | 0 => rfl
  | n + 1 => by
    show addK (keysTo f n) (f n) = List.map f (if f n ∈ (repsTo f n).map f then repsTo f n else repsTo f n ++ [n])
    rw [keys_reps f n]
    unfold addK
    split
    · rfl
    · rw [List.map_append]; rfl
theorem reps_lt (f : Nat → α) : ∀ n, ∀ r ∈ repsTo f n, r < n
  | 0, r, h => by simp [repsTo] at h
  | n + 1, r, h => by
    unfold repsTo at h
    split at h
    · have := reps_lt f n r h; omega
    · rcases List.mem_append.1 h with h | h
      · have := reps_lt f n r h; omega
      · simp at h; omega
/-- alike below 256 -/
def Alike (f : Nat → α) (g : Nat → β) : Prop := ∀ b c, b < 256 → c < 256 → (f b = f c ↔ g b = g c)
theorem reps_alike {f : Nat → α} {g : Nat → β} (h : Alike f g) : ∀ n, n ≤ 256 → repsTo f n = repsTo g n
  | 0, _ => rfl
  | n + 1, hn => by
    have ih := reps_alike h n (by omega)
    have hlt := reps_lt f n
    unfold repsTo
    rw [← ih]
    have e : (f n ∈ (repsTo f n).map f) ↔ (g n ∈ (repsTo f n).map g) := by
      simp only [List.mem_map]
      constructor
      · rintro ⟨r, hr, he⟩
        have := hlt r hr
        exact ⟨r, hr, (h r n (by omega) (by omega)).1 he⟩
      · rintro ⟨r, hr, he⟩
        have := hlt r hr
        exact ⟨r, hr, (h r n (by omega) (by omega)).2 he⟩
    by_cases hm : f n ∈ (repsTo f n).map f
    · rw [if_pos hm, if_pos (e.1 hm)]
    · rw [if_neg hm, if_neg fun h' => hm (e.2 h')]
theorem find_alike {f : Nat → α} {g : Nat → β} (h : Alike f g) {b : Nat} (hb : b < 256) : ∀ (R : List Nat) (i : Nat), (∀ r ∈ R, r < 256) → findIn (f b) i (R.map f) = findIn (g b) i (R.map g)
  | [], _, _ => rfl
  | r :: R, i, hR => by
    have hr := hR r (by simp)
    have ih := find_alike h hb R (i + 1) fun x hx => hR x (by simp [hx])
    by_cases he : f b = f r
    · simp [findIn, he, (h b r hb hr).1 he]
    · have hg : ¬ g b = g r := fun h' => he ((h b r hb hr).2 h')
      simp only [List.map_cons, findIn, if_neg he, if_neg hg]; exact ih
theorem cls_alike {f : Nat → α} {g : Nat → β} (h : Alike f g) {b : Nat} (hb : b < 256) : cls f b = cls g b := by
  have e := reps_alike h 256 (Nat.le_refl _)
  have hl : ∀ r ∈ repsTo f 256, r < 256 := reps_lt f 256
  unfold cls
  rw [keys_reps f, keys_reps g, ← e, find_alike h hb _ 0 hl]
theorem clsN_alike {f : Nat → α} {g : Nat → β} (h : Alike f g) : clsN f = clsN g := by
  have e := reps_alike h 256 (Nat.le_refl _)
  unfold clsN
  rw [keys_reps f, keys_reps g, ← e, List.length_map, List.length_map]
theorem findIn_get {a : α} : ∀ {l : List α} {i j : Nat}, findIn a i l = some j → l[j - i]? = some a
  | [], i, j, h => by simp [findIn] at h
  | b :: l, i, j, h => by
    by_cases hab : a = b
    · simp [findIn, hab] at h; subst h; simp [hab]
    · simp only [findIn, if_neg hab] at h
      have h1 := findIn_bound h
      have h2 := findIn_get h
      rw [show j - i = (j - (i + 1)) + 1 by omega]
      simpa using h2
/-- one class, one key -/
theorem cls_inj (f : Nat → α) {b c : Nat} (hb : b < 256) (hc : c < 256) : cls f b = cls f c ↔ f b = f c := by
  constructor
  · intro h
    have h1 := findIn_get (cls_at f hb (Nat.le_refl 256))
    have h2 := findIn_get (cls_at f hc (Nat.le_refl 256))
    rw [h, h2] at h1
    exact (Option.some.inj h1).symm
  · intro h; unfold cls; rw [h]
end
/-- what all sets say of a byte -/
def sig (ps : List (Nat → Bool)) (b : Nat) : List Bool := ps.map fun p => p b
theorem sig_snoc (ps : List (Nat → Bool)) (p : Nat → Bool) (b : Nat) : sig (ps ++ [p]) b = sig ps b ++ [p b] := by simp [sig]
theorem keyS_eq {p q : Nat → Bool} (h : keyS p = keyS q) (b : Nat) (hb : b < 256) : p b = q b := by
  simp only [keyS, Prod.mk.injEq] at h
  refine W_inj (fun i hi => ?_) b hb
  rcases (by omega : i = 0 ∨ i = 1 ∨ i = 2 ∨ i = 3) with rfl | rfl | rfl | rfl
  · exact h.1
  · exact h.2.1
  · exact h.2.2.1
  · exact h.2.2.2
structure StOk (ps : List (Nat → Bool)) (s : (Nat → Nat) × Nat × List K4) : Prop where
  cls : ∀ b, b < 256 → s.1 b = cls (sig ps) b
  many : s.2.1 = clsN (sig ps)
  seen : ∀ k ∈ s.2.2, ∃ q ∈ ps, keyS q = k
theorem st_step {ps : List (Nat → Bool)} {s : (Nat → Nat) × Nat × List K4} (h : StOk ps s) (p : Nat → Bool) : StOk (ps ++ [p]) (stepC s p) := by
  by_cases hm : keyS p ∈ s.2.2
  · have e : stepC s p = s := by unfold stepC; rw [if_pos hm]
    obtain ⟨q, hq, hk⟩ := h.seen _ hm
    have ha : Alike (sig ps) (sig (ps ++ [p])) := fun b c hb hc => by
      rw [sig_snoc, sig_snoc]
      constructor
      · intro h'
        have hqb : q b = q c := by
          have := congrArg (fun l : List Bool => l) h'
          unfold sig at this
          exact List.map_inj_left.1 this q hq
        rw [h', ← keyS_eq hk b hb, ← keyS_eq hk c hc, hqb]
      · intro h'
        exact (List.append_inj' h' rfl).1
    rw [e]
    exact ⟨fun b hb => by rw [h.cls b hb]; exact cls_alike ha hb, by rw [h.many]; exact clsN_alike ha, fun k hk => by
      obtain ⟨q, hq, e⟩ := h.seen k hk
      exact ⟨q, List.mem_append_left _ hq, e⟩⟩
  · have e : stepC s p = (Go.Proofs.Ytapanlchnmgkmaa.cls (pairK s.1 p), clsN (pairK s.1 p), s.2.2 ++ [keyS p]) := by unfold stepC; rw [if_neg hm]
    have ha : Alike (pairK s.1 p) (sig (ps ++ [p])) := fun b c hb hc => by
      rw [sig_snoc, sig_snoc]
      unfold pairK
      rw [h.cls b hb, h.cls c hc]
      constructor
      · intro h'
        simp only [Prod.mk.injEq] at h'
        have h1 : sig ps b = sig ps c := (cls_inj (sig ps) hb hc).1 (by omega)
        have h2 : p b = p c := by cases hpb : p b <;> cases hpc : p c <;> simp [hpb, hpc] at h' ⊢
        rw [h1, h2]
      · intro h'
        have h1 := List.append_inj' h' rfl
        have h2 : p b = p c := by simpa using h1.2
        rw [(cls_inj (sig ps) hb hc).2 h1.1, h2]
    have ec := fun b (hb : b < 256) => cls_alike ha hb
    have en := clsN_alike ha
    generalize Go.Proofs.Ytapanlchnmgkmaa.cls (pairK s.1 p) = c' at e ec
    generalize clsN (pairK s.1 p) = m' at e en
    rw [e]
    refine ⟨ec, en, fun k hk => ?_⟩
    rcases List.mem_append.1 hk with hk | hk
    · obtain ⟨q, hq, e⟩ := h.seen k hk
      exact ⟨q, List.mem_append_left _ hq, e⟩
    · simp at hk; exact ⟨p, by simp, hk.symm⟩
theorem keys_const {α : Type} [DecidableEq α] (x : α) : ∀ n, keysTo (fun _ => x) (n + 1) = [x]
  | 0 => by simp [keysTo, addK]
  | n + 1 => by
    show addK (keysTo (fun _ => x) (n + 1)) x = [x]
    rw [keys_const x n]; simp [addK]
theorem keys_const' {α : Type} [DecidableEq α] (x : α) (n : Nat) (hn : n = 255 + 1) : keysTo (fun _ => x) n = [x] := by rw [hn]; exact keys_const x 255
theorem st_start : StOk [] ((fun _ => 0), 1, []) := by
  have e : sig [] = fun _ => ([] : List Bool) := rfl
  refine ⟨fun b _ => ?_, ?_, fun k hk => by simp at hk⟩
  · have h := keys_const' ([] : List Bool) 256 rfl
    unfold Go.Proofs.Ytapanlchnmgkmaa.cls
    rw [e, h]; simp [findIn]
  · have h := keys_const' ([] : List Bool) 256 rfl
    unfold clsN
    rw [e, h]; rfl
theorem fold_ok : ∀ (ps qs : List (Nat → Bool)) (s : (Nat → Nat) × Nat × List K4), StOk qs s → StOk (qs ++ ps) (ps.foldl stepC s)
  | [], qs, s, h => by simpa using h
  | p :: ps, qs, s, h => by
    have := fold_ok ps (qs ++ [p]) (stepC s p) (st_step h p)
    simpa using this
theorem stOf_ok (ps : List (Nat → Bool)) : StOk ps (stOf ps) := by
  have := fold_ok ps [] _ st_start
  simpa [stOf] using this
end Go.Proofs.Ytapanlchnmgkmaa
