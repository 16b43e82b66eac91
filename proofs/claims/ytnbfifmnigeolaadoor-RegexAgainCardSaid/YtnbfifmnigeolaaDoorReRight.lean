/- Walks: whether a tree is an expression's (regex.Right, and the document's). No conditions. -/
import Derived.Test.YtnbfifmnigeolaaDoorReShaped4
namespace Go.Proofs.YtnbfifmnigeolaaDoor
open Go.RowKit Go.Lib
theorem any_getD {α : Type} (l : List α) (f : α → Bool) (n : Nat) (hn : n = l.length) : (List.range n).any (fun i => (l[i]?.map f).getD false) = l.any f := by
  subst hn
  exact range_any _ _ _ fun i a hi => by simp [hi]
theorem all_not {α : Type} (l : List α) (f : α → Bool) : l.all f = !l.any (fun a => !f a) := by
  induction l with
  | nil => rfl
  | cons x l ih => simp only [List.all_cons, List.any_cons, ih, Bool.not_or, Bool.not_not]
section
variable {h : Nat} (IH : ∀ (r : RN) (t : Re) (w : World), ReAt w h r t → Calls Tryd.prog 20 #[reV r] w fun e w' => e = .returned (.bool (shp h t)) ∧ Below w.heap.size w w')
include IH
theorem kids_say {w : World} {v : Value} {rs : List RN} {kids : List Re} (hn : rs.length = kids.length) (hrow : RowOf reC 8 w v rs) (hk : ∀ (i : Nat) r', rs[i]? = some r' → ∃ t', kids[i]? = some t' ∧ ReAt w h r' t') : KidsSay w v (kids.any fun k => !shp h k) := by
  intro W hW
  have := contains_re (fun i => (kids[i]?.map fun k => !shp h k).getD false) 35 #[] enters_shaped2 rs v W (hrow.keep hW) (fun W' hW' i r' hi => by
    obtain ⟨t', ht', hr'⟩ := hk i r' hi
    simp only [ht', Option.map_some, Option.getD_some]
    exact shaped_not IH r' t' W' (hr'.keep (hW.trans (hW'.mono hW.size))))
  rw [any_getD _ _ _ hn] at this
  exact this
theorem shaped_next (r : RN) (t : Re) (w : World) (hr : ReAt w (h + 1) r t) :
    Calls Tryd.prog 20 #[reV r] w fun e w' => e = .returned (.bool (shp (h + 1) t)) ∧ Below w.heap.size w w' := by
  obtain ⟨k, s0, s1, s2, s3, mn, mx, a, n, cap, kids, rs, rfl, rfl, hn, hnk, hl, _, hrow, hk, hone, hkd⟩ := hr.node
  have hK := kids_say IH (hn.symm.trans hnk) hrow hk
  have hshp : shp (h + 1) (.mk k (s0, s1, s2, s3) mn mx kids) = (okN (.mk k (s0, s1, s2, s3) mn mx kids) && !kids.any fun k => !shp h k) := by
    rw [shp, all_not]; rfl
  obtain ⟨bA, hbA⟩ : ∃ b, (kids.any fun k => !shp h k) = b := ⟨_, rfl⟩
  rw [hbA] at hK hshp
  rw [hshp]
  have hokB : ∀ {P : Prop}, (okP (.mk k (s0, s1, s2, s3) mn mx kids) ↔ P) → Hid ((okN (.mk k (s0, s1, s2, s3) mn mx kids) && !bA) = true ↔ P ∧ bA = false) := fun hP => Lib.hid (by
    rw [Bool.and_eq_true, okN_iff, hP, Bool.not_eq_true'])
  by_cases h1 : k = 1
  · subst h1
    exact shaped_1 _ _ _ hK (hokB (by simp [okP, hnk]))
  by_cases h4 : k = 4
  · subst h4
    exact shaped_4 _ _ _ _ _ _ hK (hokB (by simp [okP, noS, hnk]))
  by_cases h23 : k = 2 ∨ k = 3
  · by_cases hF : ((s0 : Int) == 0 && ((s1 : Int) == 0 && ((s2 : Int) == 0 && (s3 : Int) == 0))) = true ∧ mn = 0 ∧ mx = 0 ∧ (2 ≤ (n : Int) ∨ (k = 2 ∧ (n : Int) = 0))
    · obtain ⟨hS, rfl, rfl, hF⟩ := hF
      have hok : okP (.mk k (s0, s1, s2, s3) 0 0 kids) ↔ ∀ i, i < n → kdOf kids i ≠ k := by
        rw [kd_iff hnk]
        simp only [okP, noS, hS]
        constructor
        · rintro (⟨h, _⟩ | ⟨_, _, _, _, _, h⟩ | ⟨h, _⟩)
          · exact absurd h h1
          · exact h
          · exact absurd h h4
        · intro h
          exact .inr (.inl ⟨h23, trivial, trivial, trivial, by rw [← hnk]; exact hF, h⟩)
      -- the kids of the same kind
      have hsame := contains_re (fun i => kdOf kids i == k) 34 #[.pointer (some ⟨w.heap.size, 0, none⟩)] enters_shaped1 rs (.slice a n cap) _ (hrow.keep (re_box w ⟨k, (s0, s1, s2, s3), 0, 0, .slice a n cap⟩)) (fun W hW i r' hi => by
        have hg := Go.heap_alloc_new w (.cells (reC ⟨k, (s0, s1, s2, s3), 0, 0, .slice a n cap⟩).toArray 28)
        have hlt : w.heap.size < (w.alloc (.cells (reC ⟨k, (s0, s1, s2, s3), 0, 0, .slice a n cap⟩).toArray 28)).heap.size := by simp
        have := shaped_same r' w.heap.size k W (Nat.lt_of_lt_of_le hlt hW.size) (by rw [hW.cell hlt, cell_of_row _ _ _ _ _ _ hg]; rfl)
        rw [hkd i r' hi] at this
        exact this)
      obtain ⟨bK, hbK⟩ : ∃ b, ((List.range rs.length).any fun i => kdOf kids i == k) = b := ⟨_, rfl⟩
      rw [hbK] at hsame
      have hokb : okN (.mk k (s0, s1, s2, s3) 0 0 kids) = !bK := by
        rw [Bool.eq_iff_iff, okN_iff, hok, Bool.not_eq_true', ← hbK, Bool.eq_false_iff, ne_eq, List.any_eq_true, hn]
        constructor
        · rintro hx ⟨i, hi, he⟩
          exact hx i (List.mem_range.1 hi) (by simpa using he)
        · intro hx i hi he
          exact hx ⟨i, List.mem_range.2 hi, by simpa using he⟩
      rw [hokb]
      by_cases h2 : 2 ≤ n
      · rcases h23 with rfl | rfl
        · exact shaped_ok2 s0 s1 s2 s3 h2 hl hS bK hK hsame
        · exact shaped_ok3 s0 s1 s2 s3 h2 hl hS bK hK hsame
      · have e2 : k = 2 := by omega
        have e0 : n = 0 := by omega
        subst e2
        clear hok hrow hn hnk hl hF h2 hbK hokb hshp hokB hr hbA
        subst e0
        exact shaped_empty s0 s1 s2 s3 hS bK hK hsame
    · have : okN (.mk k (s0, s1, s2, s3) mn mx kids) = false := by
        rw [Bool.eq_false_iff]
        intro h
        have h := okN_iff.1 h
        simp only [okP, noS, ← hnk] at h
        rcases h with ⟨h, _⟩ | ⟨_, h3, h4, h5, h6, _⟩ | ⟨h, _⟩
        · exact h1 h
        · exact hF ⟨h3, h4, h5, h6⟩
        · exact h4 h
      rw [this, Bool.false_and]
      exact shaped_bad k h23 s0 s1 s2 s3 n mn mx a cap w hl hF
  · have : okN (.mk k (s0, s1, s2, s3) mn mx kids) = false := by
      rw [Bool.eq_false_iff]
      intro h
      have h := okN_iff.1 h
      simp only [okP] at h
      rcases h with ⟨h, _⟩ | ⟨h, _⟩ | ⟨h, _⟩
      · exact h1 h
      · exact h23 h
      · exact h4 h
    rw [this, Bool.false_and]
    exact shaped_0 k ⟨h1, fun h => h23 (.inl h), fun h => h23 (.inr h), h4⟩ _ _ _ _ w
end
/-- whether a tree may be -/
theorem regex_shaped : ∀ (h : Nat) (r : RN) (t : Re) (w : World), ReAt w h r t → Calls Tryd.prog 20 #[reV r] w fun e w' => e = .returned (.bool (shp h t)) ∧ Below w.heap.size w w'
  | 0, _, _, _, hr => hr.elim
  | _ + 1, r, t, w, hr => shaped_next (regex_shaped _) r t w hr
/-- is it an expression's? -/
noncomputable def rgt (h : Nat) (t : Re) : Int := if 30 < dep h t then 2 else if 512 < cnt h t then 2 else if shp h t then 0 else 61
theorem rgt_of {h : Nat} {t : Re} (R : Int) (h1 : 30 < dep h t → R = 2) (h2 : ¬ 30 < dep h t → 512 < cnt h t → R = 2) (h3 : ¬ 30 < dep h t → ¬ 512 < cnt h t → R = if shp h t then 0 else 61) : rgt h t = R := by
  unfold rgt
  by_cases a : 30 < dep h t
  · rw [if_pos a, h1 a]
  · rw [if_neg a]
    by_cases b : 512 < cnt h t
    · rw [if_pos b, h2 a b]
    · rw [if_neg b, h3 a b]
set_option maxRecDepth 100000 in
set_option maxHeartbeats 1000000 in
theorem regex_Right (h : Nat) (r : RN) (t : Re) (w : World) (hr : ReAt w h r t) : Calls Tryd.prog 10 #[reV r] w fun e w' => e = .returned (.int .i64 (rgt h t)) ∧ Below w.heap.size w w' := by
  have HB := Lib.hid (re_box w r)
  have HD : Calls Tryd.prog 17 #[reV r, .int .i64 30] _ _ := regex_deep h r t 30 _ (by decide) (hr.keep HB.out)
  have HC : Hid (∀ W, Below w.heap.size w W → Calls Tryd.prog 19 #[reV r, .int .i64 512] W fun e w' => e = .returned (.int .i64 (min (cnt h t) 513 : Nat)) ∧ Below W.heap.size W w') := Lib.hid (fun W hW => regex_nodes h r t 512 W (by decide) (hr.keep hW))
  have HS : Hid (∀ W, Below w.heap.size w W → Calls Tryd.prog 20 #[reV r] W fun e w' => e = .returned (.bool (shp h t)) ∧ Below W.heap.size W w') := Lib.hid (fun W hW => regex_shaped h r t W (hr.keep hW))
  have hone := hr.one
  have HR := Lib.hid (@rgt_of h t)
  obtain ⟨R, hR⟩ : ∃ R, rgt h t = R := ⟨_, rfl⟩
  rw [hR] at HR ⊢
  obtain ⟨d, hd⟩ : ∃ d, decide (30 < dep h t) = d := ⟨_, rfl⟩
  obtain ⟨c, hc⟩ : ∃ c : Nat, min (cnt h t) 513 = c := ⟨_, rfl⟩
  obtain ⟨x, hx⟩ : ∃ x, shp h t = x := ⟨_, rfl⟩
  rw [hd] at HD
  rw [hc] at HC
  rw [hx] at HS HR
  have Hd := Lib.hid hd
  have Hc := Lib.hid hc
  clear hd hR hc hx
  have cells : ∀ W, Below (w.alloc (.cells (reC r).toArray 28)).heap.size (w.alloc (.cells (reC r).toArray 28)) W → Cells8 W w.heap.size 0 r := fun W hW => by
    have hlt : w.heap.size < (w.alloc (.cells (reC r).toArray 28)).heap.size := by simp
    have hg := Go.heap_alloc_new w (.cells (reC r).toArray 28)
    refine ⟨?_, ?_, ?_, ?_, ?_, ?_, ?_, ?_⟩ <;> (rw [hW.cell hlt, cell_of_row _ _ _ _ _ _ hg]; rfl)
  have HX := Lib.hid cells
  clear cells
  simp only [reV, reC] at HD HB HC HS HX ⊢
  go_enter Tryd.func10, Tryd.ntmps10
  repeat' (first | go_values | go_skip | go_guarded | go_step | go_upon)
  refine Calls.mono (HD) ?_
  rintro _ w1 ⟨rfl, hb1⟩
  dsimp only
  have H1 := Lib.hid (HB.out.trans (hb1.mono HB.out.size))
  have Hb1 := Lib.hid hb1
  obtain ⟨c0, c1, c2, c3, c4, c5, c6, c7⟩ := HX.out w1 hb1
  clear hb1 HB HD
  cases d with
  | true =>
    clear HX
    repeat' (first | go_values | go_skip | go_guarded | go_step | go_upon)
    go_ret
    refine ⟨?_, H1.out⟩
    have := HR.out 2 (fun _ => rfl) (fun h => absurd (of_decide_eq_true Hd.out) h) (fun h => absurd (of_decide_eq_true Hd.out) h)
    rw [this]; rfl
  | false =>
  have HC1 := Lib.hid (HC.out w1 H1.out)
  clear HC
  repeat' (first | go_values | go_skip | go_guarded | go_step | go_upon)
  refine Calls.mono (HC1.out) ?_
  rintro _ w2 ⟨rfl, hb2⟩
  dsimp only
  have H2 := Lib.hid (H1.out.trans (hb2.mono H1.out.size))
  obtain ⟨d0, d1, d2, d3, d4, d5, d6, d7⟩ := HX.out w2 (Hb1.out.trans (hb2.mono Hb1.out.size))
  clear hb2 HX HC1 Hb1 c0 c1 c2 c3 c4 c5 c6 c7
  have Hnd : Hid (¬ 30 < dep h t) := Lib.hid (of_decide_eq_false Hd.out)
  by_cases hc5 : 512 < c
  · have hc5' : (512 : Int) < c := by omega
    have H5 := Lib.hid hc5
    clear hc5 HS
    repeat' (first | go_values | go_skip | go_guarded | go_step | go_upon)
    go_ret
    refine ⟨?_, H2.out⟩
    have := HR.out 2 (fun _ => rfl) (fun _ _ => rfl) (fun _ h => absurd (by have := Hc.out; have := H5.out; omega) h)
    rw [this]; rfl
  · have hc5' : ¬ (512 : Int) < c := by omega
    have H5 := Lib.hid hc5
    have HS2 := Lib.hid (HS.out w2 H2.out)
    clear hc5 HS
    repeat' (first | go_values | go_skip | go_guarded | go_step | go_upon)
    refine Calls.mono (HS2.out) ?_
    rintro _ w3 ⟨rfl, hb3⟩
    dsimp only
    clear HS2
    have HE := HR.out (if x then 0 else 61) (fun h => absurd h Hnd.out) (fun _ h => absurd h (by have := Hc.out; have := H5.out; omega)) (fun _ _ => rfl)
    cases x with
    | true =>
      repeat' (first | go_values | go_skip | go_guarded | go_step | go_upon)
      go_ret
      exact ⟨by rw [HE]; rfl, H2.out.trans (hb3.mono H2.out.size)⟩
    | false =>
      repeat' (first | go_values | go_skip | go_guarded | go_step | go_upon)
      go_ret
      exact ⟨by rw [HE]; rfl, H2.out.trans (hb3.mono H2.out.size)⟩
end Go.Proofs.YtnbfifmnigeolaaDoor
