/- Walk: whether a tree may be (ref every). No conditions. -/
import Derived.Test.YtnbfifmnigeolaaDoorReOne
namespace Go.Proofs.YtnbfifmnigeolaaDoor
open Go.RowKit Go.Lib
theorem ReAt.kindOf {w : World} {h : Nat} {r : RN} {t : Re} (hr : ReAt w h r t) : r.k = t.kind := by
  cases h with
  | zero => exact hr.elim
  | succ h =>
    obtain ⟨k, s, mn, mx, kids⟩ := t
    exact hr.1.1
/-- the kind of a kid -/
def kdOf (kids : List Re) (i : Nat) : Int := ((kids[i]?).map Re.kind).getD 0
theorem kd_iff {kids : List Re} {n : Nat} {K : Int} (hn : n = kids.length) : (∀ i, i < n → kdOf kids i ≠ K) ↔ ∀ t ∈ kids, t.kind ≠ K := by
  subst hn
  constructor
  · intro h t ht
    obtain ⟨i, hi⟩ := List.getElem?_of_mem ht
    have := h i (List.getElem?_eq_some_iff.1 hi).1
    simpa [kdOf, hi] using this
  · intro h i hi
    have hx := List.getElem?_eq_getElem hi
    simp only [kdOf, hx, Option.map_some, Option.getD_some]
    exact h _ (List.mem_of_getElem? hx)
/-- a node and its kids, in plain words -/
theorem ReAt.node {w : World} {h : Nat} {r : RN} {t : Re} (hr : ReAt w (h + 1) r t) : ∃ (k : Int) (s0 s1 s2 s3 : Nat) (mn mx : Int) (a : Option Addr) (n cap : Nat) (kids : List Re) (rs : List RN), t = .mk k (s0, s1, s2, s3) mn mx kids ∧ r = ⟨k, (s0, s1, s2, s3), mn, mx, .slice a n cap⟩ ∧ n = rs.length ∧ n = kids.length ∧ n ≤ 9223372036854775807 ∧
    (I64 k ∧ I64 mn ∧ I64 mx) ∧ RowOf reC 8 w (.slice a n cap) rs ∧ (∀ (i : Nat) r', rs[i]? = some r' → ∃ t', kids[i]? = some t' ∧ ReAt w h r' t') ∧ (∀ (i : Nat) r', rs[i]? = some r' → r'.v.oneCell' = true) ∧ ∀ (i : Nat) r', rs[i]? = some r' → r'.k = kdOf kids i := by
  obtain ⟨rs0, h0, hl0, hk⟩ := hr.kids
  have hlen := h0.lenOk
  obtain ⟨a, cap, hv, _⟩ := h0.open reC_length
  obtain ⟨k, ⟨s0, s1, s2, s3⟩, mn, mx, kids⟩ := t
  obtain ⟨⟨e1, e2, e3, e4⟩, hi, _, _⟩ := hr
  obtain ⟨rk, rs', rmn, rmx, rv⟩ := r
  simp only at e1 e2 e3 e4 hv h0
  subst e1 e2 e3 e4 hv
  refine ⟨rk, s0, s1, s2, s3, rmn, rmx, a, rs0.length, cap, kids, rs0, rfl, rfl, rfl, hl0, hlen, hi, h0, hk, fun i r' hi => ?_, fun i r' hi => ?_⟩
  · obtain ⟨t', _, h'⟩ := hk i r' hi
    exact h'.one
  · obtain ⟨t', ht', h'⟩ := hk i r' hi
    have e : kids[i]? = some t' := ht'
    rw [h'.kindOf, kdOf, e]; rfl
theorem okN_bool {t : Re} {P : Prop} (h : okP t ↔ P) : Hid (okN t = true ↔ P) := Lib.hid (okN_iff.trans h)
theorem ref_one {h : Nat} {r : RN} {t : Re} {w : World} (hr : ReAt w (h + 1) r t) : Calls Tryd.prog 36 #[reV r] w fun e w' => e = .returned (.bool (okN t)) ∧ Below w.heap.size w w' := by
  obtain ⟨k, s0, s1, s2, s3, mn, mx, a, n, cap, kids, rs, rfl, rfl, hn, hnk, hl, _, hrow, _, hone, hkd⟩ := hr.node
  by_cases h1 : k = 1
  · subst h1
    exact one_1 _ _ _ _ _ _ _ _ (okN_bool (by simp [okP, hnk]))
  by_cases h4 : k = 4
  · subst h4
    exact one_4 _ _ _ _ _ _ _ _ _ _ _ (okN_bool (by simp [okP, hnk]))
  by_cases h23 : k = 2 ∨ k = 3
  · by_cases hF : ((s0 : Int) == 0 && ((s1 : Int) == 0 && ((s2 : Int) == 0 && (s3 : Int) == 0))) = true ∧ mn = 0 ∧ mx = 0 ∧ (2 ≤ (n : Int) ∨ (k = 2 ∧ (n : Int) = 0))
    · obtain ⟨hS, rfl, rfl, hF⟩ := hF
      have hok : okP (.mk k (s0, s1, s2, s3) 0 0 kids) ↔ ∀ i, i < n → kdOf kids i ≠ k := by
        rw [kd_iff hnk]
        simp only [okP, noS, hS]
        constructor
        · rintro (⟨h, _⟩ | ⟨_, _, _, _, _, h⟩ | ⟨h, _⟩)
          · exact absurd h h1
          · exact h
          · exact absurd h h4
        · intro h
          exact .inr (.inl ⟨h23, trivial, trivial, trivial, by rw [← hnk]; exact hF, h⟩)
      by_cases h2 : 2 ≤ n
      · rcases h23 with rfl | rfl
        · exact one_ok2 s0 s1 s2 s3 n rs _ (kdOf kids) w hrow hone hkd (Lib.hid hn.symm) h2 hS _ (okN_bool hok)
        · exact one_ok3 s0 s1 s2 s3 n rs _ (kdOf kids) w hrow hone hkd (Lib.hid hn.symm) h2 hS _ (okN_bool hok)
      · have e2 : k = 2 := by omega
        have e0 : n = 0 := by omega
        subst e2
        have : okN (.mk 2 (s0, s1, s2, s3) 0 0 kids) = true := okN_iff.2 (hok.2 fun i hi => by omega)
        rw [this]
        clear hok hrow hn hnk hl this hF h2
        subst e0
        exact one_empty s0 s1 s2 s3 a cap w hS
    · have : okN (.mk k (s0, s1, s2, s3) mn mx kids) = false := by
        rw [Bool.eq_false_iff]
        intro h
        have h := okN_iff.1 h
        simp only [okP, noS, ← hnk] at h
        rcases h with ⟨h, _⟩ | ⟨_, h3, h4, h5, h6, _⟩ | ⟨h, _⟩
        · exact h1 h
        · exact hF ⟨h3, h4, h5, h6⟩
        · exact h4 h
      rw [this]
      exact one_bad k h23 s0 s1 s2 s3 n mn mx a cap w hl hF
  · have : okN (.mk k (s0, s1, s2, s3) mn mx kids) = false := by
      rw [Bool.eq_false_iff]
      intro h
      have h := okN_iff.1 h
      simp only [okP] at h
      rcases h with ⟨h, _⟩ | ⟨h, _⟩ | ⟨h, _⟩
      · exact h1 h
      · exact h23 h
      · exact h4 h
    rw [this]
    exact one_0 k ⟨h1, fun h => h23 (.inl h), fun h => h23 (.inr h), h4⟩ _ _ _ _ w
section
variable {h : Nat} (IH : ∀ (r : RN) (t : Re) (w : World), ReAt w h r t → Calls Tryd.prog 23 #[reV r] w fun e w' => e = .returned (.bool (shp h t)) ∧ Below w.heap.size w w')
include IH
set_option maxRecDepth 100000 in
theorem every_next (r : RN) (t : Re) (w : World) (hr : ReAt w (h + 1) r t) :
    Calls Tryd.prog 23 #[reV r] w fun e w' => e = .returned (.bool (shp (h + 1) t)) ∧ Below w.heap.size w w' := by
  have HB : Hid (Below w.heap.size w (w.alloc (.cells (reC r).toArray 28))) := Lib.hid (re_box w r)
  have hcall1 := ref_one (hr.keep HB.out)
  obtain ⟨rs, hrow, hlen, hk⟩ := hr.kids
  have hl := hrow.lenOk
  obtain ⟨a, cap, hv, _, _, hc⟩ := hrow.open reC_length
  obtain ⟨rk, rset, rmn, rmx, rv⟩ := r
  simp only at hv
  subst hv
  have HN : Hid (shp (h + 1) t = true ↔ okN t = true ∧ ∀ i k, t.kids[i]? = some k → shp h k = true) := Lib.hid (by
    rw [shp, Bool.and_eq_true, List.all_eq_true]
    refine and_congr Iff.rfl ⟨fun h i k hi => h _ (List.mem_of_getElem? hi), fun h k hk => ?_⟩
    obtain ⟨i, hi⟩ := List.getElem?_of_mem hk
    exact h i k hi)
  obtain ⟨N, hN⟩ : ∃ N : Bool, shp (h + 1) t = N := ⟨_, rfl⟩
  rw [hN] at HN ⊢
  obtain ⟨o, ho⟩ : ∃ o : Bool, okN t = o := ⟨_, rfl⟩
  rw [ho] at HN hcall1
  have HL := Lib.hid hlen
  clear hN ho hlen hr
  simp only [reV, reC] at HB hcall1 ⊢
  go_enter Tryd.func23, Tryd.ntmps23
  repeat' (first | go_values | go_skip | go_guarded | go_step | go_upon)
  refine Calls.mono (hcall1) ?_
  rintro _ w0 ⟨rfl, hb0⟩
  dsimp only
  clear hcall1
  have H0 : Hid (Below w.heap.size w w0) := Lib.hid (HB.out.trans (hb0.mono HB.out.size))
  have hx7 : w0.cell? ⟨w.heap.size, 7, none⟩ = some (.slice a rs.length cap) := by
    rw [hb0.cell (show w.heap.size < _ by simp), cell_of_row _ _ _ _ _ _ (Go.heap_alloc_new _ _)]; rfl
  clear hb0 HB
  cases o with
  | false =>
    clear IH hk hc
    repeat' (first | go_values | go_skip | go_guarded | go_step | go_upon)
    go_ret
    refine ⟨ret_bool ?_ HN.out, H0.out⟩
    simp
  | true =>
  repeat' (first | go_values | go_skip | go_guarded | go_step | go_upon)
  go_loopw [11] (fun s11 w' => ∃ k : Nat, s11 = .int .i64 k ∧ k ≤ rs.length ∧ Hid (∀ i t', i < k → t.kids[i]? = some t' → shp h t' = true) ∧ Hid (Below w.heap.size w w')) (fun s11 _ => rs.length - (intOf s11).toNat)
  case atStart => exact ⟨0, rfl, Nat.zero_le _, Lib.hid (fun i t' hi => absurd hi (Nat.not_lt_zero _)), H0⟩
  case round =>
    obtain ⟨k, rfl, hkl, HC, HW⟩ := hrel
    by_cases hlt : k < rs.length
    · have hlt' : (k : Int) < rs.length := by omega
      rcases hc with hc | ⟨b, off, rfl, hb, hc⟩
      · omega
      obtain ⟨r', hr'⟩ : ∃ r', rs[k]? = some r' := ⟨_, List.getElem?_eq_getElem hlt⟩
      obtain ⟨t', ht', hrt⟩ := hk k r' hr'
      obtain ⟨c0, c1, c2, c3, c4, c5, c6, c7⟩ := (row_load hc hr').keep HW.out hb
      have HBr : Hid (Below wr.heap.size wr (wr.alloc (.cells (reC r').toArray 28))) := Lib.hid (re_box wr r')
      have hcall := IH r' t' _ (hrt.keep (HW.out.trans (HBr.out.mono HW.out.size)))
      obtain ⟨x, hx⟩ : ∃ x : Bool, shp h t' = x := ⟨_, rfl⟩
      have Hx := Lib.hid hx
      rw [hx] at hcall
      have hone := hrt.one
      have Ht := Lib.hid ht'
      have HE : ∀ w1, Below (wr.alloc (.cells (reC r').toArray 28)).heap.size (wr.alloc (.cells (reC r').toArray 28)) w1 → Hid (Below w.heap.size w w1) := fun w1 hb1 => Lib.hid (HW.out.trans ((HBr.out.trans (hb1.mono HBr.out.size)).mono HW.out.size))
      clear IH hk hc ht' hx HBr
      simp only [reV, reC] at hcall HE
      have HE' := Lib.hid HE
      clear HE
      repeat' (first | (refine store_re (r := r') hone _ _ rfl rfl rfl rfl ?_; simp only [reC]) | go_values | go_skip | go_guarded | go_step | go_upon)
      refine Calls.mono (hcall) ?_
      rintro _ w1 ⟨rfl, hb1⟩
      dsimp only
      have HE := HE'.out w1 hb1
      clear hcall HE' hb1
      cases x with
      | false =>
        repeat' (first | go_values | go_skip | go_guarded | go_step | go_upon)
        go_ret
        refine ⟨ret_bool ?_ HN.out, HE.out⟩
        simp only [Bool.false_eq_true, false_iff, true_and]
        intro hh
        have := hh _ _ Ht.out
        rw [Hx.out] at this; cases this
      | true =>
        repeat' (first | go_values | go_skip | go_guarded | go_step | go_upon)
        go_roundw
        · refine ⟨k + 1, by go_num, by omega, Lib.hid (fun i t'' hi hh => ?_), HE⟩
          rcases Nat.lt_or_ge i k with h | h
          · exact HC.out i t'' h hh
          · rw [show i = k by omega, Ht.out] at hh
            cases hh
            exact Hx.out
        · simp [intOf]; omega
    · have hlt' : ¬ (k : Int) < rs.length := by omega
      have Hk : Hid (k = rs.length) := Lib.hid (by omega)
      clear IH hk hc
      repeat' (first | go_values | go_skip | go_guarded | go_step | go_upon)
      go_ret
      refine ⟨ret_bool ?_ HN.out, HW.out⟩
      simp only [true_iff, true_and]
      intro i t' hi
      refine HC.out i t' ?_ hi
      rw [Hk.out, HL.out]
      exact (List.getElem?_eq_some_iff.1 hi).1
end
/-- whether a tree may be -/
theorem ref_every : ∀ (h : Nat) (r : RN) (t : Re) (w : World), ReAt w h r t → Calls Tryd.prog 23 #[reV r] w fun e w' => e = .returned (.bool (shp h t)) ∧ Below w.heap.size w w'
  | 0, _, _, _, hr => hr.elim
  | _ + 1, r, t, w, hr => every_next (ref_every _) r t w hr
end Go.Proofs.YtnbfifmnigeolaaDoor
