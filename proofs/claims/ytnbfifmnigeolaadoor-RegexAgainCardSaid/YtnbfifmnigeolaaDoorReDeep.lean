/- Walk: is a tree deeper (regex.deep)? Conditions: the bound is at most 1000. -/
import Derived.Test.YtnbfifmnigeolaaDoorReFunc
import Derived.Test.YtnbfifmnigeolaaDoorReLaw
namespace Go.Proofs.YtnbfifmnigeolaaDoor
open Go.RowKit Go.Lib
theorem ReAt.kids {w : World} {h : Nat} {r : RN} {t : Re} (hr : ReAt w (h + 1) r t) : ∃ rs : List RN, RowOf reC 8 w r.v rs ∧ rs.length = t.kids.length ∧ ∀ (i : Nat) (r' : RN), rs[i]? = some r' → ∃ t', t.kids[i]? = some t' ∧ ReAt w h r' t' := by
  obtain ⟨k, s, mn, mx, kids⟩ := t
  obtain ⟨_, _, _, rs, h4, h5, h6⟩ := hr
  refine ⟨rs, h4, h5, fun i r' hi => ?_⟩
  have : i < kids.length := by rw [← h5]; exact (List.getElem?_eq_some_iff.1 hi).1
  exact ⟨_, List.getElem?_eq_getElem this, h6 i r' _ hi (List.getElem?_eq_getElem this)⟩
theorem enters_deep1 : ∀ args w, (callFunc 32 args).run Tryd.prog w = .ok (.enter 32 args) w := enters_of Tryd.func32 (by kernel_rfl) rfl
section
variable {h : Nat} (IH : ∀ (r : RN) (t : Re) (m : Nat) (w : World), m ≤ 1000 → ReAt w h r t → Calls Tryd.prog 17 #[reV r, .int .i64 m] w fun e w' => e = .returned (.bool (decide (m < dep h t))) ∧ Below w.heap.size w w')
include IH
set_option maxRecDepth 100000 in
theorem deep_1 (r : RN) (t : Re) (m g : Nat) (w : World) (hm : m < 1000) (hr : ReAt w h r t) (hg : g < w.heap.size) (hc : w.cell? ⟨g, 0, none⟩ = some (.int .i64 ((m : Int) + 1))) :
    Calls Tryd.prog 32 (#[reV r] ++ #[.pointer (some ⟨g, 0, none⟩)]) w fun e w' => e = .returned (.bool (decide (m < dep h t))) ∧ Below w.heap.size w w' := by
  have hcall := IH r t m (w.alloc (.cells (reC r).toArray 28)) (by omega) (hr.keep ((Below.refl _ _).alloc (Nat.le_refl _) _))
  have HB : Hid (Below w.heap.size w (w.alloc (.cells (reC r).toArray 28))) := Lib.hid ((Below.refl _ _).alloc (Nat.le_refl _) _)
  clear IH
  have hc1 : (w.alloc (.cells (reC r).toArray 28)).cell? ⟨g, 0, none⟩ = some (.int .i64 ((m : Int) + 1)) := by rw [HB.out.cell hg]; exact hc
  clear hc
  simp only [reV, reC] at hcall hc1 HB ⊢
  show Calls Tryd.prog 32 #[_, _] w _
  go_enter Tryd.func32, Tryd.ntmps32
  repeat' (first | go_values | go_skip | go_guarded | go_step | go_upon)
  refine Calls.mono (hcall) ?_
  rintro _ w1 ⟨rfl, hb1⟩
  dsimp only
  clear hcall
  repeat' (first | go_values | go_skip | go_guarded | go_step | go_upon)
  go_ret
  exact ⟨rfl, HB.out.trans (hb1.mono HB.out.size)⟩
set_option maxRecDepth 100000 in
theorem deep_next (r : RN) (t : Re) (m : Nat) (w : World) (hm : m ≤ 1000) (hr : ReAt w (h + 1) r t) :
    Calls Tryd.prog 17 #[reV r, .int .i64 m] w fun e w' => e = .returned (.bool (decide (m < dep (h + 1) t))) ∧ Below w.heap.size w w' := by
  have HB : Hid (Below w.heap.size w ((w.alloc (.cells (reC r).toArray 28)).alloc (.cells #[.int .i64 (m : Int)] 3))) := Lib.hid (((Below.refl _ _).alloc (Nat.le_refl _) _).alloc (by simp) _)
  by_cases h0 : m = 0
  · subst h0
    have e : decide (0 < dep (h + 1) t) = true := by simp [dep_pos]
    rw [e]
    clear IH hr e
    simp only [reV, reC] at HB ⊢
    go_enter Tryd.func17, Tryd.ntmps17
    repeat' (first | go_values | go_skip | go_guarded | go_step | go_upon)
    go_ret
    exact ⟨rfl, HB.out⟩
  · obtain ⟨n, rfl⟩ : ∃ n, m = n + 1 := ⟨m - 1, by omega⟩
    rw [dep_lt]
    obtain ⟨rs, hrow, hlen, hk⟩ := hr.kids
    have hcon := contains_re (fun i => (t.kids[i]?.map fun k => decide (n < dep h k)).getD false) 32 #[.pointer (some ⟨w.heap.size + 1, 0, none⟩)] enters_deep1 rs r.v _ (hrow.keep HB.out) (fun W hW i r' hi => by
      obtain ⟨t', ht', hr'⟩ := hk i r' hi
      simp only [ht', Option.map_some, Option.getD_some]
      have hg := Go.heap_alloc_new (w.alloc (.cells (reC r).toArray 28)) (.cells #[.int .i64 ((n + 1 : Nat) : Int)] 3)
      have hs : (w.alloc (.cells (reC r).toArray 28)).heap.size = w.heap.size + 1 := by simp
      rw [hs] at hg
      have hlt : w.heap.size + 1 < ((w.alloc (.cells (reC r).toArray 28)).alloc (.cells #[.int .i64 ((n + 1 : Nat) : Int)] 3)).heap.size := by simp
      refine deep_1 IH r' t' n (w.heap.size + 1) W (by omega) (hr'.keep (HB.out.trans (hW.mono HB.out.size))) (Nat.lt_of_lt_of_le hlt hW.size) ?_
      rw [hW.cell hlt, cell_of_row _ _ _ _ _ _ hg]
      rfl)
    have e : (List.range rs.length).any (fun i => (t.kids[i]?.map fun k => decide (n < dep h k)).getD false) = t.kids.any fun k => decide (n < dep h k) := by
      rw [hlen]
      exact range_any _ _ _ fun i a hi => by simp [hi]
    rw [e] at hcon
    obtain ⟨B, hB⟩ : ∃ B, (t.kids.any fun k => decide (n < dep h k)) = B := ⟨_, rfl⟩
    rw [hB] at hcon ⊢
    clear IH hk hrow hlen hB e h0
    have ec : ((n + 1 : Nat) : Int) = (n : Int) + 1 := by omega
    rw [ec] at hcon HB ⊢
    clear ec
    have hne : ((n : Int) + 1 == 0) = false := beq_false_of_ne (by omega)
    simp only [reV, reC] at hcon HB ⊢
    go_enter Tryd.func17, Tryd.ntmps17
    repeat' (first | go_values | go_skip | go_guarded | go_step | go_upon)
    refine Calls.mono (hcon) ?_
    rintro _ w1 ⟨rfl, hb1⟩
    dsimp only
    clear hcon
    repeat' (first | go_values | go_skip | go_guarded | go_step | go_upon)
    go_ret
    exact ⟨rfl, HB.out.trans (hb1.mono HB.out.size)⟩
end
/-- is a tree deeper? -/
theorem regex_deep : ∀ (h : Nat) (r : RN) (t : Re) (m : Nat) (w : World), m ≤ 1000 → ReAt w h r t → Calls Tryd.prog 17 #[reV r, .int .i64 m] w fun e w' => e = .returned (.bool (decide (m < dep h t))) ∧ Below w.heap.size w w'
  | 0, _, _, _, _, _, hr => hr.elim
  | _ + 1, r, t, m, w, hm, hr => deep_next (regex_deep _) r t m w hm hr
end Go.Proofs.YtnbfifmnigeolaaDoor
