/- A tree that came in, opened. No conditions. -/
import Derived.Test.YtnbfifmnigeolaaDoorReSpec
namespace Go.Proofs.YtnbfifmnigeolaaDoor
open Go.RowKit Go.Deep
theorem cells_re : Tryd.prog.cellsOf 28 = 8 := by kernel_rfl
theorem cells_int : Tryd.prog.cellsOf 3 = 1 := by kernel_rfl
theorem cells_set : Tryd.prog.cellsOf 25 = 4 := by kernel_rfl
theorem cells_res : Tryd.prog.cellsOf 26 = 1 := by kernel_rfl
theorem bytes_re : Tryd.prog.bytesOf 28 = 80 := by kernel_rfl
theorem flat_set : flat Tryd.prog 20 25 = some [.int .u64, .int .u64, .int .u64, .int .u64] := by kernel_rfl
theorem list8 {α : Type} {l : List α} (h : l.length = 8) : ∃ a b c d e f g i, l = [a, b, c, d, e, f, g, i] := by
  match l, h with
  | [a, b, c, d, e, f, g, i], _ => exact ⟨a, b, c, d, e, f, g, i, rfl⟩
section
variable {H : Type} {enc : TypeId × Value → H} {w : World} {spare : Nat → Bool} {held : Bool}
theorem re_open : ∀ (fuel : Nat) (cs : List Value) (x : DataW H × List MemPlace), DataW.trod enc Tryd.prog w 0 spare held fuel 28 cs = some x → Light Tryd.prog 28 x.1 → ∃ r t, cs = reC r ∧ ReAt w fuel r t := by
  intro fuel
  induction fuel using Nat.strongRecOn with
  | ind fuel IH =>
  intro cs x hx hw
  obtain ⟨xs, n, rfl, rfl, hl, hxl, hf⟩ := DataW.trod_struct Tryd.underlying28 hx
  rw [cells_re] at hl
  obtain ⟨c0, c1, c2, c3, c4, c5, c6, c7, rfl⟩ := list8 hl
  have hxl5 : xs.length = 5 := hxl
  have hfield : ∀ (i : Nat) f, #[(⟨"Kind", 3, 0, false, "", "", 0⟩ : Field), ⟨"Set", 25, 1, false, "", "", 8⟩, ⟨"Min", 3, 5, false, "", "", 40⟩, ⟨"Max", 3, 6, false, "", "", 48⟩, ⟨"Kids", 26, 7, false, "", "", 56⟩][i]? = some f →
      ∃ y, DataW.trod enc Tryd.prog w 0 spare held n f.type (([c0, c1, c2, c3, c4, c5, c6, c7].drop f.offset).take (Tryd.prog.cellsOf f.type)) = some y ∧ Light Tryd.prog f.type y.1 := fun i f hi => by
    have hil : i < 5 := by have := (Array.getElem?_eq_some_iff.1 hi).1; exact this
    have h1 := hf i f hi
    have h2 := List.getElem?_eq_getElem (l := xs) (i := i) (by omega)
    exact ⟨_, h1.trans h2, hw.field Tryd.underlying28 hi (by rw [List.getElem?_map, h2]; rfl)⟩
  obtain ⟨y0, h0, l0⟩ := hfield 0 ⟨"Kind", 3, 0, false, "", "", 0⟩ rfl
  obtain ⟨y1, h1, l1⟩ := hfield 1 ⟨"Set", 25, 1, false, "", "", 8⟩ rfl
  obtain ⟨y2, h2, l2⟩ := hfield 2 ⟨"Min", 3, 5, false, "", "", 40⟩ rfl
  obtain ⟨y3, h3, l3⟩ := hfield 3 ⟨"Max", 3, 6, false, "", "", 48⟩ rfl
  obtain ⟨y4, h4, l4⟩ := hfield 4 ⟨"Kids", 26, 7, false, "", "", 56⟩ rfl
  dsimp only at h0 h1 h2 h3 h4 l0 l1 l2 l3 l4
  rw [cells_int] at h0 h2 h3
  rw [cells_set] at h1
  rw [cells_res] at h4
  simp only [List.drop_zero, List.drop_succ_cons, List.take_succ_cons, List.take_zero] at h0 h1 h2 h3 h4
  obtain ⟨k, e0, -, w0⟩ := DataW.trod_int Tryd.underlying3 h0
  obtain ⟨mn, e2, -, w2⟩ := DataW.trod_int Tryd.underlying3 h2
  obtain ⟨mx, e3, -, w3⟩ := DataW.trod_int Tryd.underlying3 h3
  have hs := flat_open 20 25 _ flat_set _ _ _ h1 l1
  obtain ⟨s0, es0, ws0⟩ := hs.2 0 _ _ rfl rfl
  obtain ⟨s1, es1, ws1⟩ := hs.2 1 _ _ rfl rfl
  obtain ⟨s2, es2, ws2⟩ := hs.2 2 _ _ rfl rfl
  obtain ⟨s3, es3, ws3⟩ := hs.2 3 _ _ rfl rfl
  obtain ⟨m0, rfl, -⟩ := nat_u64 ws0
  obtain ⟨m1, rfl, -⟩ := nat_u64 ws1
  obtain ⟨m2, rfl, -⟩ := nat_u64 ws2
  obtain ⟨m3, rfl, -⟩ := nat_u64 ws3
  obtain ⟨m, nk, a, cap, L, rfl, e4, hn1, hn2, hby, hL, hcell, hrd⟩ := slice_cells Tryd.underlying26 cells_re (by decide) h4 l4
  rw [bytes_re] at hby
  obtain rfl := (List.cons.inj e0).1
  obtain rfl := (List.cons.inj e2).1
  obtain rfl := (List.cons.inj e3).1
  obtain rfl := (List.cons.inj e4).1
  subst es0 es1 es2 es3
  -- the kids
  have kid : ∀ i, i < nk → ∃ p : RN × Re, L[i]? = some (reC p.1) ∧ ReAt w m p.1 p.2 := fun i hi => by
    have hc := List.getElem?_eq_getElem (l := L) (i := i) (by omega)
    obtain ⟨y, hy, ly⟩ := hrd i _ hc
    obtain ⟨r, t, e, hr⟩ := IH m (by omega) _ _ hy ly
    exact ⟨(r, t), by rw [hc, e], hr⟩
  obtain ⟨ps, hps, hq⟩ := choose_list nk kid
  refine ⟨⟨k, (m0, m1, m2, m3), mn, mx, .slice a nk cap⟩, .mk k (m0, m1, m2, m3) mn mx (ps.map (·.2)), rfl, ⟨rfl, rfl, rfl, rfl⟩, ⟨int_i64 w0, int_i64 w2, int_i64 w3⟩, by simp; omega, ps.map (·.1), ⟨a, cap, by simp [hps], by simp [hps, hn1], hn2, ?_, ?_⟩, by simp, ?_⟩
  · rw [flat_len (fun r => reC_length r), List.length_map]
  · rcases hcell with h | ⟨b, off, rfl, hb, hcell⟩
    · exact .inl (by simp [hps, h])
    · refine .inr ⟨b, off, rfl, hb, fun i hi => ?_⟩
      rw [List.length_map, hps] at hi
      have hq' : i / 8 < nk := Nat.div_lt_of_lt_mul (by omega)
      have hp := List.getElem?_eq_getElem (l := ps) (i := i / 8) (by omega)
      obtain ⟨h1, _⟩ := hq _ _ hp
      have h2 := (hcell _ _ h1).2 (i % 8) (by omega)
      have h3 := flatMap_at (f := reC) (sz := 8) reC_length (ps.map (·.1)) (i / 8) (ps[i / 8]'(by omega)).1 (i % 8) (by rw [List.getElem?_map, hp]; rfl) (by omega)
      rw [show i / 8 * 8 + i % 8 = i by omega] at h2 h3
      rw [h2, h3]
  · intro i r' t hr ht
    rw [List.getElem?_map, Option.map_eq_some_iff] at hr ht
    obtain ⟨p, hp, rfl⟩ := hr
    obtain ⟨p', hp', rfl⟩ := ht
    rw [hp] at hp'
    cases hp'
    exact ((hq i p hp).2).up
end
end Go.Proofs.YtnbfifmnigeolaaDoor
