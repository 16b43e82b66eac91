/- Walk: RegexRights. No conditions. -/
import Derived.Test.YtkdbdpcdggildaaDoorReRight
import Derived.Test.YtkdbdpcdggildaaDoorReOpen
namespace Go.Proofs.YtkdbdpcdggildaaDoor
open Go.RowKit Go.Lib
set_option maxRecDepth 100000 in
set_option maxHeartbeats 1000000 in
theorem ref_Right (h : Nat) (r : RN) (t : Re) (w : World) (hr : ReAt w h r t) : Calls Tryd.prog 11 #[reV r] w fun e w' => e = .returned (.int .i64 (rgt h t)) ∧ Below w.heap.size w w' := by
  have HB := Lib.hid (re_box w r)
  have HD : Calls Tryd.prog 25 #[reV r, .int .i64 31] _ _ := ref_deep h r t 31 _ (by decide) (by decide) (hr.keep HB.out)
  have HC : Hid (∀ W, Below w.heap.size w W → Calls Tryd.prog 26 #[reV r, .int .i64 513] W fun e w' => e = .returned (.int .i64 (min (cnt h t) 513 : Nat)) ∧ Below W.heap.size W w') := Lib.hid (fun W hW => ref_nodes h r t 513 W (by decide) (by decide) (hr.keep hW))
  have HS : Hid (∀ W, Below w.heap.size w W → Calls Tryd.prog 27 #[reV r] W fun e w' => e = .returned (.bool (shp h t)) ∧ Below W.heap.size W w') := Lib.hid (fun W hW => ref_every h r t W (hr.keep hW))
  have hone := hr.one
  have HR := Lib.hid (@rgt_of h t)
  obtain ⟨R, hR⟩ : ∃ R, rgt h t = R := ⟨_, rfl⟩
  rw [hR] at HR ⊢
  obtain ⟨d, hd⟩ : ∃ d : Nat, min (dep h t) 31 = d := ⟨_, rfl⟩
  obtain ⟨c, hc⟩ : ∃ c : Nat, min (cnt h t) 513 = c := ⟨_, rfl⟩
  obtain ⟨x, hx⟩ : ∃ x, shp h t = x := ⟨_, rfl⟩
  rw [hd] at HD
  rw [hc] at HC
  rw [hx] at HS HR
  have Hd := Lib.hid hd
  have Hc := Lib.hid hc
  clear hd hR hc hx
  have cells : ∀ W, Below (w.alloc (.cells (reC r).toArray 28)).heap.size (w.alloc (.cells (reC r).toArray 28)) W → Cells8 W w.heap.size 0 r := fun W hW => by
    have hlt : w.heap.size < (w.alloc (.cells (reC r).toArray 28)).heap.size := by simp
    have hg := Go.heap_alloc_new w (.cells (reC r).toArray 28)
    refine ⟨?_, ?_, ?_, ?_, ?_, ?_, ?_, ?_⟩ <;> (rw [hW.cell hlt, cell_of_row _ _ _ _ _ _ hg]; rfl)
  have HX := Lib.hid cells
  clear cells
  simp only [reV, reC] at HD HB HC HS HX ⊢
  go_enter Tryd.func11, Tryd.ntmps11
  repeat' (first | go_values | go_skip | go_guarded | go_step | go_upon)
  refine Calls.mono (HD) ?_
  rintro _ w1 ⟨rfl, hb1⟩
  dsimp only
  have H1 := Lib.hid (HB.out.trans (hb1.mono HB.out.size))
  have Hb1 := Lib.hid hb1
  obtain ⟨c0, c1, c2, c3, c4, c5, c6, c7⟩ := HX.out w1 hb1
  clear hb1 HB HD
  by_cases hd5 : 30 < d
  · have hd5' : (30 : Int) < d := by omega
    have Hd5 := Lib.hid hd5
    clear HX hd5
    repeat' (first | go_values | go_skip | go_guarded | go_step | go_upon)
    go_ret
    refine ⟨?_, H1.out⟩
    have := HR.out 2 (fun _ => rfl) (fun _ _ => rfl) (fun h => absurd (by have := Hd.out; have := Hd5.out; omega) h)
    rw [this]; rfl
  have hd5' : ¬ (30 : Int) < d := by omega
  have HC1 := Lib.hid (HC.out w1 H1.out)
  have Hnd : Hid (¬ 30 < dep h t) := Lib.hid (by have := Hd.out; omega)
  clear HC
  repeat' (first | go_values | go_skip | go_guarded | go_step | go_upon)
  refine Calls.mono (HC1.out) ?_
  rintro _ w2 ⟨rfl, hb2⟩
  dsimp only
  have H2 := Lib.hid (H1.out.trans (hb2.mono H1.out.size))
  obtain ⟨d0, d1, d2, d3, d4, d5, d6, d7⟩ := HX.out w2 (Hb1.out.trans (hb2.mono Hb1.out.size))
  clear hb2 HX HC1 Hb1 c0 c1 c2 c3 c4 c5 c6 c7
  by_cases hc5 : 512 < c
  · have hc5' : (512 : Int) < c := by omega
    have H5 := Lib.hid hc5
    clear hc5 HS
    repeat' (first | go_values | go_skip | go_guarded | go_step | go_upon)
    go_ret
    refine ⟨?_, H2.out⟩
    have := HR.out 2 (fun _ => rfl) (fun _ _ => rfl) (fun _ h => absurd (by have := Hc.out; have := H5.out; omega) h)
    rw [this]; rfl
  · have hc5' : ¬ (512 : Int) < c := by omega
    have H5 := Lib.hid hc5
    have HS2 := Lib.hid (HS.out w2 H2.out)
    clear hc5 HS
    repeat' (first | go_values | go_skip | go_guarded | go_step | go_upon)
    refine Calls.mono (HS2.out) ?_
    rintro _ w3 ⟨rfl, hb3⟩
    dsimp only
    clear HS2
    have HE := HR.out (if x then 0 else 61) (fun h => absurd h Hnd.out) (fun _ h => absurd h (by have := Hc.out; have := H5.out; omega)) (fun _ _ => rfl)
    cases x with
    | true =>
      repeat' (first | go_values | go_skip | go_guarded | go_step | go_upon)
      go_ret
      exact ⟨by rw [HE]; rfl, H2.out.trans (hb3.mono H2.out.size)⟩
    | false =>
      repeat' (first | go_values | go_skip | go_guarded | go_step | go_upon)
      go_ret
      exact ⟨by rw [HE]; rfl, H2.out.trans (hb3.mono H2.out.size)⟩
end Go.Proofs.YtkdbdpcdggildaaDoor
