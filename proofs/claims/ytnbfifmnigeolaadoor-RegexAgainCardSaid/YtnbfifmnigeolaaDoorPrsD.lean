/- Walk: a class (class). Conditions: a text of at most 512 bytes; a place within it. Walks: alternatives (alt). Conditions: a text of at most 512 bytes; a place within it. Walks: one behind the other (cat). Conditions: a text of at most 512 bytes; a place within it. -/
import Derived.Test.YtnbfifmnigeolaaDoorPrsC
import Derived.Test.YtnbfifmnigeolaaDoorPrsAB
namespace Go.Proofs.YtnbfifmnigeolaaDoor
open Go.RowKit Go.Lib
theorem genUw {P : Program} {md : Region.Mode} {ops : Array Oper} {C : World → Prop} {u : Nat} {Q : Exit → Act → World → Prop} {fuel : Nat} {listed : Array Bool} {a : Act} {w : World} (F : World → Prop) (hF : F w) (h : ∀ w', F w' → wpAnyU P md ops C u Q fuel listed a w') : wpAnyU P md ops C u Q fuel listed a w := h w hF
theorem escR_lt {s : List UInt8} {i a j : Nat} (h : escR s i = .ok a j) : a < 256 := by
  unfold escR at h
  split at h
  · split at h
    · simp only [PR.ok.injEq] at h; omega
    split at h
    · simp only [PR.ok.injEq] at h; omega
    split at h
    · simp only [PR.ok.injEq] at h; omega
    split at h
    · cases hx : hexR s (i + 1) with
      | ok b k =>
        rw [hx] at h
        simp only [PR.bind] at h
        cases hy : hexR s k with
        | ok c l =>
          rw [hy] at h
          simp only [PR.ok.injEq] at h
          have := hexR_lt hx
          have := hexR_lt hy
          omega
        | bad e l => rw [hy] at h; cases h
        | out => rw [hy] at h; cases h
      | bad e k => rw [hx] at h; cases h
      | out => rw [hx] at h; cases h
    split at h
    · simp only [PR.ok.injEq] at h; have := bt_lt s i; omega
    · cases h
  · cases h
theorem pntR_lt {s : List UInt8} {i a j : Nat} (h : pntR s i = .ok a j) : a < 256 := by
  unfold pntR at h
  split at h
  · exact escR_lt h
  split at h
  · simp only [PR.ok.injEq] at h; have := bt_lt s i; omega
  · cases h
/-- what a step that makes a tree tells -/
def TPost (g : Nat) (S : ByteArray) (d : Nat) (w : World) (x : PR Re) (e : Ending) (w' : World) : Prop :=
  match x with
  | .ok t j => (∃ r, e = .returned (reV r) ∧ ReX w.heap.size g w' r t) ∧ PsAt w' g S j d ∧ Else g w w'
  | .bad e0 j => e = stopE e0 j ∧ Else g w w'
  | .out => False
theorem TPost.okI {g : Nat} {S : ByteArray} {d : Nat} {w : World} {x : PR Re} {e : Ending} {w' : World} {t : Re} {j : Nat} (hx : x = .ok t j) (h : (∃ r, e = .returned (reV r) ∧ ReX w.heap.size g w' r t) ∧ PsAt w' g S j d ∧ Else g w w') : TPost g S d w x e w' := by subst hx; exact h
theorem TPost.badI {g : Nat} {S : ByteArray} {d : Nat} {w : World} {x : PR Re} {e : Ending} {w' : World} {a j : Nat} (hx : x = .bad a j) (h : e = stopE a j ∧ Else g w w') : TPost g S d w x e w' := by subst hx; exact h
/-- take, whichever it is -/
theorem ps_take (g : Nat) (S : ByteArray) (i d c : Nat) (hi : i ≤ 512) (w : World) (h : PsAt w g S i d) :
    Calls Tryd.prog 29 #[.pointer (some ⟨g, 0, none⟩), .int .u8 (c : Int)] w fun e w' => e = .returned (.bool (decide (isC S.data.toList i c))) ∧ PsAt w' g S (if isC S.data.toList i c then i + 1 else i) d ∧ Else g w w' := by
  by_cases hc : isC S.data.toList i c
  · rw [decide_eq_true hc, if_pos hc]; exact ps_take_y g S i d c hi w h hc
  · rw [decide_eq_false hc, if_neg hc]; exact (ps_take_n g S i d c w h hc).mono fun _ _ ⟨he, hb⟩ => ⟨he, h.keep hb, Else.of_below hb⟩
/-- the boxes of 'class' -/
structure CX (w : World) (Z g b4 : Nat) (S : ByteArray) (d : Nat) (a : Nat → Bool) (i : Nat) (W : World) : Prop where
  s4 : SetAt W b4 a
  bx : ReBox W Z reZ
  ps : PsAt W g S i d
  els : Else g w W
  lt : g < Z ∧ Z < b4
  sz : w.heap.size = Z
section
variable {w W W' : World} {Z g b4 : Nat} {S : ByteArray} {d i : Nat} {a : Nat → Bool}
theorem CX.keep (h : CX w Z g b4 S d a i W) (hb : Below W.heap.size W W') : CX w Z g b4 S d a i W' := ⟨h.s4.keep hb, h.bx.keep hb, h.ps.keep hb, h.els.trans (Else.of_below hb), h.lt, h.sz⟩
theorem CX.go {j : Nat} (h : CX w Z g b4 S d a i W) (hp : PsAt W' g S j d) (he : Else g W W') : CX w Z g b4 S d a j W' :=
  ⟨he.row h.s4 (by have := h.lt; omega), he.row h.bx (by have := h.lt; omega), hp, h.els.trans he, h.lt, h.sz⟩
theorem CX.put (h : CX w Z g b4 S d a i W) (q : Nat → Bool) : CX w Z g b4 S d q i (W.setRow b4 (sc q)) :=
  ⟨h.s4.set, h.bx.other (by have := h.lt; omega), h.ps.row (by have := h.lt; omega), h.els.rowNew (by have := h.lt; have := h.sz; omega) _, h.lt, h.sz⟩
theorem CX.setI (h : CX w Z g b4 S d a i W) (j : Nat) : CX w Z g b4 S d a j (W.setCell ⟨g, 1, none⟩ (.int .i64 (j : Int))) := h.go (h.ps.set1 j) ((Else.refl g W).setCell _ _)
end
set_option maxRecDepth 100000 in
set_option maxHeartbeats 8000000 in
theorem ps_class (g : Nat) (S : ByteArray) (f i d : Nat) (hS : S.size ≤ 512) (hi : i ≤ S.size) (hf : clsR S.data.toList f i ≠ .out) (w : World) (h : PsAt w g S i d) :
    Calls Tryd.prog 72 #[.pointer (some ⟨g, 0, none⟩)] w (TPost g S d w (clsR S.data.toList f i)) := by
  obtain ⟨nt, hnt⟩ : ∃ nt, decide (isC S.data.toList i 94) = nt := ⟨_, rfl⟩
  obtain ⟨i0, hi0⟩ : ∃ i0, (if isC S.data.toList i 94 then i + 1 else i) = i0 := ⟨_, rfl⟩
  have hi0b : i0 ≤ S.size := by
    rw [← hi0]
    split
    · rename_i hc; have := hc.1; rw [ba_len] at this; omega
    · exact hi
  obtain ⟨X0, hX0⟩ : ∃ X0, clsL S.data.toList f (fun _ => false) true i0 = X0 := ⟨_, rfl⟩
  have hX : clsR S.data.toList f i = X0.bind fun a j => .ok (setT (if nt = true then notB a else a)) (j + 1) := by
    unfold clsR
    rw [← hX0, ← hi0, ← hnt]
    by_cases hc : isC S.data.toList i 94
    · rw [if_pos hc, if_pos hc, decide_eq_true hc]; rfl
    · rw [if_neg hc, if_neg hc, decide_eq_false hc]; rfl
  have hX0n : X0 ≠ .out := fun e => hf (by rw [hX, e]; rfl)
  rw [hX]
  have hcall := fun (W : World) (hp : PsAt W g S i d) => ps_take g S i d 94 (by omega) W hp
  simp only [hnt, hi0] at hcall
  have HH := Lib.hid h
  have HA : Hid (ReBox (w.alloc (.cells #[.int .i64 0, .int .u64 0, .int .u64 0, .int .u64 0, .int .u64 0, .int .i64 0, .int .i64 0, .slice none 0 0] 28)) w.heap.size reZ ∧ Below w.heap.size w (w.alloc (.cells #[.int .i64 0, .int .u64 0, .int .u64 0, .int .u64 0, .int .u64 0, .int .i64 0, .int .i64 0, .slice none 0 0] 28)) ∧ PsAt (w.alloc (.cells #[.int .i64 0, .int .u64 0, .int .u64 0, .int .u64 0, .int .u64 0, .int .i64 0, .int .i64 0, .slice none 0 0] 28)) g S i d ∧ g < w.heap.size) :=
    Lib.hid ⟨ReBox.zero w, (Below.refl _ _).alloc (Nat.le_refl _) _, h.keep ((Below.refl _ _).alloc (Nat.le_refl _) _), h.lt⟩
  have HX0 := Lib.hid hX0
  have HXn := Lib.hid hX0n
  have HS := Lib.hid hS
  clear h hX hnt hi0 hX0 hX0n hf hi hS
  go_enter Tryd.func72, Tryd.ntmps72
  repeat' (go_not_at_region 1; first | go_values | go_skip | go_guarded | go_step | go_upon)
  generalize hZ : w.heap.size = Z at HA ⊢
  refine gen_wd (fun W => ReBox W Z reZ ∧ Below Z w W ∧ PsAt W g S i d ∧ g < Z) HA.out ?_
  clear HA
  rintro w1 ⟨hr, hb, hp, hgz⟩
  have HR := Lib.hid hr
  have HE := Lib.hid (Else.of_below (g := g) (w := w) (w' := w1) (by rw [hZ]; exact hb))
  have hc := hcall w1 hp
  have HZ := Lib.hid (And.intro hgz hZ)
  clear hr hb hp hgz hZ hcall HH
  repeat' (first | go_values | go_skip | go_guarded | go_step | go_upon)
  refine Calls.mono (hc) ?_
  rintro _ w2 ⟨rfl, hp, he⟩
  dsimp only
  have HX : Hid (CX w Z g w2.heap.size S d (fun _ => false) i0 (w2.alloc (.cells #[.int .u64 0, .int .u64 0, .int .u64 0, .int .u64 0] 25))) := Lib.hid (by
    have hk := (Below.refl w2.heap.size w2).alloc (Nat.le_refl _) (.cells #[.int .u64 0, .int .u64 0, .int .u64 0, .int .u64 0] 25)
    have hbx : ReBox w2 Z reZ := he.row HR.out (by have := HZ.out; omega)
    exact ⟨SetAt.zero w2, hbx.keep hk, hp.keep hk, (HE.out.trans he).trans (Else.of_below hk), ⟨HZ.out.1, hbx.lt⟩, HZ.out.2⟩)
  clear hp he hc HR HE HZ
  repeat' (go_not_at_region 3; first | go_values | go_skip | go_guarded | go_step | go_upon)
  generalize w2.heap.size = b4 at HX ⊢
  refine gen_wd (fun W => CX w Z g b4 S d (fun _ => false) i0 W) HX.out ?_
  clear HX
  rintro w3 hx
  have HX := Lib.hid hx
  clear hx
  repeat' (first | go_values | go_skip | go_guarded | go_step | go_upon)
  go_loopg [5] f (fun gk s5 wr => ∃ (a : Nat → Bool) (first : Bool) (i' : Nat), s5 = .bool first ∧ i' ≤ S.size ∧ Hid (clsL S.data.toList gk a first i' = X0) ∧ Hid (CX w Z g b4 S d a i' wr))
  case atStart => exact ⟨_, true, i0, rfl, hi0b, HX0, HX⟩
  case round =>
    clear HX0 HX hi0b
    obtain ⟨a, first, i', rfl, hi', HC, HX⟩ := hrel
    cases gk with
    | zero => exact absurd (by rw [← HC.out, clsL]) HXn.out
    | succ gk =>
      have hC := HC.out
      rw [clsL] at hC
      clear HC
      by_cases hA : first = false ∧ isC S.data.toList i' 93
      · rw [if_pos hA] at hC
        obtain ⟨rfl, h93⟩ := hA
        have HC := Lib.hid hC.symm
        have HI := Lib.hid h93
        have hcall := ps_is_y g S i' d 93 wr HX.out.ps h93
        clear hC h93
        repeat' (first | go_values | go_skip | go_guarded | go_step | go_upon)
        refine Calls.mono (hcall) ?_
        rintro _ w4 ⟨rfl, hb⟩
        dsimp only
        have HX := Lib.hid (HX.out.keep hb)
        clear hb hcall
        repeat' (first | go_values | go_skip | go_guarded | go_step | go_upon)
        have hm := ps_must_y g S i' d 93 (by have := HS.out; omega) w4 HX.out.ps HI.out
        refine Calls.mono (hm) ?_
        rintro _ w5 ⟨rfl, hp, he⟩
        dsimp only
        have HX := Lib.hid (HX.out.go hp he)
        clear hp he hm
        cases nt with
        | true =>
          have HL := Lib.hid HX.out.s4
          repeat' (first | (with_reducible refine load_set1 HL.out _ rfl rfl ?_; dsimp only [Act.put]) | go_values | go_skip | go_guarded | go_step | go_upon)
          refine Calls.mono ((k_not _ _)) ?_
          rintro _ w6 ⟨rfl, hb6⟩
          dsimp only
          have HX := Lib.hid (HX.out.keep hb6)
          clear hb6 HL
          have H4 := Lib.hid HX.out.s4
          have HX := Lib.hid (HX.out.put (notB a))
          have HL := Lib.hid HX.out.s4
          have HM := Lib.hid HX.out.bx
          repeat' (first | (with_reducible refine store_set1 H4.out _ _ _ rfl rfl rfl ?_; dsimp only [Act.put]) | (with_reducible refine load_set1 HL.out _ rfl rfl ?_; dsimp only [Act.put]) | (refine store_box HM.out (setN (notB a)) rfl _ _ rfl rfl rfl ?_; dsimp only [Act.put]) | go_values | go_skip | go_guarded | go_step | go_upon)
          refine bodyPost_ret (results_re rfl _ _ _ _ rfl (HM.out.set _)) rfl ?_
          exact TPost.okI (by rw [HC.out]; rfl) ⟨⟨_, rfl, ReX.setT _ _ _ _⟩, HX.out.ps.row (by have := HX.out.lt; omega), HX.out.els.rowNew (by have := HX.out.sz; omega) _⟩
        | false =>
          have HL := Lib.hid HX.out.s4
          have HM := Lib.hid HX.out.bx
          repeat' (first | (with_reducible refine load_set1 HL.out _ rfl rfl ?_; dsimp only [Act.put]) | (refine store_box HM.out (setN a) rfl _ _ rfl rfl rfl ?_; dsimp only [Act.put]) | go_values | go_skip | go_guarded | go_step | go_upon)
          refine bodyPost_ret (results_re rfl _ _ _ _ rfl (HM.out.set _)) rfl ?_
          exact TPost.okI (by rw [HC.out]; rfl) ⟨⟨_, rfl, ReX.setT _ _ _ _⟩, HX.out.ps.row (by have := HX.out.lt; omega), HX.out.els.rowNew (by have := HX.out.sz; omega) _⟩
      · rw [if_neg hA] at hC
        cases first with
        | true =>
          repeat' (first | go_values | go_skip | go_guarded | go_step | go_upon)
          by_cases h92 : isC S.data.toList i' 92
          · rw [if_pos h92] at hC
            have hcall := ps_is_y g S i' d 92 wr HX.out.ps h92
            have hi1 : i' + 1 ≤ S.size := by have := h92.1; rw [ba_len] at this; omega
            have hS512 := HS.out
            have hw : IntKind.i64.wrap ((i' : Int) + 1) = ((i' + 1 : Nat) : Int) := by rw [wi64 (by unfold I64; omega)]; omega
            have hw2 : IntKind.i64.wrap (((i' + 1 : Nat) : Int) - 1) = (i' : Int) := by rw [wi64 (by unfold I64; omega)]; omega
            have Hlt := Lib.hid (fun (k : Nat → Bool) (h : kndR S.data.toList (i' + 1) = some k) => kndR_lt h)
            have HI2 : Hid (i' + 1 + 1 = i' + 2) := Lib.hid rfl
            obtain ⟨i1, hi1e⟩ : ∃ i1, i' + 1 = i1 := ⟨_, rfl⟩
            rw [hi1e] at hw hw2 hC hi1 HI2 Hlt
            have hi1512 : i1 ≤ 512 := by omega
            clear h92 hA hi1e hS512
            refine Calls.mono (hcall) ?_
            rintro _ wv ⟨rfl, hb⟩
            dsimp only
            have HX := Lib.hid (HX.out.keep hb)
            have c1 := HX.out.ps.c1
            have f1 := HX.out.ps.free 1
            clear hb hcall
            have HY := Lib.hid (HX.out.setI i1)
            repeat' (first | go_values | go_skip | go_guarded | go_step | go_upon)
            have hk := ps_kind g S i1 d hi1512 _ HY.out.ps
            clear c1 f1 HX
            cases hK : kndR S.data.toList i1 with
            | some p =>
              rw [hK] at hk hC
              have HI3 := Lib.hid (Hlt.out p hK)
              dsimp only at hC
              have HC := Lib.hid hC
              clear hK hC hw2
              refine Calls.mono (hk) ?_
              rintro _ wk ⟨rfl, hpk, hek⟩
              dsimp only
              have HX := Lib.hid (HY.out.go hpk hek)
              clear hk hpk hek
              have HL4 := Lib.hid (HX.out.keep ((Below.refl _ _).alloc (Nat.le_refl _) (.cells (sc p) 25))).s4
              have HL6 : Hid (SetAt (wk.alloc (.cells (sc p) 25)) wk.heap.size p) := Lib.hid (Go.heap_alloc_new _ _)
              have HXb := Lib.hid (HX.out.keep ((Below.refl _ _).alloc (Nat.le_refl _) (.cells (sc p) 25)))
              repeat' (first | (with_reducible refine load_set1 HL4.out _ rfl rfl ?_; dsimp only [Act.put]) | (with_reducible refine load_set1 HL6.out _ rfl rfl ?_; dsimp only [Act.put]) | go_values | go_skip | go_guarded | go_step | go_upon)
              refine Calls.mono ((k_join _ _ _)) ?_
              rintro _ wm ⟨rfl, hb⟩
              dsimp only
              have HX := Lib.hid (HXb.out.keep hb)
              clear hb HXb HL4 HL6
              repeat' (first | (with_reducible refine store_set1 HX.out.s4 _ _ _ rfl rfl rfl ?_; dsimp only [Act.put]) | go_values | go_skip | go_guarded | go_step | go_upon)
              go_roundg gk
              case rel => exact ⟨_, false, i1 + 1, rfl, by have := HI3.out; rw [ba_len] at this; omega, by rw [HI2.out]; exact HC, Lib.hid (HX.out.put (orB a p))⟩
              case measure => omega
            | none =>
              rw [hK] at hk hC
              dsimp only at hC
              clear hK
              refine Calls.mono (hk) ?_
              rintro _ wk ⟨rfl, hpk, hek⟩
              dsimp only
              have HX := Lib.hid (HY.out.go hpk hek)
              have HXb := Lib.hid (HX.out.keep ((Below.refl _ _).alloc (Nat.le_refl _) (.cells (sc fun _ => false) 25)))
              clear hk hpk hek HY HX
              have c1 := HXb.out.ps.c1
              have f1 := HXb.out.ps.free 1
              have HX := Lib.hid (HXb.out.setI i')
              repeat' (first | go_values | go_skip | go_guarded | go_step | go_upon)
              clear c1 f1 HXb hw hw2 hi1 hi1512 Hlt HI2
              have hp := ps_point g S i' d HS.out hi' _ HX.out.ps
              cases hP : pntR S.data.toList i' with
              | bad e0 j =>
                rw [hP] at hp hC
                have HC := Lib.hid hC.symm
                clear hC
                refine Calls.mono hp ?_
                rintro _ wy ⟨rfl, he⟩
                exact ⟨rfl, TPost.badI (by rw [HC.out]; rfl) ⟨rfl, HX.out.els.trans he⟩⟩
              | out => exact absurd hP pntR_out
              | ok lo j =>
                have hlo := pntR_lt hP
                have hj : j ≤ S.size := by have := ((pntR_in (s := S.data.toList) (i := i') (by rw [ba_len]; exact hi')).okB hP).2; rw [ba_len] at this; exact this
                rw [hP] at hp hC
                simp only [PR.bind] at hC
                clear hP
                refine Calls.mono (hp) ?_
                rintro _ wy ⟨rfl, hpy, hey⟩
                dsimp only
                have HX := Lib.hid (HX.out.go hpy hey)
                clear hp hpy hey
                by_cases h45 : isC S.data.toList j 45
                · rw [if_pos h45] at hC
                  have ht := ps_take_y g S j d 45 (by have := HS.out; omega) wy HX.out.ps h45
                  have hj1 : j + 1 ≤ S.size := by have := h45.1; rw [ba_len] at this; omega
                  clear h45 hj
                  obtain ⟨j1, hj1e⟩ : ∃ j1, j + 1 = j1 := ⟨_, rfl⟩
                  rw [hj1e] at ht hC hj1
                  have Hj1e := Lib.hid hj1e
                  clear hj1e
                  repeat' (first | go_values | go_skip | go_guarded | go_step | go_upon)
                  refine Calls.mono (ht) ?_
                  rintro _ wz ⟨rfl, hpz, hez⟩
                  dsimp only
                  have HX := Lib.hid (HX.out.go hpz hez)
                  have c1 := HX.out.ps.c1
                  clear ht hpz hez
                  repeat' (first | go_values | go_skip | go_guarded | go_step | go_upon)
                  have hp := ps_point g S j1 d HS.out hj1 wz HX.out.ps
                  cases hP : pntR S.data.toList j1 with
                  | bad e0 k =>
                    rw [hP] at hp hC
                    have HC := Lib.hid hC.symm
                    clear hC
                    refine Calls.mono hp ?_
                    rintro _ wq ⟨rfl, he⟩
                    exact ⟨rfl, TPost.badI (by rw [HC.out]; rfl) ⟨rfl, HX.out.els.trans he⟩⟩
                  | out => exact absurd hP pntR_out
                  | ok hi k =>
                    have hhi := pntR_lt hP
                    have hk : k ≤ S.size := by have := ((pntR_in (s := S.data.toList) (i := j1) (by rw [ba_len]; exact hj1)).okB hP).2; rw [ba_len] at this; exact this
                    rw [hP] at hp hC
                    dsimp only at hC
                    clear hP c1
                    refine Calls.mono (hp) ?_
                    rintro _ wq ⟨rfl, hpq, heq⟩
                    dsimp only
                    have HX := Lib.hid (HX.out.go hpq heq)
                    clear hp hpq heq
                    by_cases hl : hi < lo
                    · rw [if_pos hl] at hC
                      have HC := Lib.hid hC.symm
                      have hl' : (hi : Int) < (lo : Int) := by omega
                      clear hC hl
                      repeat' (first | go_values | go_skip | go_guarded | go_step | go_upon)
                      exact ⟨rfl, TPost.badI (by rw [HC.out]; rfl) ⟨rfl, HX.out.els⟩⟩
                    · rw [if_neg hl] at hC
                      have HC := Lib.hid hC
                      have hl' : ¬ (hi : Int) < (lo : Int) := by omega
                      clear hC hl hj1
                      repeat' (first | go_values | go_skip | go_guarded | go_step | go_upon)
                      obtain ⟨C, hC⟩ : ∃ C : World → Prop, C = fun W => SetAt W b4 a := ⟨_, rfl⟩
                      have Hmk : Hid (∀ W, SetAt W b4 a → C W) := Lib.hid (fun W h => by rw [hC]; exact h)
                      have hC' : ∀ W, C W → SetAt W b4 a := fun W h => by rw [hC] at h; exact h
                      have q0 : ∀ nq : GW C, nq.1.cell? ⟨b4, 0, none⟩ = some (.int .u64 (W a 0 : Nat)) := fun nq => (hC' _ nq.2).c0
                      have q1 : ∀ nq : GW C, nq.1.cell? ⟨b4, 1, none⟩ = some (.int .u64 (W a 1 : Nat)) := fun nq => (hC' _ nq.2).c1
                      have q2 : ∀ nq : GW C, nq.1.cell? ⟨b4, 2, none⟩ = some (.int .u64 (W a 2 : Nat)) := fun nq => (hC' _ nq.2).c2
                      have q3 : ∀ nq : GW C, nq.1.cell? ⟨b4, 3, none⟩ = some (.int .u64 (W a 3 : Nat)) := fun nq => (hC' _ nq.2).c3
                      clear hC hC'
                      refine wp_region_anyU (by kernel_rfl) C 5 ?_
                      refine wpAnyU_take (i := 0) (v := _) rfl (by kernel_rfl) (by kernel_rfl) (by kernel_rfl) (by kernel_rfl) (by kernel_rfl) (fun _ _ _ h => h) (Or.inl ⟨by rfl, fun w ⟨nq, hw⟩ => by (subst hw; go_simp; first | exact ⟨rfl, rfl⟩ | rfl)⟩) (by go_simp <;> with_reducible rfl) ?_
                      refine wpAnyU_take (i := 1) (v := _) rfl (by kernel_rfl) (by kernel_rfl) (by kernel_rfl) (by kernel_rfl) (by kernel_rfl) (fun _ _ _ h => h) (Or.inl ⟨by rfl, fun w ⟨nq, hw⟩ => by (subst hw; go_simp; first | exact ⟨rfl, rfl⟩ | rfl)⟩) (by go_simp <;> with_reducible rfl) ?_
                      refine wpAnyU_take (i := 2) (v := _) rfl (by kernel_rfl) (by kernel_rfl) (by kernel_rfl) (by kernel_rfl) (by kernel_rfl) (fun _ _ _ h => h) (Or.inl ⟨by rfl, fun w ⟨nq, hw⟩ => by (subst hw; go_simp; first | exact ⟨rfl, rfl⟩ | rfl)⟩) (by go_simp <;> with_reducible rfl) ?_
                      clear q0 q1 q2 q3
                      refine genUw (fun W => CX w Z g b4 S d a k W) (HX.out.keep (Below.refl _ _).drew) ?_
                      clear HX
                      intro W0 hx0
                      have hr := set_Range lo hi hlo hhi
                      refine wpAnyU_ready (CG.of (Hmk.out _ hx0.s4)) (rs := [3]) (by kernel_rfl) (by simp) ?_
                      refine (AllReadyU.cons rfl (fun K hK => ?_) AllReadyU.nil)
                      go_simp
                      refine Calls.mono ((hr W0)) ?_
                      rintro _ W1 ⟨rfl, hb⟩
                      dsimp only
                      refine hK _ _ ?_
                      clear hK K
                      have hx1 := hx0.keep hb
                      clear hb hx0 hr
                      refine wpAnyU_ready (CG.of (Hmk.out _ hx1.s4)) (rs := [4]) (by kernel_rfl) (by simp) ?_
                      refine (AllReadyU.cons rfl (fun K hK => ?_) AllReadyU.nil)
                      go_simp
                      refine Calls.mono ((k_join _ _ W1)) ?_
                      rintro _ W2 ⟨rfl, hb⟩
                      dsimp only
                      refine hK _ _ ?_
                      clear hK K
                      have hx2 := hx1.keep hb
                      clear hb hx1
                      refine wpAnyU_ready (CG.of (Hmk.out _ hx2.s4)) (rs := [5]) (by kernel_rfl) (by simp) ?_
                      refine (AllReadyU.cons rfl (fun K hK => ?_) AllReadyU.nil)
                      refine step_of rfl (store_set1 hx2.s4 (orB a (rngB lo hi)) _ _ rfl rfl rfl ?_)
                      refine hK _ _ ?_
                      clear hK K
                      refine wpAnyU_done (by kernel_rfl) (by kernel_rfl) (by go_simp <;> with_reducible rfl) ?_
                      have HX := Lib.hid (hx2.put (orB a (rngB lo hi)))
                      clear hx2 Hmk
                      repeat' (first | go_values | go_skip | go_guarded | go_step | go_upon)
                      go_roundg gk
                      case rel => exact ⟨_, false, k, rfl, hk, HC, HX⟩
                      case measure => omega
                · rw [if_neg h45] at hC
                  have HC := Lib.hid hC
                  have ht := ps_take_n g S j d 45 wy HX.out.ps h45
                  clear hC h45
                  repeat' (first | go_values | go_skip | go_guarded | go_step | go_upon)
                  refine Calls.mono (ht) ?_
                  rintro _ wz ⟨rfl, hb⟩
                  dsimp only
                  have HX := Lib.hid (HX.out.keep hb)
                  clear ht hb
                  repeat' (first | go_values | go_skip | go_guarded | go_step | go_upon)
                  obtain ⟨C, hC⟩ : ∃ C : World → Prop, C = fun W => SetAt W b4 a := ⟨_, rfl⟩
                  have Hmk : Hid (∀ W, SetAt W b4 a → C W) := Lib.hid (fun W h => by rw [hC]; exact h)
                  have hC' : ∀ W, C W → SetAt W b4 a := fun W h => by rw [hC] at h; exact h
                  have q0 : ∀ nq : GW C, nq.1.cell? ⟨b4, 0, none⟩ = some (.int .u64 (W a 0 : Nat)) := fun nq => (hC' _ nq.2).c0
                  have q1 : ∀ nq : GW C, nq.1.cell? ⟨b4, 1, none⟩ = some (.int .u64 (W a 1 : Nat)) := fun nq => (hC' _ nq.2).c1
                  have q2 : ∀ nq : GW C, nq.1.cell? ⟨b4, 2, none⟩ = some (.int .u64 (W a 2 : Nat)) := fun nq => (hC' _ nq.2).c2
                  have q3 : ∀ nq : GW C, nq.1.cell? ⟨b4, 3, none⟩ = some (.int .u64 (W a 3 : Nat)) := fun nq => (hC' _ nq.2).c3
                  clear hC hC'
                  refine wp_region_anyU (by kernel_rfl) C 5 ?_
                  refine wpAnyU_take (i := 0) (v := _) rfl (by kernel_rfl) (by kernel_rfl) (by kernel_rfl) (by kernel_rfl) (by kernel_rfl) (fun _ _ _ h => h) (Or.inl ⟨by rfl, fun w ⟨nq, hw⟩ => by (subst hw; go_simp; first | exact ⟨rfl, rfl⟩ | rfl)⟩) (by go_simp <;> with_reducible rfl) ?_
                  refine wpAnyU_take (i := 1) (v := _) rfl (by kernel_rfl) (by kernel_rfl) (by kernel_rfl) (by kernel_rfl) (by kernel_rfl) (fun _ _ _ h => h) (Or.inl ⟨by rfl, fun w ⟨nq, hw⟩ => by (subst hw; go_simp; first | exact ⟨rfl, rfl⟩ | rfl)⟩) (by go_simp <;> with_reducible rfl) ?_
                  refine wpAnyU_take (i := 2) (v := _) rfl (by kernel_rfl) (by kernel_rfl) (by kernel_rfl) (by kernel_rfl) (by kernel_rfl) (fun _ _ _ h => h) (Or.inl ⟨by rfl, fun w ⟨nq, hw⟩ => by (subst hw; go_simp; first | exact ⟨rfl, rfl⟩ | rfl)⟩) (by go_simp <;> with_reducible rfl) ?_
                  clear q0 q1 q2 q3
                  refine genUw (fun W => CX w Z g b4 S d a j W) (HX.out.keep (Below.refl _ _).drew) ?_
                  clear HX
                  intro W0 hx0
                  have hr := set_Range lo lo hlo hlo
                  refine wpAnyU_ready (CG.of (Hmk.out _ hx0.s4)) (rs := [3]) (by kernel_rfl) (by simp) ?_
                  refine (AllReadyU.cons rfl (fun K hK => ?_) AllReadyU.nil)
                  go_simp
                  refine Calls.mono ((hr W0)) ?_
                  rintro _ W1 ⟨rfl, hb⟩
                  dsimp only
                  refine hK _ _ ?_
                  clear hK K
                  have hx1 := hx0.keep hb
                  clear hb hx0 hr
                  refine wpAnyU_ready (CG.of (Hmk.out _ hx1.s4)) (rs := [4]) (by kernel_rfl) (by simp) ?_
                  refine (AllReadyU.cons rfl (fun K hK => ?_) AllReadyU.nil)
                  go_simp
                  refine Calls.mono ((k_join _ _ W1)) ?_
                  rintro _ W2 ⟨rfl, hb⟩
                  dsimp only
                  refine hK _ _ ?_
                  clear hK K
                  have hx2 := hx1.keep hb
                  clear hb hx1
                  refine wpAnyU_ready (CG.of (Hmk.out _ hx2.s4)) (rs := [5]) (by kernel_rfl) (by simp) ?_
                  refine (AllReadyU.cons rfl (fun K hK => ?_) AllReadyU.nil)
                  refine step_of rfl (store_set1 hx2.s4 (orB a (rngB lo lo)) _ _ rfl rfl rfl ?_)
                  refine hK _ _ ?_
                  clear hK K
                  refine wpAnyU_done (by kernel_rfl) (by kernel_rfl) (by go_simp <;> with_reducible rfl) ?_
                  have HX := Lib.hid (hx2.put (orB a (rngB lo lo)))
                  clear hx2 Hmk
                  repeat' (first | go_values | go_skip | go_guarded | go_step | go_upon)
                  go_roundg gk
                  case rel => exact ⟨_, false, j, rfl, hj, HC, HX⟩
                  case measure => omega
          · rw [if_neg h92] at hC
            have hcall := ps_is_n g S i' d 92 wr HX.out.ps h92
            clear h92 hA
            refine Calls.mono (hcall) ?_
            rintro _ wv ⟨rfl, hb⟩
            dsimp only
            have HX := Lib.hid (HX.out.keep hb)
            clear hb hcall
            dsimp only at hC
            repeat' (first | go_values | go_skip | go_guarded | go_step | go_upon)
            have hp := ps_point g S i' d HS.out hi' wv HX.out.ps
            cases hP : pntR S.data.toList i' with
            | bad e0 j =>
              rw [hP] at hp hC
              have HC := Lib.hid hC.symm
              clear hC
              refine Calls.mono hp ?_
              rintro _ wy ⟨rfl, he⟩
              exact ⟨rfl, TPost.badI (by rw [HC.out]; rfl) ⟨rfl, HX.out.els.trans he⟩⟩
            | out => exact absurd hP pntR_out
            | ok lo j =>
              have hlo := pntR_lt hP
              have hj : j ≤ S.size := by have := ((pntR_in (s := S.data.toList) (i := i') (by rw [ba_len]; exact hi')).okB hP).2; rw [ba_len] at this; exact this
              rw [hP] at hp hC
              simp only [PR.bind] at hC
              clear hP
              refine Calls.mono (hp) ?_
              rintro _ wy ⟨rfl, hpy, hey⟩
              dsimp only
              have HX := Lib.hid (HX.out.go hpy hey)
              clear hp hpy hey
              by_cases h45 : isC S.data.toList j 45
              · rw [if_pos h45] at hC
                have ht := ps_take_y g S j d 45 (by have := HS.out; omega) wy HX.out.ps h45
                have hj1 : j + 1 ≤ S.size := by have := h45.1; rw [ba_len] at this; omega
                clear h45 hj
                obtain ⟨j1, hj1e⟩ : ∃ j1, j + 1 = j1 := ⟨_, rfl⟩
                rw [hj1e] at ht hC hj1
                have Hj1e := Lib.hid hj1e
                clear hj1e
                repeat' (first | go_values | go_skip | go_guarded | go_step | go_upon)
                refine Calls.mono (ht) ?_
                rintro _ wz ⟨rfl, hpz, hez⟩
                dsimp only
                have HX := Lib.hid (HX.out.go hpz hez)
                have c1 := HX.out.ps.c1
                clear ht hpz hez
                repeat' (first | go_values | go_skip | go_guarded | go_step | go_upon)
                have hp := ps_point g S j1 d HS.out hj1 wz HX.out.ps
                cases hP : pntR S.data.toList j1 with
                | bad e0 k =>
                  rw [hP] at hp hC
                  have HC := Lib.hid hC.symm
                  clear hC
                  refine Calls.mono hp ?_
                  rintro _ wq ⟨rfl, he⟩
                  exact ⟨rfl, TPost.badI (by rw [HC.out]; rfl) ⟨rfl, HX.out.els.trans he⟩⟩
                | out => exact absurd hP pntR_out
                | ok hi k =>
                  have hhi := pntR_lt hP
                  have hk : k ≤ S.size := by have := ((pntR_in (s := S.data.toList) (i := j1) (by rw [ba_len]; exact hj1)).okB hP).2; rw [ba_len] at this; exact this
                  rw [hP] at hp hC
                  dsimp only at hC
                  clear hP c1
                  refine Calls.mono (hp) ?_
                  rintro _ wq ⟨rfl, hpq, heq⟩
                  dsimp only
                  have HX := Lib.hid (HX.out.go hpq heq)
                  clear hp hpq heq
                  by_cases hl : hi < lo
                  · rw [if_pos hl] at hC
                    have HC := Lib.hid hC.symm
                    have hl' : (hi : Int) < (lo : Int) := by omega
                    clear hC hl
                    repeat' (first | go_values | go_skip | go_guarded | go_step | go_upon)
                    exact ⟨rfl, TPost.badI (by rw [HC.out]; rfl) ⟨rfl, HX.out.els⟩⟩
                  · rw [if_neg hl] at hC
                    have HC := Lib.hid hC
                    have hl' : ¬ (hi : Int) < (lo : Int) := by omega
                    clear hC hl hj1
                    repeat' (first | go_values | go_skip | go_guarded | go_step | go_upon)
                    obtain ⟨C, hC⟩ : ∃ C : World → Prop, C = fun W => SetAt W b4 a := ⟨_, rfl⟩
                    have Hmk : Hid (∀ W, SetAt W b4 a → C W) := Lib.hid (fun W h => by rw [hC]; exact h)
                    have hC' : ∀ W, C W → SetAt W b4 a := fun W h => by rw [hC] at h; exact h
                    have q0 : ∀ nq : GW C, nq.1.cell? ⟨b4, 0, none⟩ = some (.int .u64 (W a 0 : Nat)) := fun nq => (hC' _ nq.2).c0
                    have q1 : ∀ nq : GW C, nq.1.cell? ⟨b4, 1, none⟩ = some (.int .u64 (W a 1 : Nat)) := fun nq => (hC' _ nq.2).c1
                    have q2 : ∀ nq : GW C, nq.1.cell? ⟨b4, 2, none⟩ = some (.int .u64 (W a 2 : Nat)) := fun nq => (hC' _ nq.2).c2
                    have q3 : ∀ nq : GW C, nq.1.cell? ⟨b4, 3, none⟩ = some (.int .u64 (W a 3 : Nat)) := fun nq => (hC' _ nq.2).c3
                    clear hC hC'
                    refine wp_region_anyU (by kernel_rfl) C 5 ?_
                    refine wpAnyU_take (i := 0) (v := _) rfl (by kernel_rfl) (by kernel_rfl) (by kernel_rfl) (by kernel_rfl) (by kernel_rfl) (fun _ _ _ h => h) (Or.inl ⟨by rfl, fun w ⟨nq, hw⟩ => by (subst hw; go_simp; first | exact ⟨rfl, rfl⟩ | rfl)⟩) (by go_simp <;> with_reducible rfl) ?_
                    refine wpAnyU_take (i := 1) (v := _) rfl (by kernel_rfl) (by kernel_rfl) (by kernel_rfl) (by kernel_rfl) (by kernel_rfl) (fun _ _ _ h => h) (Or.inl ⟨by rfl, fun w ⟨nq, hw⟩ => by (subst hw; go_simp; first | exact ⟨rfl, rfl⟩ | rfl)⟩) (by go_simp <;> with_reducible rfl) ?_
                    refine wpAnyU_take (i := 2) (v := _) rfl (by kernel_rfl) (by kernel_rfl) (by kernel_rfl) (by kernel_rfl) (by kernel_rfl) (fun _ _ _ h => h) (Or.inl ⟨by rfl, fun w ⟨nq, hw⟩ => by (subst hw; go_simp; first | exact ⟨rfl, rfl⟩ | rfl)⟩) (by go_simp <;> with_reducible rfl) ?_
                    clear q0 q1 q2 q3
                    refine genUw (fun W => CX w Z g b4 S d a k W) (HX.out.keep (Below.refl _ _).drew) ?_
                    clear HX
                    intro W0 hx0
                    have hr := set_Range lo hi hlo hhi
                    refine wpAnyU_ready (CG.of (Hmk.out _ hx0.s4)) (rs := [3]) (by kernel_rfl) (by simp) ?_
                    refine (AllReadyU.cons rfl (fun K hK => ?_) AllReadyU.nil)
                    go_simp
                    refine Calls.mono ((hr W0)) ?_
                    rintro _ W1 ⟨rfl, hb⟩
                    dsimp only
                    refine hK _ _ ?_
                    clear hK K
                    have hx1 := hx0.keep hb
                    clear hb hx0 hr
                    refine wpAnyU_ready (CG.of (Hmk.out _ hx1.s4)) (rs := [4]) (by kernel_rfl) (by simp) ?_
                    refine (AllReadyU.cons rfl (fun K hK => ?_) AllReadyU.nil)
                    go_simp
                    refine Calls.mono ((k_join _ _ W1)) ?_
                    rintro _ W2 ⟨rfl, hb⟩
                    dsimp only
                    refine hK _ _ ?_
                    clear hK K
                    have hx2 := hx1.keep hb
                    clear hb hx1
                    refine wpAnyU_ready (CG.of (Hmk.out _ hx2.s4)) (rs := [5]) (by kernel_rfl) (by simp) ?_
                    refine (AllReadyU.cons rfl (fun K hK => ?_) AllReadyU.nil)
                    refine step_of rfl (store_set1 hx2.s4 (orB a (rngB lo hi)) _ _ rfl rfl rfl ?_)
                    refine hK _ _ ?_
                    clear hK K
                    refine wpAnyU_done (by kernel_rfl) (by kernel_rfl) (by go_simp <;> with_reducible rfl) ?_
                    have HX := Lib.hid (hx2.put (orB a (rngB lo hi)))
                    clear hx2 Hmk
                    repeat' (first | go_values | go_skip | go_guarded | go_step | go_upon)
                    go_roundg gk
                    case rel => exact ⟨_, false, k, rfl, hk, HC, HX⟩
                    case measure => omega
              · rw [if_neg h45] at hC
                have HC := Lib.hid hC
                have ht := ps_take_n g S j d 45 wy HX.out.ps h45
                clear hC h45
                repeat' (first | go_values | go_skip | go_guarded | go_step | go_upon)
                refine Calls.mono (ht) ?_
                rintro _ wz ⟨rfl, hb⟩
                dsimp only
                have HX := Lib.hid (HX.out.keep hb)
                clear ht hb
                repeat' (first | go_values | go_skip | go_guarded | go_step | go_upon)
                obtain ⟨C, hC⟩ : ∃ C : World → Prop, C = fun W => SetAt W b4 a := ⟨_, rfl⟩
                have Hmk : Hid (∀ W, SetAt W b4 a → C W) := Lib.hid (fun W h => by rw [hC]; exact h)
                have hC' : ∀ W, C W → SetAt W b4 a := fun W h => by rw [hC] at h; exact h
                have q0 : ∀ nq : GW C, nq.1.cell? ⟨b4, 0, none⟩ = some (.int .u64 (W a 0 : Nat)) := fun nq => (hC' _ nq.2).c0
                have q1 : ∀ nq : GW C, nq.1.cell? ⟨b4, 1, none⟩ = some (.int .u64 (W a 1 : Nat)) := fun nq => (hC' _ nq.2).c1
                have q2 : ∀ nq : GW C, nq.1.cell? ⟨b4, 2, none⟩ = some (.int .u64 (W a 2 : Nat)) := fun nq => (hC' _ nq.2).c2
                have q3 : ∀ nq : GW C, nq.1.cell? ⟨b4, 3, none⟩ = some (.int .u64 (W a 3 : Nat)) := fun nq => (hC' _ nq.2).c3
                clear hC hC'
                refine wp_region_anyU (by kernel_rfl) C 5 ?_
                refine wpAnyU_take (i := 0) (v := _) rfl (by kernel_rfl) (by kernel_rfl) (by kernel_rfl) (by kernel_rfl) (by kernel_rfl) (fun _ _ _ h => h) (Or.inl ⟨by rfl, fun w ⟨nq, hw⟩ => by (subst hw; go_simp; first | exact ⟨rfl, rfl⟩ | rfl)⟩) (by go_simp <;> with_reducible rfl) ?_
                refine wpAnyU_take (i := 1) (v := _) rfl (by kernel_rfl) (by kernel_rfl) (by kernel_rfl) (by kernel_rfl) (by kernel_rfl) (fun _ _ _ h => h) (Or.inl ⟨by rfl, fun w ⟨nq, hw⟩ => by (subst hw; go_simp; first | exact ⟨rfl, rfl⟩ | rfl)⟩) (by go_simp <;> with_reducible rfl) ?_
                refine wpAnyU_take (i := 2) (v := _) rfl (by kernel_rfl) (by kernel_rfl) (by kernel_rfl) (by kernel_rfl) (by kernel_rfl) (fun _ _ _ h => h) (Or.inl ⟨by rfl, fun w ⟨nq, hw⟩ => by (subst hw; go_simp; first | exact ⟨rfl, rfl⟩ | rfl)⟩) (by go_simp <;> with_reducible rfl) ?_
                clear q0 q1 q2 q3
                refine genUw (fun W => CX w Z g b4 S d a j W) (HX.out.keep (Below.refl _ _).drew) ?_
                clear HX
                intro W0 hx0
                have hr := set_Range lo lo hlo hlo
                refine wpAnyU_ready (CG.of (Hmk.out _ hx0.s4)) (rs := [3]) (by kernel_rfl) (by simp) ?_
                refine (AllReadyU.cons rfl (fun K hK => ?_) AllReadyU.nil)
                go_simp
                refine Calls.mono ((hr W0)) ?_
                rintro _ W1 ⟨rfl, hb⟩
                dsimp only
                refine hK _ _ ?_
                clear hK K
                have hx1 := hx0.keep hb
                clear hb hx0 hr
                refine wpAnyU_ready (CG.of (Hmk.out _ hx1.s4)) (rs := [4]) (by kernel_rfl) (by simp) ?_
                refine (AllReadyU.cons rfl (fun K hK => ?_) AllReadyU.nil)
                go_simp
                refine Calls.mono ((k_join _ _ W1)) ?_
                rintro _ W2 ⟨rfl, hb⟩
                dsimp only
                refine hK _ _ ?_
                clear hK K
                have hx2 := hx1.keep hb
                clear hb hx1
                refine wpAnyU_ready (CG.of (Hmk.out _ hx2.s4)) (rs := [5]) (by kernel_rfl) (by simp) ?_
                refine (AllReadyU.cons rfl (fun K hK => ?_) AllReadyU.nil)
                refine step_of rfl (store_set1 hx2.s4 (orB a (rngB lo lo)) _ _ rfl rfl rfl ?_)
                refine hK _ _ ?_
                clear hK K
                refine wpAnyU_done (by kernel_rfl) (by kernel_rfl) (by go_simp <;> with_reducible rfl) ?_
                have HX := Lib.hid (hx2.put (orB a (rngB lo lo)))
                clear hx2 Hmk
                repeat' (first | go_values | go_skip | go_guarded | go_step | go_upon)
                go_roundg gk
                case rel => exact ⟨_, false, j, rfl, hj, HC, HX⟩
                case measure => omega
        | false =>
          have h93 : ¬ isC S.data.toList i' 93 := fun q => hA ⟨rfl, q⟩
          have hcall := ps_is_n g S i' d 93 wr HX.out.ps h93
          clear h93
          repeat' (first | go_values | go_skip | go_guarded | go_step | go_upon)
          refine Calls.mono (hcall) ?_
          rintro _ w4 ⟨rfl, hb⟩
          dsimp only
          have HX := Lib.hid (HX.out.keep hb)
          clear hb hcall
          repeat' (first | go_values | go_skip | go_guarded | go_step | go_upon)
          by_cases h92 : isC S.data.toList i' 92
          · rw [if_pos h92] at hC
            have hcall := ps_is_y g S i' d 92 w4 HX.out.ps h92
            have hi1 : i' + 1 ≤ S.size := by have := h92.1; rw [ba_len] at this; omega
            have hS512 := HS.out
            have hw : IntKind.i64.wrap ((i' : Int) + 1) = ((i' + 1 : Nat) : Int) := by rw [wi64 (by unfold I64; omega)]; omega
            have hw2 : IntKind.i64.wrap (((i' + 1 : Nat) : Int) - 1) = (i' : Int) := by rw [wi64 (by unfold I64; omega)]; omega
            have Hlt := Lib.hid (fun (k : Nat → Bool) (h : kndR S.data.toList (i' + 1) = some k) => kndR_lt h)
            have HI2 : Hid (i' + 1 + 1 = i' + 2) := Lib.hid rfl
            obtain ⟨i1, hi1e⟩ : ∃ i1, i' + 1 = i1 := ⟨_, rfl⟩
            rw [hi1e] at hw hw2 hC hi1 HI2 Hlt
            have hi1512 : i1 ≤ 512 := by omega
            clear h92 hA hi1e hS512
            refine Calls.mono (hcall) ?_
            rintro _ wv ⟨rfl, hb⟩
            dsimp only
            have HX := Lib.hid (HX.out.keep hb)
            have c1 := HX.out.ps.c1
            have f1 := HX.out.ps.free 1
            clear hb hcall
            have HY := Lib.hid (HX.out.setI i1)
            repeat' (first | go_values | go_skip | go_guarded | go_step | go_upon)
            have hk := ps_kind g S i1 d hi1512 _ HY.out.ps
            clear c1 f1 HX
            cases hK : kndR S.data.toList i1 with
            | some p =>
              rw [hK] at hk hC
              have HI3 := Lib.hid (Hlt.out p hK)
              dsimp only at hC
              have HC := Lib.hid hC
              clear hK hC hw2
              refine Calls.mono (hk) ?_
              rintro _ wk ⟨rfl, hpk, hek⟩
              dsimp only
              have HX := Lib.hid (HY.out.go hpk hek)
              clear hk hpk hek
              have HL4 := Lib.hid (HX.out.keep ((Below.refl _ _).alloc (Nat.le_refl _) (.cells (sc p) 25))).s4
              have HL6 : Hid (SetAt (wk.alloc (.cells (sc p) 25)) wk.heap.size p) := Lib.hid (Go.heap_alloc_new _ _)
              have HXb := Lib.hid (HX.out.keep ((Below.refl _ _).alloc (Nat.le_refl _) (.cells (sc p) 25)))
              repeat' (first | (with_reducible refine load_set1 HL4.out _ rfl rfl ?_; dsimp only [Act.put]) | (with_reducible refine load_set1 HL6.out _ rfl rfl ?_; dsimp only [Act.put]) | go_values | go_skip | go_guarded | go_step | go_upon)
              refine Calls.mono ((k_join _ _ _)) ?_
              rintro _ wm ⟨rfl, hb⟩
              dsimp only
              have HX := Lib.hid (HXb.out.keep hb)
              clear hb HXb HL4 HL6
              repeat' (first | (with_reducible refine store_set1 HX.out.s4 _ _ _ rfl rfl rfl ?_; dsimp only [Act.put]) | go_values | go_skip | go_guarded | go_step | go_upon)
              go_roundg gk
              case rel => exact ⟨_, false, i1 + 1, rfl, by have := HI3.out; rw [ba_len] at this; omega, by rw [HI2.out]; exact HC, Lib.hid (HX.out.put (orB a p))⟩
              case measure => omega
            | none =>
              rw [hK] at hk hC
              dsimp only at hC
              clear hK
              refine Calls.mono (hk) ?_
              rintro _ wk ⟨rfl, hpk, hek⟩
              dsimp only
              have HX := Lib.hid (HY.out.go hpk hek)
              have HXb := Lib.hid (HX.out.keep ((Below.refl _ _).alloc (Nat.le_refl _) (.cells (sc fun _ => false) 25)))
              clear hk hpk hek HY HX
              have c1 := HXb.out.ps.c1
              have f1 := HXb.out.ps.free 1
              have HX := Lib.hid (HXb.out.setI i')
              repeat' (first | go_values | go_skip | go_guarded | go_step | go_upon)
              clear c1 f1 HXb hw hw2 hi1 hi1512 Hlt HI2
              have hp := ps_point g S i' d HS.out hi' _ HX.out.ps
              cases hP : pntR S.data.toList i' with
              | bad e0 j =>
                rw [hP] at hp hC
                have HC := Lib.hid hC.symm
                clear hC
                refine Calls.mono hp ?_
                rintro _ wy ⟨rfl, he⟩
                exact ⟨rfl, TPost.badI (by rw [HC.out]; rfl) ⟨rfl, HX.out.els.trans he⟩⟩
              | out => exact absurd hP pntR_out
              | ok lo j =>
                have hlo := pntR_lt hP
                have hj : j ≤ S.size := by have := ((pntR_in (s := S.data.toList) (i := i') (by rw [ba_len]; exact hi')).okB hP).2; rw [ba_len] at this; exact this
                rw [hP] at hp hC
                simp only [PR.bind] at hC
                clear hP
                refine Calls.mono (hp) ?_
                rintro _ wy ⟨rfl, hpy, hey⟩
                dsimp only
                have HX := Lib.hid (HX.out.go hpy hey)
                clear hp hpy hey
                by_cases h45 : isC S.data.toList j 45
                · rw [if_pos h45] at hC
                  have ht := ps_take_y g S j d 45 (by have := HS.out; omega) wy HX.out.ps h45
                  have hj1 : j + 1 ≤ S.size := by have := h45.1; rw [ba_len] at this; omega
                  clear h45 hj
                  obtain ⟨j1, hj1e⟩ : ∃ j1, j + 1 = j1 := ⟨_, rfl⟩
                  rw [hj1e] at ht hC hj1
                  have Hj1e := Lib.hid hj1e
                  clear hj1e
                  repeat' (first | go_values | go_skip | go_guarded | go_step | go_upon)
                  refine Calls.mono (ht) ?_
                  rintro _ wz ⟨rfl, hpz, hez⟩
                  dsimp only
                  have HX := Lib.hid (HX.out.go hpz hez)
                  have c1 := HX.out.ps.c1
                  clear ht hpz hez
                  repeat' (first | go_values | go_skip | go_guarded | go_step | go_upon)
                  have hp := ps_point g S j1 d HS.out hj1 wz HX.out.ps
                  cases hP : pntR S.data.toList j1 with
                  | bad e0 k =>
                    rw [hP] at hp hC
                    have HC := Lib.hid hC.symm
                    clear hC
                    refine Calls.mono hp ?_
                    rintro _ wq ⟨rfl, he⟩
                    exact ⟨rfl, TPost.badI (by rw [HC.out]; rfl) ⟨rfl, HX.out.els.trans he⟩⟩
                  | out => exact absurd hP pntR_out
                  | ok hi k =>
                    have hhi := pntR_lt hP
                    have hk : k ≤ S.size := by have := ((pntR_in (s := S.data.toList) (i := j1) (by rw [ba_len]; exact hj1)).okB hP).2; rw [ba_len] at this; exact this
                    rw [hP] at hp hC
                    dsimp only at hC
                    clear hP c1
                    refine Calls.mono (hp) ?_
                    rintro _ wq ⟨rfl, hpq, heq⟩
                    dsimp only
                    have HX := Lib.hid (HX.out.go hpq heq)
                    clear hp hpq heq
                    by_cases hl : hi < lo
                    · rw [if_pos hl] at hC
                      have HC := Lib.hid hC.symm
                      have hl' : (hi : Int) < (lo : Int) := by omega
                      clear hC hl
                      repeat' (first | go_values | go_skip | go_guarded | go_step | go_upon)
                      exact ⟨rfl, TPost.badI (by rw [HC.out]; rfl) ⟨rfl, HX.out.els⟩⟩
                    · rw [if_neg hl] at hC
                      have HC := Lib.hid hC
                      have hl' : ¬ (hi : Int) < (lo : Int) := by omega
                      clear hC hl hj1
                      repeat' (first | go_values | go_skip | go_guarded | go_step | go_upon)
                      obtain ⟨C, hC⟩ : ∃ C : World → Prop, C = fun W => SetAt W b4 a := ⟨_, rfl⟩
                      have Hmk : Hid (∀ W, SetAt W b4 a → C W) := Lib.hid (fun W h => by rw [hC]; exact h)
                      have hC' : ∀ W, C W → SetAt W b4 a := fun W h => by rw [hC] at h; exact h
                      have q0 : ∀ nq : GW C, nq.1.cell? ⟨b4, 0, none⟩ = some (.int .u64 (W a 0 : Nat)) := fun nq => (hC' _ nq.2).c0
                      have q1 : ∀ nq : GW C, nq.1.cell? ⟨b4, 1, none⟩ = some (.int .u64 (W a 1 : Nat)) := fun nq => (hC' _ nq.2).c1
                      have q2 : ∀ nq : GW C, nq.1.cell? ⟨b4, 2, none⟩ = some (.int .u64 (W a 2 : Nat)) := fun nq => (hC' _ nq.2).c2
                      have q3 : ∀ nq : GW C, nq.1.cell? ⟨b4, 3, none⟩ = some (.int .u64 (W a 3 : Nat)) := fun nq => (hC' _ nq.2).c3
                      clear hC hC'
                      refine wp_region_anyU (by kernel_rfl) C 5 ?_
                      refine wpAnyU_take (i := 0) (v := _) rfl (by kernel_rfl) (by kernel_rfl) (by kernel_rfl) (by kernel_rfl) (by kernel_rfl) (fun _ _ _ h => h) (Or.inl ⟨by rfl, fun w ⟨nq, hw⟩ => by (subst hw; go_simp; first | exact ⟨rfl, rfl⟩ | rfl)⟩) (by go_simp <;> with_reducible rfl) ?_
                      refine wpAnyU_take (i := 1) (v := _) rfl (by kernel_rfl) (by kernel_rfl) (by kernel_rfl) (by kernel_rfl) (by kernel_rfl) (fun _ _ _ h => h) (Or.inl ⟨by rfl, fun w ⟨nq, hw⟩ => by (subst hw; go_simp; first | exact ⟨rfl, rfl⟩ | rfl)⟩) (by go_simp <;> with_reducible rfl) ?_
                      refine wpAnyU_take (i := 2) (v := _) rfl (by kernel_rfl) (by kernel_rfl) (by kernel_rfl) (by kernel_rfl) (by kernel_rfl) (fun _ _ _ h => h) (Or.inl ⟨by rfl, fun w ⟨nq, hw⟩ => by (subst hw; go_simp; first | exact ⟨rfl, rfl⟩ | rfl)⟩) (by go_simp <;> with_reducible rfl) ?_
                      clear q0 q1 q2 q3
                      refine genUw (fun W => CX w Z g b4 S d a k W) (HX.out.keep (Below.refl _ _).drew) ?_
                      clear HX
                      intro W0 hx0
                      have hr := set_Range lo hi hlo hhi
                      refine wpAnyU_ready (CG.of (Hmk.out _ hx0.s4)) (rs := [3]) (by kernel_rfl) (by simp) ?_
                      refine (AllReadyU.cons rfl (fun K hK => ?_) AllReadyU.nil)
                      go_simp
                      refine Calls.mono ((hr W0)) ?_
                      rintro _ W1 ⟨rfl, hb⟩
                      dsimp only
                      refine hK _ _ ?_
                      clear hK K
                      have hx1 := hx0.keep hb
                      clear hb hx0 hr
                      refine wpAnyU_ready (CG.of (Hmk.out _ hx1.s4)) (rs := [4]) (by kernel_rfl) (by simp) ?_
                      refine (AllReadyU.cons rfl (fun K hK => ?_) AllReadyU.nil)
                      go_simp
                      refine Calls.mono ((k_join _ _ W1)) ?_
                      rintro _ W2 ⟨rfl, hb⟩
                      dsimp only
                      refine hK _ _ ?_
                      clear hK K
                      have hx2 := hx1.keep hb
                      clear hb hx1
                      refine wpAnyU_ready (CG.of (Hmk.out _ hx2.s4)) (rs := [5]) (by kernel_rfl) (by simp) ?_
                      refine (AllReadyU.cons rfl (fun K hK => ?_) AllReadyU.nil)
                      refine step_of rfl (store_set1 hx2.s4 (orB a (rngB lo hi)) _ _ rfl rfl rfl ?_)
                      refine hK _ _ ?_
                      clear hK K
                      refine wpAnyU_done (by kernel_rfl) (by kernel_rfl) (by go_simp <;> with_reducible rfl) ?_
                      have HX := Lib.hid (hx2.put (orB a (rngB lo hi)))
                      clear hx2 Hmk
                      repeat' (first | go_values | go_skip | go_guarded | go_step | go_upon)
                      go_roundg gk
                      case rel => exact ⟨_, false, k, rfl, hk, HC, HX⟩
                      case measure => omega
                · rw [if_neg h45] at hC
                  have HC := Lib.hid hC
                  have ht := ps_take_n g S j d 45 wy HX.out.ps h45
                  clear hC h45
                  repeat' (first | go_values | go_skip | go_guarded | go_step | go_upon)
                  refine Calls.mono (ht) ?_
                  rintro _ wz ⟨rfl, hb⟩
                  dsimp only
                  have HX := Lib.hid (HX.out.keep hb)
                  clear ht hb
                  repeat' (first | go_values | go_skip | go_guarded | go_step | go_upon)
                  obtain ⟨C, hC⟩ : ∃ C : World → Prop, C = fun W => SetAt W b4 a := ⟨_, rfl⟩
                  have Hmk : Hid (∀ W, SetAt W b4 a → C W) := Lib.hid (fun W h => by rw [hC]; exact h)
                  have hC' : ∀ W, C W → SetAt W b4 a := fun W h => by rw [hC] at h; exact h
                  have q0 : ∀ nq : GW C, nq.1.cell? ⟨b4, 0, none⟩ = some (.int .u64 (W a 0 : Nat)) := fun nq => (hC' _ nq.2).c0
                  have q1 : ∀ nq : GW C, nq.1.cell? ⟨b4, 1, none⟩ = some (.int .u64 (W a 1 : Nat)) := fun nq => (hC' _ nq.2).c1
                  have q2 : ∀ nq : GW C, nq.1.cell? ⟨b4, 2, none⟩ = some (.int .u64 (W a 2 : Nat)) := fun nq => (hC' _ nq.2).c2
                  have q3 : ∀ nq : GW C, nq.1.cell? ⟨b4, 3, none⟩ = some (.int .u64 (W a 3 : Nat)) := fun nq => (hC' _ nq.2).c3
                  clear hC hC'
                  refine wp_region_anyU (by kernel_rfl) C 5 ?_
                  refine wpAnyU_take (i := 0) (v := _) rfl (by kernel_rfl) (by kernel_rfl) (by kernel_rfl) (by kernel_rfl) (by kernel_rfl) (fun _ _ _ h => h) (Or.inl ⟨by rfl, fun w ⟨nq, hw⟩ => by (subst hw; go_simp; first | exact ⟨rfl, rfl⟩ | rfl)⟩) (by go_simp <;> with_reducible rfl) ?_
                  refine wpAnyU_take (i := 1) (v := _) rfl (by kernel_rfl) (by kernel_rfl) (by kernel_rfl) (by kernel_rfl) (by kernel_rfl) (fun _ _ _ h => h) (Or.inl ⟨by rfl, fun w ⟨nq, hw⟩ => by (subst hw; go_simp; first | exact ⟨rfl, rfl⟩ | rfl)⟩) (by go_simp <;> with_reducible rfl) ?_
                  refine wpAnyU_take (i := 2) (v := _) rfl (by kernel_rfl) (by kernel_rfl) (by kernel_rfl) (by kernel_rfl) (by kernel_rfl) (fun _ _ _ h => h) (Or.inl ⟨by rfl, fun w ⟨nq, hw⟩ => by (subst hw; go_simp; first | exact ⟨rfl, rfl⟩ | rfl)⟩) (by go_simp <;> with_reducible rfl) ?_
                  clear q0 q1 q2 q3
                  refine genUw (fun W => CX w Z g b4 S d a j W) (HX.out.keep (Below.refl _ _).drew) ?_
                  clear HX
                  intro W0 hx0
                  have hr := set_Range lo lo hlo hlo
                  refine wpAnyU_ready (CG.of (Hmk.out _ hx0.s4)) (rs := [3]) (by kernel_rfl) (by simp) ?_
                  refine (AllReadyU.cons rfl (fun K hK => ?_) AllReadyU.nil)
                  go_simp
                  refine Calls.mono ((hr W0)) ?_
                  rintro _ W1 ⟨rfl, hb⟩
                  dsimp only
                  refine hK _ _ ?_
                  clear hK K
                  have hx1 := hx0.keep hb
                  clear hb hx0 hr
                  refine wpAnyU_ready (CG.of (Hmk.out _ hx1.s4)) (rs := [4]) (by kernel_rfl) (by simp) ?_
                  refine (AllReadyU.cons rfl (fun K hK => ?_) AllReadyU.nil)
                  go_simp
                  refine Calls.mono ((k_join _ _ W1)) ?_
                  rintro _ W2 ⟨rfl, hb⟩
                  dsimp only
                  refine hK _ _ ?_
                  clear hK K
                  have hx2 := hx1.keep hb
                  clear hb hx1
                  refine wpAnyU_ready (CG.of (Hmk.out _ hx2.s4)) (rs := [5]) (by kernel_rfl) (by simp) ?_
                  refine (AllReadyU.cons rfl (fun K hK => ?_) AllReadyU.nil)
                  refine step_of rfl (store_set1 hx2.s4 (orB a (rngB lo lo)) _ _ rfl rfl rfl ?_)
                  refine hK _ _ ?_
                  clear hK K
                  refine wpAnyU_done (by kernel_rfl) (by kernel_rfl) (by go_simp <;> with_reducible rfl) ?_
                  have HX := Lib.hid (hx2.put (orB a (rngB lo lo)))
                  clear hx2 Hmk
                  repeat' (first | go_values | go_skip | go_guarded | go_step | go_upon)
                  go_roundg gk
                  case rel => exact ⟨_, false, j, rfl, hj, HC, HX⟩
                  case measure => omega
          · rw [if_neg h92] at hC
            have hcall := ps_is_n g S i' d 92 w4 HX.out.ps h92
            clear h92 hA
            refine Calls.mono (hcall) ?_
            rintro _ wv ⟨rfl, hb⟩
            dsimp only
            have HX := Lib.hid (HX.out.keep hb)
            clear hb hcall
            dsimp only at hC
            repeat' (first | go_values | go_skip | go_guarded | go_step | go_upon)
            have hp := ps_point g S i' d HS.out hi' wv HX.out.ps
            cases hP : pntR S.data.toList i' with
            | bad e0 j =>
              rw [hP] at hp hC
              have HC := Lib.hid hC.symm
              clear hC
              refine Calls.mono hp ?_
              rintro _ wy ⟨rfl, he⟩
              exact ⟨rfl, TPost.badI (by rw [HC.out]; rfl) ⟨rfl, HX.out.els.trans he⟩⟩
            | out => exact absurd hP pntR_out
            | ok lo j =>
              have hlo := pntR_lt hP
              have hj : j ≤ S.size := by have := ((pntR_in (s := S.data.toList) (i := i') (by rw [ba_len]; exact hi')).okB hP).2; rw [ba_len] at this; exact this
              rw [hP] at hp hC
              simp only [PR.bind] at hC
              clear hP
              refine Calls.mono (hp) ?_
              rintro _ wy ⟨rfl, hpy, hey⟩
              dsimp only
              have HX := Lib.hid (HX.out.go hpy hey)
              clear hp hpy hey
              by_cases h45 : isC S.data.toList j 45
              · rw [if_pos h45] at hC
                have ht := ps_take_y g S j d 45 (by have := HS.out; omega) wy HX.out.ps h45
                have hj1 : j + 1 ≤ S.size := by have := h45.1; rw [ba_len] at this; omega
                clear h45 hj
                obtain ⟨j1, hj1e⟩ : ∃ j1, j + 1 = j1 := ⟨_, rfl⟩
                rw [hj1e] at ht hC hj1
                have Hj1e := Lib.hid hj1e
                clear hj1e
                repeat' (first | go_values | go_skip | go_guarded | go_step | go_upon)
                refine Calls.mono (ht) ?_
                rintro _ wz ⟨rfl, hpz, hez⟩
                dsimp only
                have HX := Lib.hid (HX.out.go hpz hez)
                have c1 := HX.out.ps.c1
                clear ht hpz hez
                repeat' (first | go_values | go_skip | go_guarded | go_step | go_upon)
                have hp := ps_point g S j1 d HS.out hj1 wz HX.out.ps
                cases hP : pntR S.data.toList j1 with
                | bad e0 k =>
                  rw [hP] at hp hC
                  have HC := Lib.hid hC.symm
                  clear hC
                  refine Calls.mono hp ?_
                  rintro _ wq ⟨rfl, he⟩
                  exact ⟨rfl, TPost.badI (by rw [HC.out]; rfl) ⟨rfl, HX.out.els.trans he⟩⟩
                | out => exact absurd hP pntR_out
                | ok hi k =>
                  have hhi := pntR_lt hP
                  have hk : k ≤ S.size := by have := ((pntR_in (s := S.data.toList) (i := j1) (by rw [ba_len]; exact hj1)).okB hP).2; rw [ba_len] at this; exact this
                  rw [hP] at hp hC
                  dsimp only at hC
                  clear hP c1
                  refine Calls.mono (hp) ?_
                  rintro _ wq ⟨rfl, hpq, heq⟩
                  dsimp only
                  have HX := Lib.hid (HX.out.go hpq heq)
                  clear hp hpq heq
                  by_cases hl : hi < lo
                  · rw [if_pos hl] at hC
                    have HC := Lib.hid hC.symm
                    have hl' : (hi : Int) < (lo : Int) := by omega
                    clear hC hl
                    repeat' (first | go_values | go_skip | go_guarded | go_step | go_upon)
                    exact ⟨rfl, TPost.badI (by rw [HC.out]; rfl) ⟨rfl, HX.out.els⟩⟩
                  · rw [if_neg hl] at hC
                    have HC := Lib.hid hC
                    have hl' : ¬ (hi : Int) < (lo : Int) := by omega
                    clear hC hl hj1
                    repeat' (first | go_values | go_skip | go_guarded | go_step | go_upon)
                    obtain ⟨C, hC⟩ : ∃ C : World → Prop, C = fun W => SetAt W b4 a := ⟨_, rfl⟩
                    have Hmk : Hid (∀ W, SetAt W b4 a → C W) := Lib.hid (fun W h => by rw [hC]; exact h)
                    have hC' : ∀ W, C W → SetAt W b4 a := fun W h => by rw [hC] at h; exact h
                    have q0 : ∀ nq : GW C, nq.1.cell? ⟨b4, 0, none⟩ = some (.int .u64 (W a 0 : Nat)) := fun nq => (hC' _ nq.2).c0
                    have q1 : ∀ nq : GW C, nq.1.cell? ⟨b4, 1, none⟩ = some (.int .u64 (W a 1 : Nat)) := fun nq => (hC' _ nq.2).c1
                    have q2 : ∀ nq : GW C, nq.1.cell? ⟨b4, 2, none⟩ = some (.int .u64 (W a 2 : Nat)) := fun nq => (hC' _ nq.2).c2
                    have q3 : ∀ nq : GW C, nq.1.cell? ⟨b4, 3, none⟩ = some (.int .u64 (W a 3 : Nat)) := fun nq => (hC' _ nq.2).c3
                    clear hC hC'
                    refine wp_region_anyU (by kernel_rfl) C 5 ?_
                    refine wpAnyU_take (i := 0) (v := _) rfl (by kernel_rfl) (by kernel_rfl) (by kernel_rfl) (by kernel_rfl) (by kernel_rfl) (fun _ _ _ h => h) (Or.inl ⟨by rfl, fun w ⟨nq, hw⟩ => by (subst hw; go_simp; first | exact ⟨rfl, rfl⟩ | rfl)⟩) (by go_simp <;> with_reducible rfl) ?_
                    refine wpAnyU_take (i := 1) (v := _) rfl (by kernel_rfl) (by kernel_rfl) (by kernel_rfl) (by kernel_rfl) (by kernel_rfl) (fun _ _ _ h => h) (Or.inl ⟨by rfl, fun w ⟨nq, hw⟩ => by (subst hw; go_simp; first | exact ⟨rfl, rfl⟩ | rfl)⟩) (by go_simp <;> with_reducible rfl) ?_
                    refine wpAnyU_take (i := 2) (v := _) rfl (by kernel_rfl) (by kernel_rfl) (by kernel_rfl) (by kernel_rfl) (by kernel_rfl) (fun _ _ _ h => h) (Or.inl ⟨by rfl, fun w ⟨nq, hw⟩ => by (subst hw; go_simp; first | exact ⟨rfl, rfl⟩ | rfl)⟩) (by go_simp <;> with_reducible rfl) ?_
                    clear q0 q1 q2 q3
                    refine genUw (fun W => CX w Z g b4 S d a k W) (HX.out.keep (Below.refl _ _).drew) ?_
                    clear HX
                    intro W0 hx0
                    have hr := set_Range lo hi hlo hhi
                    refine wpAnyU_ready (CG.of (Hmk.out _ hx0.s4)) (rs := [3]) (by kernel_rfl) (by simp) ?_
                    refine (AllReadyU.cons rfl (fun K hK => ?_) AllReadyU.nil)
                    go_simp
                    refine Calls.mono ((hr W0)) ?_
                    rintro _ W1 ⟨rfl, hb⟩
                    dsimp only
                    refine hK _ _ ?_
                    clear hK K
                    have hx1 := hx0.keep hb
                    clear hb hx0 hr
                    refine wpAnyU_ready (CG.of (Hmk.out _ hx1.s4)) (rs := [4]) (by kernel_rfl) (by simp) ?_
                    refine (AllReadyU.cons rfl (fun K hK => ?_) AllReadyU.nil)
                    go_simp
                    refine Calls.mono ((k_join _ _ W1)) ?_
                    rintro _ W2 ⟨rfl, hb⟩
                    dsimp only
                    refine hK _ _ ?_
                    clear hK K
                    have hx2 := hx1.keep hb
                    clear hb hx1
                    refine wpAnyU_ready (CG.of (Hmk.out _ hx2.s4)) (rs := [5]) (by kernel_rfl) (by simp) ?_
                    refine (AllReadyU.cons rfl (fun K hK => ?_) AllReadyU.nil)
                    refine step_of rfl (store_set1 hx2.s4 (orB a (rngB lo hi)) _ _ rfl rfl rfl ?_)
                    refine hK _ _ ?_
                    clear hK K
                    refine wpAnyU_done (by kernel_rfl) (by kernel_rfl) (by go_simp <;> with_reducible rfl) ?_
                    have HX := Lib.hid (hx2.put (orB a (rngB lo hi)))
                    clear hx2 Hmk
                    repeat' (first | go_values | go_skip | go_guarded | go_step | go_upon)
                    go_roundg gk
                    case rel => exact ⟨_, false, k, rfl, hk, HC, HX⟩
                    case measure => omega
              · rw [if_neg h45] at hC
                have HC := Lib.hid hC
                have ht := ps_take_n g S j d 45 wy HX.out.ps h45
                clear hC h45
                repeat' (first | go_values | go_skip | go_guarded | go_step | go_upon)
                refine Calls.mono (ht) ?_
                rintro _ wz ⟨rfl, hb⟩
                dsimp only
                have HX := Lib.hid (HX.out.keep hb)
                clear ht hb
                repeat' (first | go_values | go_skip | go_guarded | go_step | go_upon)
                obtain ⟨C, hC⟩ : ∃ C : World → Prop, C = fun W => SetAt W b4 a := ⟨_, rfl⟩
                have Hmk : Hid (∀ W, SetAt W b4 a → C W) := Lib.hid (fun W h => by rw [hC]; exact h)
                have hC' : ∀ W, C W → SetAt W b4 a := fun W h => by rw [hC] at h; exact h
                have q0 : ∀ nq : GW C, nq.1.cell? ⟨b4, 0, none⟩ = some (.int .u64 (W a 0 : Nat)) := fun nq => (hC' _ nq.2).c0
                have q1 : ∀ nq : GW C, nq.1.cell? ⟨b4, 1, none⟩ = some (.int .u64 (W a 1 : Nat)) := fun nq => (hC' _ nq.2).c1
                have q2 : ∀ nq : GW C, nq.1.cell? ⟨b4, 2, none⟩ = some (.int .u64 (W a 2 : Nat)) := fun nq => (hC' _ nq.2).c2
                have q3 : ∀ nq : GW C, nq.1.cell? ⟨b4, 3, none⟩ = some (.int .u64 (W a 3 : Nat)) := fun nq => (hC' _ nq.2).c3
                clear hC hC'
                refine wp_region_anyU (by kernel_rfl) C 5 ?_
                refine wpAnyU_take (i := 0) (v := _) rfl (by kernel_rfl) (by kernel_rfl) (by kernel_rfl) (by kernel_rfl) (by kernel_rfl) (fun _ _ _ h => h) (Or.inl ⟨by rfl, fun w ⟨nq, hw⟩ => by (subst hw; go_simp; first | exact ⟨rfl, rfl⟩ | rfl)⟩) (by go_simp <;> with_reducible rfl) ?_
                refine wpAnyU_take (i := 1) (v := _) rfl (by kernel_rfl) (by kernel_rfl) (by kernel_rfl) (by kernel_rfl) (by kernel_rfl) (fun _ _ _ h => h) (Or.inl ⟨by rfl, fun w ⟨nq, hw⟩ => by (subst hw; go_simp; first | exact ⟨rfl, rfl⟩ | rfl)⟩) (by go_simp <;> with_reducible rfl) ?_
                refine wpAnyU_take (i := 2) (v := _) rfl (by kernel_rfl) (by kernel_rfl) (by kernel_rfl) (by kernel_rfl) (by kernel_rfl) (fun _ _ _ h => h) (Or.inl ⟨by rfl, fun w ⟨nq, hw⟩ => by (subst hw; go_simp; first | exact ⟨rfl, rfl⟩ | rfl)⟩) (by go_simp <;> with_reducible rfl) ?_
                clear q0 q1 q2 q3
                refine genUw (fun W => CX w Z g b4 S d a j W) (HX.out.keep (Below.refl _ _).drew) ?_
                clear HX
                intro W0 hx0
                have hr := set_Range lo lo hlo hlo
                refine wpAnyU_ready (CG.of (Hmk.out _ hx0.s4)) (rs := [3]) (by kernel_rfl) (by simp) ?_
                refine (AllReadyU.cons rfl (fun K hK => ?_) AllReadyU.nil)
                go_simp
                refine Calls.mono ((hr W0)) ?_
                rintro _ W1 ⟨rfl, hb⟩
                dsimp only
                refine hK _ _ ?_
                clear hK K
                have hx1 := hx0.keep hb
                clear hb hx0 hr
                refine wpAnyU_ready (CG.of (Hmk.out _ hx1.s4)) (rs := [4]) (by kernel_rfl) (by simp) ?_
                refine (AllReadyU.cons rfl (fun K hK => ?_) AllReadyU.nil)
                go_simp
                refine Calls.mono ((k_join _ _ W1)) ?_
                rintro _ W2 ⟨rfl, hb⟩
                dsimp only
                refine hK _ _ ?_
                clear hK K
                have hx2 := hx1.keep hb
                clear hb hx1
                refine wpAnyU_ready (CG.of (Hmk.out _ hx2.s4)) (rs := [5]) (by kernel_rfl) (by simp) ?_
                refine (AllReadyU.cons rfl (fun K hK => ?_) AllReadyU.nil)
                refine step_of rfl (store_set1 hx2.s4 (orB a (rngB lo lo)) _ _ rfl rfl rfl ?_)
                refine hK _ _ ?_
                clear hK K
                refine wpAnyU_done (by kernel_rfl) (by kernel_rfl) (by go_simp <;> with_reducible rfl) ?_
                have HX := Lib.hid (hx2.put (orB a (rngB lo lo)))
                clear hx2 Hmk
                repeat' (first | go_values | go_skip | go_guarded | go_step | go_upon)
                go_roundg gk
                case rel => exact ⟨_, false, j, rfl, hj, HC, HX⟩
                case measure => omega
end Go.Proofs.YtnbfifmnigeolaaDoor
namespace Go.Proofs.YtnbfifmnigeolaaDoor
open Go.RowKit Go.Lib
/-- the contract of a part, with so much fuel -/
def CT (g : Nat) (S : ByteArray) (fn : Nat) (k : Tk) (f : Nat) : Prop :=
  ∀ (d i : Nat) (w : World), i ≤ S.size → d ≤ 30 → PsAt w g S i d → prs S.data.toList f k d i ≠ .out → Calls Tryd.prog fn #[.pointer (some ⟨g, 0, none⟩)] w (TPost g S d w (prs S.data.toList f k d i))
/-- the result's box, the parser -/
structure AX (w : World) (Z g : Nat) (S : ByteArray) (d i : Nat) (W : World) : Prop where
  bx : ReBox W Z reZ
  ps : PsAt W g S i d
  els : Else g w W
  lt : g < Z
  sz : w.heap.size = Z
section
variable {w W W' : World} {Z g : Nat} {S : ByteArray} {d i : Nat}
theorem AX.keep (h : AX w Z g S d i W) (hb : Below W.heap.size W W') : AX w Z g S d i W' := ⟨h.bx.keep hb, h.ps.keep hb, h.els.trans (Else.of_below hb), h.lt, h.sz⟩
theorem AX.go {j d' : Nat} (h : AX w Z g S d i W) (hp : PsAt W' g S j d') (he : Else g W W') : AX w Z g S d' j W' := ⟨he.row h.bx (by have := h.lt; omega), hp, h.els.trans he, h.lt, h.sz⟩
theorem AX.grow {v : Option Nat} (h : AX w Z g S d i W) (hg : W.grownBy W' v) (hv : ∀ k, v = some k → Z + 1 ≤ k) : AX w Z g S d i W' := by
  have hk : ∀ k, k ≤ Z → W'.heap[k]? = W.heap[k]? := fun k hk => hg.block k (by have := h.bx.lt; omega) (fun e => by have := hv k e.symm; omega)
  refine ⟨by unfold ReBox; rw [hk Z (Nat.le_refl _)]; exact h.bx, by unfold PsAt; rw [hk g (by have := h.lt; omega)]; exact h.ps, ?_, h.lt, h.sz⟩
  exact ⟨hg.os.trans h.els.os, hg.tape.trans h.els.tape, hg.output.trans h.els.output, Nat.le_trans h.els.size hg.size, fun k hk' hne => (hk k (by have := h.sz; omega)).trans (h.els.block k hk' hne)⟩
/-- the result laid into its box -/
theorem AX.done {r : RN} {t : Re} (h : AX w Z g S d i W) (hx : ReX (Z + 1) g W r t) : ReX w.heap.size g (W.setRow Z (reC r).toArray) r t ∧ PsAt (W.setRow Z (reC r).toArray) g S i d ∧ Else g w (W.setRow Z (reC r).toArray) :=
  ⟨(hx.keep (fun k hk _ _ => setRow_other _ _ _ _ (by omega)) (by simp)).mono (by have := h.sz; omega), h.ps.row (by have := h.lt; omega), h.els.rowNew (by have := h.sz; omega) _⟩
end
theorem AX.start {w : World} {g : Nat} {S : ByteArray} {i d : Nat} (h : PsAt w g S i d) : AX w w.heap.size g S d i (w.alloc (.cells #[.int .i64 0, .int .u64 0, .int .u64 0, .int .u64 0, .int .u64 0, .int .i64 0, .int .i64 0, .slice none 0 0] 28)) :=
  ⟨ReBox.zero w, h.keep ((Below.refl _ _).alloc (Nat.le_refl _) _), Else.of_below ((Below.refl _ _).alloc (Nat.le_refl _) _), h.lt, rfl⟩
theorem LsAt.zp {B g : Nat} {w : World} {v : Value} {l : List Re} (h : LsAt B w v l) (hg : g < B) : ∃ rs, RowOf reC 8 w v rs ∧ Zp B g w rs l := by
  obtain ⟨rs, h1, h2, h3⟩ := h
  exact ⟨rs, h1.row, h2, fun i r t hr ht => h3 i r t hr ht g (.inr hg)⟩
set_option maxRecDepth 100000 in
set_option maxHeartbeats 4000000 in
theorem ps_alt (g : Nat) (S : ByteArray) (f : Nat) (hS : S.size ≤ 512) (IH : ∀ f', f' ≤ f → CT g S 28 (.cat []) f') : CT g S 15 .alt (f + 1) := by
  intro d i w hi hd h hn
  rw [prs] at hn ⊢
  have hcat := IH f (Nat.le_refl _) d i
  have hin := prs_in (s := S.data.toList) f (.cat []) d i (by rw [ba_len]; exact hi)
  have hsz := prs_sz (s := S.data.toList) f (.cat []) d i (by rw [ba_len]; exact hi)
  cases hX : prs S.data.toList f (.cat []) d i with
  | out => rw [hX] at hn; exact absurd rfl hn
  | bad e0 j =>
    have hc := fun (W : World) (hp : PsAt W g S i d) => hcat W hi hd hp (by rw [hX]; intro e; cases e)
    simp only [hX] at hc
    clear hcat hn hin hsz hX
    have HA := Lib.hid (AX.start h)
    clear h
    go_enter Tryd.func15, Tryd.ntmps15
    repeat' (go_not_at_region 1; first | go_values | go_skip | go_guarded | go_step | go_upon)
    generalize hZ : w.heap.size = Z at HA ⊢
    refine gen_wd (fun W => AX w Z g S d i W) HA.out ?_
    clear HA
    rintro w1 hj
    have HA := Lib.hid hj
    clear hj hZ
    repeat' (first | go_values | go_skip | go_guarded | go_step | go_upon)
    have hc := hc w1 HA.out.ps
    refine Calls.mono hc ?_
    rintro _ wy ⟨rfl, he⟩
    exact ⟨rfl, TPost.badI rfl ⟨rfl, HA.out.els.trans he⟩⟩
  | ok t0 j0 =>
    have hc := fun (W : World) (hp : PsAt W g S i d) => hcat W hi hd hp (by rw [hX]; intro e; cases e)
    simp only [hX] at hc
    have hj := hin.okB hX
    rw [ba_len] at hj
    have hs0 := hsz _ _ hX
    rw [hX] at hn
    simp only [PR.bind, Tk.bound, Re.szL] at hn hs0 ⊢
    obtain ⟨X0, hX0⟩ : ∃ X0, prs S.data.toList f (.altL [t0]) d j0 = X0 := ⟨_, rfl⟩
    rw [hX0] at hn ⊢
    have HX0 := Lib.hid hX0
    have HN := Lib.hid hn
    have hsl : Re.szL [t0] ≤ 2 * j0 + 1 := by simp only [Re.szL]; omega
    clear hcat hn hin hsz hX hX0 hs0
    have HA := Lib.hid (AX.start h)
    clear h
    go_enter Tryd.func15, Tryd.ntmps15
    repeat' (go_not_at_region 1; first | go_values | go_skip | go_guarded | go_step | go_upon)
    generalize hZ : w.heap.size = Z at HA ⊢
    refine gen_wd (fun W => AX w Z g S d i W) HA.out ?_
    clear HA
    rintro w1 hj
    have HA := Lib.hid hj
    clear hj hZ
    repeat' (first | go_values | go_skip | go_guarded | go_step | go_upon)
    have hc := hc w1 HA.out.ps
    refine Calls.mono (hc) ?_
    rintro _ w2 ⟨⟨r, rfl, hx⟩, hp, he⟩
    dsimp only
    have hzlt := HA.out.bx.lt
    have HA := Lib.hid (HA.out.go hp he)
    have HL : Hid (LsAt (Z + 1) (w2.alloc (.cells (reC r).toArray 28)) (.slice (some ⟨w2.heap.size, 0, none⟩) 1 1) [t0]) := Lib.hid (LsAt.single HA.out.bx.lt ⟨g, hx.mono hzlt⟩ fun q hq => (hx.mono hzlt).drop (.inl hq))
    have HA := Lib.hid (HA.out.keep ((Below.refl _ _).alloc (Nat.le_refl _) (.cells (reC r).toArray 28)))
    clear hc hx hp he hzlt
    dsimp only [reV, reC]
    repeat' (first | go_values | go_skip | go_guarded | go_step | go_upon)
    go_loopg [3] f (fun gk s3 wr => ∃ (l : List Re) (i' : Nat), i' ≤ S.size ∧ gk ≤ f ∧ Re.szL l ≤ 2 * i' + 1 ∧ Hid (prs S.data.toList gk (.altL l) d i' = X0) ∧ Hid (LsAt (Z + 1) wr s3 l) ∧ Hid (AX w Z g S d i' wr))
    case atStart => exact ⟨[t0], j0, hj.2, Nat.le_refl _, hsl, HX0, HL, HA⟩
    case round =>
      clear HX0 HL HA hsl hj hi
      obtain ⟨l, i', hi', hgf, hsl, HC, HL, HA⟩ := hrel
      cases gk with
      | zero => exact absurd (by rw [← HC.out, prs]) HN.out
      | succ gk =>
        have hC := HC.out
        rw [prs] at hC
        clear HC
        by_cases h124 : isC S.data.toList i' 124
        · rw [if_pos h124] at hC
          have ht := ps_take_y g S i' d 124 (by omega) wr HA.out.ps h124
          have hi1 : i' + 1 ≤ S.size := by have := h124.1; rw [ba_len] at this; omega
          have hcat := fun W hp hne => IH gk (by omega) d (i' + 1) W hi1 hd hp hne
          have hin := prs_in (s := S.data.toList) gk (.cat []) d (i' + 1) (by rw [ba_len]; exact hi1)
          have hsz := prs_sz (s := S.data.toList) gk (.cat []) d (i' + 1) (by rw [ba_len]; exact hi1)
          clear h124
          repeat' (first | go_values | go_skip | go_guarded | go_step | go_upon)
          refine Calls.mono (ht) ?_
          rintro _ w4 ⟨rfl, hp, he⟩
          dsimp only
          have HA := Lib.hid (HA.out.go hp he)
          have HL := Lib.hid (HL.out.els he (by have := HA.out.lt; omega))
          clear ht hp he
          repeat' (first | go_values | go_skip | go_guarded | go_step | go_upon)
          cases hX : prs S.data.toList gk (.cat []) d (i' + 1) with
          | out => rw [hX] at hC; exact absurd hC.symm HN.out
          | bad e0 j =>
            have hc := hcat w4 HA.out.ps (by rw [hX]; intro e; cases e)
            rw [hX] at hc hC
            have HC := Lib.hid hC.symm
            refine Calls.mono hc ?_
            rintro _ wy ⟨rfl, he⟩
            exact ⟨rfl, TPost.badI HC.out ⟨rfl, HA.out.els.trans he⟩⟩
          | ok t j =>
            have hc := hcat w4 HA.out.ps (by rw [hX]; intro e; cases e)
            have hj := hin.okB hX
            rw [ba_len] at hj
            have hs0 := hsz _ _ hX
            rw [hX] at hc hC
            simp only [PR.bind, Tk.bound, Re.szL, Tk.least] at hC hs0 hj
            have HC := Lib.hid hC
            clear hcat hin hsz hX hC
            refine Calls.mono (hc) ?_
            rintro _ w5 ⟨⟨r, rfl, hx⟩, hp, he⟩
            dsimp only
            have hz4 := HA.out.bx.lt
            have hr : Hid (∀ q, (u3.ownBlock = some q ∨ q < Z + 1) → ReX (Z + 1) q w5 r t) := Lib.hid (fun q hq => by
              obtain ⟨rs0, ho0, _⟩ := HL.out
              refine (hx.drop (p' := q) ?_).mono (by omega)
              rcases hq with hq | hq
              · have := (ho0.below hq).2; exact .inl this
              · exact .inl (by omega))
            have HA := Lib.hid (HA.out.go hp he)
            have HL := Lib.hid (HL.out.els he (by have := HA.out.lt; omega))
            clear hc hp he hz4
            obtain ⟨rs, hown, hrl, h3⟩ := HL.out
            have hlen : rs.length ≤ 2000 := by have := szL_len l; omega
            have hone := ReX.one hx
            have HXX := Lib.hid hx
            have HL3 := Lib.hid h3
            have HO := Lib.hid hown
            have hwB : Z + 1 ≤ w5.heap.size := HA.out.bx.lt
            clear h3
            dsimp only [reV, reC]
            repeat' (first | (at_builtin; go_loud (refine app_two 80 w5.heap.size rfl r reC_length (reC_oneAll hone) Tryd.underlying26 info_re3 rfl rfl _ _ rfl rfl rfl rfl hown hwB (by omega) (by unfold maxLen; omega) ?_); intro v6 w6 ho6 hg6 hs6) | go_values | go_skip | go_guarded | go_step | go_upon)
            have HSN := Lib.hid (LsAt.snoc (by omega) ho6 hrl HL3.out hr.out hg6 (fun k hk => Go.heap_alloc_old w5 _ hk) (by simp) hs6)
            have HA6 := Lib.hid ((HA.out.keep ((Below.refl _ _).alloc (Nat.le_refl _) (.cells (reC r).toArray 28))).grow hg6 fun k hk => (HO.out.below hk).1)
            go_roundg gk
            case rel => exact ⟨l ++ [t], j, hj.2, by omega, by rw [szL_append]; simp only [Re.szL]; omega, HC, HSN, HA6⟩
            case measure => omega
        · rw [if_neg h124] at hC
          have HC := Lib.hid hC
          have ht := ps_take_n g S i' d 124 wr HA.out.ps h124
          clear hC h124
          repeat' (first | go_values | go_skip | go_guarded | go_step | go_upon)
          refine Calls.mono (ht) ?_
          rintro _ w4 ⟨rfl, hb⟩
          dsimp only
          have HA := Lib.hid (HA.out.keep hb)
          have HL := Lib.hid (HL.out.keepB hb)
          clear ht hb
          obtain ⟨rs, hrow, hz⟩ := HL.out.zp (g := g) (by have := HA.out.lt; omega)
          have hj := re_join 3 (by unfold I64; omega) (Z + 1) g _ rs l w4 hrow hz HA.out.bx.lt (by have := HA.out.lt; omega) (by omega)
          clear hrow hz HL
          repeat' (first | go_values | go_skip | go_guarded | go_step | go_upon)
          refine Calls.mono (hj) ?_
          rintro _ wj ⟨rj, rfl, hxj, hbj⟩
          dsimp only
          have HA := Lib.hid (HA.out.keep hbj)
          have hone := hxj.one
          have HD := Lib.hid (HA.out.done hxj)
          have HM := Lib.hid HA.out.bx
          clear hj hxj hbj
          repeat' (first | (refine store_box HM.out rj hone _ _ rfl rfl rfl ?_; dsimp only [Act.put]) | go_values | go_skip | go_guarded | go_step | go_upon)
          refine bodyPost_ret (results_re rfl _ _ _ _ rfl (HM.out.set _)) rfl ?_
          exact TPost.okI HC.out.symm ⟨⟨_, rfl, HD.out.1⟩, HD.out.2.1, HD.out.2.2⟩
end Go.Proofs.YtnbfifmnigeolaaDoor
namespace Go.Proofs.YtnbfifmnigeolaaDoor
open Go.RowKit Go.Lib
set_option maxRecDepth 100000 in
set_option maxHeartbeats 4000000 in
theorem ps_cat (g : Nat) (S : ByteArray) (f : Nat) (hS : S.size ≤ 512) (IH : ∀ f', f' < f → CT g S 51 .item f') : CT g S 28 (.cat []) f := by
  intro d i w hi hd h hn
  obtain ⟨X0, hX0⟩ : ∃ X0, prs S.data.toList f (.cat []) d i = X0 := ⟨_, rfl⟩
  rw [hX0] at hn ⊢
  have HX0 := Lib.hid hX0
  have HN := Lib.hid hn
  clear hn hX0
  have HA := Lib.hid (AX.start h)
  clear h
  go_enter Tryd.func28, Tryd.ntmps28
  repeat' (go_not_at_region 1; first | go_values | go_skip | go_guarded | go_step | go_upon)
  generalize hZ : w.heap.size = Z at HA ⊢
  refine gen_wd (fun W => AX w Z g S d i W) HA.out ?_
  clear HA
  rintro w1 hj
  have HA := Lib.hid hj
  clear hj hZ
  repeat' (first | go_values | go_skip | go_guarded | go_step | go_upon)
  go_loopg [3] f (fun gk s3 wr => ∃ (l : List Re) (i' : Nat), i' ≤ S.size ∧ gk ≤ f ∧ Re.szL l ≤ 2 * i' ∧ Hid (prs S.data.toList gk (.cat l) d i' = X0) ∧ Hid (LsAt (Z + 1) wr s3 l) ∧ Hid (AX w Z g S d i' wr))
  case atStart => exact ⟨[], i, hi, Nat.le_refl _, Nat.zero_le _, HX0, Lib.hid (LsAt.nil _ _), HA⟩
  case round =>
    clear HX0 HA hi
    obtain ⟨l, i', hi', hgf, hsl, HC, HL, HA⟩ := hrel
    cases gk with
    | zero => exact absurd (by rw [← HC.out, prs]) HN.out
    | succ gk =>
      have hC := HC.out
      rw [prs, ba_len] at hC
      clear HC
      by_cases hlt : i' < S.size
      · have hlt' : (i' : Int) < S.size := by omega
        have hC' : ∀ c, isC S.data.toList i' c ↔ bt S.data.toList i' = c := fun c => ⟨fun q => q.2, fun q => ⟨by rw [ba_len]; exact hlt, q⟩⟩
        by_cases h124 : isC S.data.toList i' 124
        · rw [if_neg (fun q => q.2.1 ((hC' 124).1 h124))] at hC
          have HC := Lib.hid hC
          have HI := Lib.hid h124
          clear hC hC' h124 hlt
          have q0 : ∀ nq : WB wr, nq.1.cell? ⟨g, 0, none⟩ = some (.string S) := fun nq => (HA.out.ps.keep nq.2).c0
          have q1 : ∀ nq : WB wr, nq.1.cell? ⟨g, 1, none⟩ = some (.int .i64 (i' : Int)) := fun nq => (HA.out.ps.keep nq.2).c1
          have k124 : ∀ n : WB wr, Calls Tryd.prog 50 #[.pointer (some ⟨g, 0, none⟩), .int .u8 124] n.1 (fun e w' => e = .returned (.bool true) ∧ Below n.1.heap.size n.1 w') := fun n => ps_is_y g S i' d 124 n.1 (HA.out.ps.keep n.2) HI.out
          skip
          repeat' (first | go_values | go_skip | go_guarded | go_step | go_upon)
          refine wp_region_wb (by kernel_rfl) (by kernel_rfl) wr (Below.refl _ _) ?_
          repeat (go_big_quiet_step ((go_at_call 50; exact calls_wb (k124 _))))
          refine wpQuiet_nil ?_
          rintro _ ⟨nr, rfl⟩
          have HA := Lib.hid (HA.out.keep nr.2)
          have HL := Lib.hid (HL.out.keepB nr.2)
          clear q0 q1
          clear k124
          obtain ⟨rs, hrow, hz⟩ := HL.out.zp (g := g) (by have := HA.out.lt; omega)
          have hj := re_join 2 (by unfold I64; omega) (Z + 1) g _ rs l nr.1 hrow hz HA.out.bx.lt (by have := HA.out.lt; omega) (by omega)
          clear hrow hz HL
          repeat' (first | go_values | go_skip | go_guarded | go_step | go_upon)
          refine Calls.mono (hj) ?_
          rintro _ wj ⟨rj, rfl, hxj, hbj⟩
          dsimp only
          have HA := Lib.hid (HA.out.keep hbj)
          have hone := hxj.one
          have HD := Lib.hid (HA.out.done hxj)
          have HM := Lib.hid HA.out.bx
          clear hj hxj hbj
          repeat' (first | (refine store_box HM.out rj hone _ _ rfl rfl rfl ?_; dsimp only [Act.put]) | go_values | go_skip | go_guarded | go_step | go_upon)
          refine bodyPost_ret (results_re rfl _ _ _ _ rfl (HM.out.set _)) rfl ?_
          exact TPost.okI HC.out.symm ⟨⟨_, rfl, HD.out.1⟩, HD.out.2.1, HD.out.2.2⟩
        by_cases h41 : isC S.data.toList i' 41
        · rw [if_neg (fun q => q.2.2 ((hC' 41).1 h41))] at hC
          have HC := Lib.hid hC
          have HI := Lib.hid h124
          have HJ := Lib.hid h41
          clear hC hC' h124 h41 hlt
          have q0 : ∀ nq : WB wr, nq.1.cell? ⟨g, 0, none⟩ = some (.string S) := fun nq => (HA.out.ps.keep nq.2).c0
          have q1 : ∀ nq : WB wr, nq.1.cell? ⟨g, 1, none⟩ = some (.int .i64 (i' : Int)) := fun nq => (HA.out.ps.keep nq.2).c1
          have k124 : ∀ n : WB wr, Calls Tryd.prog 50 #[.pointer (some ⟨g, 0, none⟩), .int .u8 124] n.1 (fun e w' => e = .returned (.bool false) ∧ Below n.1.heap.size n.1 w') := fun n => ps_is_n g S i' d 124 n.1 (HA.out.ps.keep n.2) HI.out
          have k41 : ∀ n : WB wr, Calls Tryd.prog 50 #[.pointer (some ⟨g, 0, none⟩), .int .u8 41] n.1 (fun e w' => e = .returned (.bool true) ∧ Below n.1.heap.size n.1 w') := fun n => ps_is_y g S i' d 41 n.1 (HA.out.ps.keep n.2) HJ.out
          repeat' (first | go_values | go_skip | go_guarded | go_step | go_upon)
          refine wp_region_wb (by kernel_rfl) (by kernel_rfl) wr (Below.refl _ _) ?_
          repeat (go_big_quiet_step ((go_at_call 50; first|with_reducible exact calls_wb (k124 _)|with_reducible exact calls_wb (k41 _))))
          refine wpQuiet_nil ?_
          rintro _ ⟨nr, rfl⟩
          have HA := Lib.hid (HA.out.keep nr.2)
          have HL := Lib.hid (HL.out.keepB nr.2)
          clear q0 q1
          clear k124 k41
          obtain ⟨rs, hrow, hz⟩ := HL.out.zp (g := g) (by have := HA.out.lt; omega)
          have hj := re_join 2 (by unfold I64; omega) (Z + 1) g _ rs l nr.1 hrow hz HA.out.bx.lt (by have := HA.out.lt; omega) (by omega)
          clear hrow hz HL
          repeat' (first | go_values | go_skip | go_guarded | go_step | go_upon)
          refine Calls.mono (hj) ?_
          rintro _ wj ⟨rj, rfl, hxj, hbj⟩
          dsimp only
          have HA := Lib.hid (HA.out.keep hbj)
          have hone := hxj.one
          have HD := Lib.hid (HA.out.done hxj)
          have HM := Lib.hid HA.out.bx
          clear hj hxj hbj
          repeat' (first | (refine store_box HM.out rj hone _ _ rfl rfl rfl ?_; dsimp only [Act.put]) | go_values | go_skip | go_guarded | go_step | go_upon)
          refine bodyPost_ret (results_re rfl _ _ _ _ rfl (HM.out.set _)) rfl ?_
          exact TPost.okI HC.out.symm ⟨⟨_, rfl, HD.out.1⟩, HD.out.2.1, HD.out.2.2⟩
        · rw [if_pos ⟨hlt, fun q => h124 ((hC' 124).2 q), fun q => h41 ((hC' 41).2 q)⟩] at hC
          have HI := Lib.hid h124
          have HJ := Lib.hid h41
          have hitem := fun W hp hne => IH gk (by omega) d i' W hi' hd hp hne
          have hin := prs_in (s := S.data.toList) gk .item d i' (by rw [ba_len]; exact hi')
          have hsz := prs_sz (s := S.data.toList) gk .item d i' (by rw [ba_len]; exact hi')
          clear hC' h124 h41 hlt
          have q0 : ∀ nq : WB wr, nq.1.cell? ⟨g, 0, none⟩ = some (.string S) := fun nq => (HA.out.ps.keep nq.2).c0
          have q1 : ∀ nq : WB wr, nq.1.cell? ⟨g, 1, none⟩ = some (.int .i64 (i' : Int)) := fun nq => (HA.out.ps.keep nq.2).c1
          have k124 : ∀ n : WB wr, Calls Tryd.prog 50 #[.pointer (some ⟨g, 0, none⟩), .int .u8 124] n.1 (fun e w' => e = .returned (.bool false) ∧ Below n.1.heap.size n.1 w') := fun n => ps_is_n g S i' d 124 n.1 (HA.out.ps.keep n.2) HI.out
          have k41 : ∀ n : WB wr, Calls Tryd.prog 50 #[.pointer (some ⟨g, 0, none⟩), .int .u8 41] n.1 (fun e w' => e = .returned (.bool false) ∧ Below n.1.heap.size n.1 w') := fun n => ps_is_n g S i' d 41 n.1 (HA.out.ps.keep n.2) HJ.out
          repeat' (first | go_values | go_skip | go_guarded | go_step | go_upon)
          refine wp_region_wb (by kernel_rfl) (by kernel_rfl) wr (Below.refl _ _) ?_
          repeat (go_big_quiet_step ((go_at_call 50; first|with_reducible exact calls_wb (k124 _)|with_reducible exact calls_wb (k41 _))))
          refine wpQuiet_nil ?_
          rintro _ ⟨nr, rfl⟩
          have HA := Lib.hid (HA.out.keep nr.2)
          have HL := Lib.hid (HL.out.keepB nr.2)
          clear q0 q1
          clear k124 k41 HI HJ
          repeat' (first | go_values | go_skip | go_guarded | go_step | go_upon)
          cases hX : prs S.data.toList gk .item d i' with
          | out => rw [hX] at hC; exact absurd hC.symm HN.out
          | bad e0 j =>
            have hc := hitem nr.1 HA.out.ps (by rw [hX]; intro e; cases e)
            rw [hX] at hc hC
            have HC := Lib.hid hC.symm
            refine Calls.mono hc ?_
            rintro _ wy ⟨rfl, he⟩
            exact ⟨rfl, TPost.badI HC.out ⟨rfl, HA.out.els.trans he⟩⟩
          | ok t j =>
            have hc := hitem nr.1 HA.out.ps (by rw [hX]; intro e; cases e)
            have hj := hin.okB hX
            rw [ba_len] at hj
            have hs0 := hsz _ _ hX
            rw [hX] at hc hC
            simp only [PR.bind, Tk.bound, Tk.least] at hC hs0 hj
            have HC := Lib.hid hC
            clear hitem hin hsz hX hC
            refine Calls.mono (hc) ?_
            rintro _ w5 ⟨⟨r, rfl, hx⟩, hp, he⟩
            dsimp only
            have hz4 := HA.out.bx.lt
            have hr : Hid (∀ q, (u3.ownBlock = some q ∨ q < Z + 1) → ReX (Z + 1) q w5 r t) := Lib.hid (fun q hq => by
              obtain ⟨rs0, ho0, _⟩ := HL.out
              refine (hx.drop (p' := q) ?_).mono (by omega)
              rcases hq with hq | hq
              · have := (ho0.below hq).2; exact .inl this
              · exact .inl (by omega))
            have HA := Lib.hid (HA.out.go hp he)
            have HL := Lib.hid (HL.out.els he (by have := HA.out.lt; omega))
            clear hc hp he hz4
            obtain ⟨rs, hown, hrl, h3⟩ := HL.out
            have hlen : rs.length ≤ 2000 := by have := szL_len l; omega
            have hone := ReX.one hx
            have HXX := Lib.hid hx
            have HL3 := Lib.hid h3
            have HO := Lib.hid hown
            have hwB : Z + 1 ≤ w5.heap.size := HA.out.bx.lt
            clear h3
            dsimp only [reV, reC]
            repeat' (first | (at_builtin; go_loud (refine app_two 80 w5.heap.size rfl r reC_length (reC_oneAll hone) Tryd.underlying26 info_re3 rfl rfl _ _ rfl rfl rfl rfl hown hwB (by omega) (by unfold maxLen; omega) ?_); intro v6 w6 ho6 hg6 hs6) | go_values | go_skip | go_guarded | go_step | go_upon)
            have HSN := Lib.hid (LsAt.snoc (by omega) ho6 hrl HL3.out hr.out hg6 (fun k hk => Go.heap_alloc_old w5 _ hk) (by simp) hs6)
            have HA6 := Lib.hid ((HA.out.keep ((Below.refl _ _).alloc (Nat.le_refl _) (.cells (reC r).toArray 28))).grow hg6 fun k hk => (HO.out.below hk).1)
            go_roundg gk
            case rel => exact ⟨l ++ [t], j, hj.2, by omega, by rw [szL_append]; simp only [Re.szL]; omega, HC, HSN, HA6⟩
            case measure => omega
      · have hlt' : ¬ (i' : Int) < S.size := by omega
        rw [if_neg (fun q => hlt q.1)] at hC
        have HC := Lib.hid hC
        clear hC hlt
        have q0 : ∀ nq : WB wr, nq.1.cell? ⟨g, 0, none⟩ = some (.string S) := fun nq => (HA.out.ps.keep nq.2).c0
        have q1 : ∀ nq : WB wr, nq.1.cell? ⟨g, 1, none⟩ = some (.int .i64 (i' : Int)) := fun nq => (HA.out.ps.keep nq.2).c1
        skip
        skip
        repeat' (first | go_values | go_skip | go_guarded | go_step | go_upon)
        refine wp_region_wb (by kernel_rfl) (by kernel_rfl) wr (Below.refl _ _) ?_
        repeat (go_big_quiet_step ((fail)))
        refine wpQuiet_nil ?_
        rintro _ ⟨nr, rfl⟩
        have HA := Lib.hid (HA.out.keep nr.2)
        have HL := Lib.hid (HL.out.keepB nr.2)
        clear q0 q1
        obtain ⟨rs, hrow, hz⟩ := HL.out.zp (g := g) (by have := HA.out.lt; omega)
        have hj := re_join 2 (by unfold I64; omega) (Z + 1) g _ rs l nr.1 hrow hz HA.out.bx.lt (by have := HA.out.lt; omega) (by omega)
        clear hrow hz HL
        repeat' (first | go_values | go_skip | go_guarded | go_step | go_upon)
        refine Calls.mono (hj) ?_
        rintro _ wj ⟨rj, rfl, hxj, hbj⟩
        dsimp only
        have HA := Lib.hid (HA.out.keep hbj)
        have hone := hxj.one
        have HD := Lib.hid (HA.out.done hxj)
        have HM := Lib.hid HA.out.bx
        clear hj hxj hbj
        repeat' (first | (refine store_box HM.out rj hone _ _ rfl rfl rfl ?_; dsimp only [Act.put]) | go_values | go_skip | go_guarded | go_step | go_upon)
        refine bodyPost_ret (results_re rfl _ _ _ _ rfl (HM.out.set _)) rfl ?_
        exact TPost.okI HC.out.symm ⟨⟨_, rfl, HD.out.1⟩, HD.out.2.1, HD.out.2.2⟩
end Go.Proofs.YtnbfifmnigeolaaDoor
