/- Walk: a class (class). Conditions: a text of at most 512 bytes; a place within it. -/
import Derived.Test.YtnbfifmnigeolaaPrsTree
import Derived.Test.YtnbfifmnigeolaaPrsEsc
namespace Go.Proofs.Ytnbfifmnigeolaa
open Go.RowKit Go.Lib
theorem genUw {P : Program} {md : Region.Mode} {ops : Array Oper} {C : World → Prop} {u : Nat} {Q : Exit → Act → World → Prop} {fuel : Nat} {listed : Array Bool} {a : Act} {w : World} (F : World → Prop) (hF : F w) (h : ∀ w', F w' → wpAnyU P md ops C u Q fuel listed a w') : wpAnyU P md ops C u Q fuel listed a w := h w hF
theorem escR_lt {s : List UInt8} {i a j : Nat} (h : escR s i = .ok a j) : a < 256 := by
  unfold escR at h
  split at h
  · split at h
    · simp only [PR.ok.injEq] at h; omega
    split at h
    · simp only [PR.ok.injEq] at h; omega
    split at h
    · simp only [PR.ok.injEq] at h; omega
    split at h
    · cases hx : hexR s (i + 1) with
      | ok b k =>
        rw [hx] at h
        simp only [PR.bind] at h
        cases hy : hexR s k with
        | ok c l =>
          rw [hy] at h
          simp only [PR.ok.injEq] at h
          have := hexR_lt hx
          have := hexR_lt hy
          omega
        | bad e l => rw [hy] at h; cases h
        | out => rw [hy] at h; cases h
      | bad e k => rw [hx] at h; cases h
      | out => rw [hx] at h; cases h
    split at h
    · simp only [PR.ok.injEq] at h; have := bt_lt s i; omega
    · cases h
  · cases h
theorem pntR_lt {s : List UInt8} {i a j : Nat} (h : pntR s i = .ok a j) : a < 256 := by
  unfold pntR at h
  split at h
  · exact escR_lt h
  split at h
  · simp only [PR.ok.injEq] at h; have := bt_lt s i; omega
  · cases h
/-- what a step that makes a tree tells -/
def TPost (g : Nat) (S : ByteArray) (d : Nat) (w : World) (x : PR Re) (e : Ending) (w' : World) : Prop :=
  match x with
  | .ok t j => (∃ r, e = .returned (reV r) ∧ ReX w.heap.size g w' r t) ∧ PsAt w' g S j d ∧ Else g w w'
  | .bad e0 j => e = stopE e0 j ∧ Else g w w'
  | .out => False
theorem TPost.okI {g : Nat} {S : ByteArray} {d : Nat} {w : World} {x : PR Re} {e : Ending} {w' : World} {t : Re} {j : Nat} (hx : x = .ok t j) (h : (∃ r, e = .returned (reV r) ∧ ReX w.heap.size g w' r t) ∧ PsAt w' g S j d ∧ Else g w w') : TPost g S d w x e w' := by subst hx; exact h
theorem TPost.badI {g : Nat} {S : ByteArray} {d : Nat} {w : World} {x : PR Re} {e : Ending} {w' : World} {a j : Nat} (hx : x = .bad a j) (h : e = stopE a j ∧ Else g w w') : TPost g S d w x e w' := by subst hx; exact h
/-- take, whichever it is -/
theorem ps_take (g : Nat) (S : ByteArray) (i d c : Nat) (hi : i ≤ 512) (w : World) (h : PsAt w g S i d) :
    Calls Try.prog 13 #[.pointer (some ⟨g, 0, none⟩), .int .u8 (c : Int)] w fun e w' => e = .returned (.bool (decide (isC S.data.toList i c))) ∧ PsAt w' g S (if isC S.data.toList i c then i + 1 else i) d ∧ Else g w w' := by
  by_cases hc : isC S.data.toList i c
  · rw [decide_eq_true hc, if_pos hc]; exact ps_take_y g S i d c hi w h hc
  · rw [decide_eq_false hc, if_neg hc]; exact (ps_take_n g S i d c w h hc).mono fun _ _ ⟨he, hb⟩ => ⟨he, h.keep hb, Else.of_below hb⟩
/-- the boxes of 'class' -/
structure CX (w : World) (Z g b4 : Nat) (S : ByteArray) (d : Nat) (a : Nat → Bool) (i : Nat) (W : World) : Prop where
  s4 : SetAt W b4 a
  bx : ReBox W Z reZ
  ps : PsAt W g S i d
  els : Else g w W
  lt : g < Z ∧ Z < b4
  sz : w.heap.size = Z
section
variable {w W W' : World} {Z g b4 : Nat} {S : ByteArray} {d i : Nat} {a : Nat → Bool}
theorem CX.keep (h : CX w Z g b4 S d a i W) (hb : Below W.heap.size W W') : CX w Z g b4 S d a i W' := ⟨h.s4.keep hb, h.bx.keep hb, h.ps.keep hb, h.els.trans (Else.of_below hb), h.lt, h.sz⟩
theorem CX.go {j : Nat} (h : CX w Z g b4 S d a i W) (hp : PsAt W' g S j d) (he : Else g W W') : CX w Z g b4 S d a j W' :=
  ⟨he.row h.s4 (by have := h.lt; omega), he.row h.bx (by have := h.lt; omega), hp, h.els.trans he, h.lt, h.sz⟩
theorem CX.put (h : CX w Z g b4 S d a i W) (q : Nat → Bool) : CX w Z g b4 S d q i (W.setRow b4 (sc q)) :=
  ⟨h.s4.set, h.bx.other (by have := h.lt; omega), h.ps.row (by have := h.lt; omega), h.els.rowNew (by have := h.lt; have := h.sz; omega) _, h.lt, h.sz⟩
theorem CX.setI (h : CX w Z g b4 S d a i W) (j : Nat) : CX w Z g b4 S d a j (W.setCell ⟨g, 1, none⟩ (.int .i64 (j : Int))) := h.go (h.ps.set1 j) ((Else.refl g W).setCell _ _)
end
set_option maxRecDepth 100000 in
set_option maxHeartbeats 8000000 in
theorem ps_class (g : Nat) (S : ByteArray) (f i d : Nat) (hS : S.size ≤ 512) (hi : i ≤ S.size) (hf : clsR S.data.toList f i ≠ .out) (w : World) (h : PsAt w g S i d) :
    Calls Try.prog 23 #[.pointer (some ⟨g, 0, none⟩)] w (TPost g S d w (clsR S.data.toList f i)) := by
  obtain ⟨nt, hnt⟩ : ∃ nt, decide (isC S.data.toList i 94) = nt := ⟨_, rfl⟩
  obtain ⟨i0, hi0⟩ : ∃ i0, (if isC S.data.toList i 94 then i + 1 else i) = i0 := ⟨_, rfl⟩
  have hi0b : i0 ≤ S.size := by
    rw [← hi0]
    split
    · rename_i hc; have := hc.1; rw [ba_len] at this; omega
    · exact hi
  obtain ⟨X0, hX0⟩ : ∃ X0, clsL S.data.toList f (fun _ => false) true i0 = X0 := ⟨_, rfl⟩
  have hX : clsR S.data.toList f i = X0.bind fun a j => .ok (setT (if nt = true then notB a else a)) (j + 1) := by
    unfold clsR
    rw [← hX0, ← hi0, ← hnt]
    by_cases hc : isC S.data.toList i 94
    · rw [if_pos hc, if_pos hc, decide_eq_true hc]; rfl
    · rw [if_neg hc, if_neg hc, decide_eq_false hc]; rfl
  have hX0n : X0 ≠ .out := fun e => hf (by rw [hX, e]; rfl)
  rw [hX]
  have hcall := fun (W : World) (hp : PsAt W g S i d) => ps_take g S i d 94 (by omega) W hp
  simp only [hnt, hi0] at hcall
  have HH := Lib.hid h
  have HA : Hid (ReBox (w.alloc (.cells #[.int .i64 0, .int .u64 0, .int .u64 0, .int .u64 0, .int .u64 0, .int .i64 0, .int .i64 0, .slice none 0 0] 29)) w.heap.size reZ ∧ Below w.heap.size w (w.alloc (.cells #[.int .i64 0, .int .u64 0, .int .u64 0, .int .u64 0, .int .u64 0, .int .i64 0, .int .i64 0, .slice none 0 0] 29)) ∧ PsAt (w.alloc (.cells #[.int .i64 0, .int .u64 0, .int .u64 0, .int .u64 0, .int .u64 0, .int .i64 0, .int .i64 0, .slice none 0 0] 29)) g S i d ∧ g < w.heap.size) :=
    Lib.hid ⟨ReBox.zero w, (Below.refl _ _).alloc (Nat.le_refl _) _, h.keep ((Below.refl _ _).alloc (Nat.le_refl _) _), h.lt⟩
  have HX0 := Lib.hid hX0
  have HXn := Lib.hid hX0n
  have HS := Lib.hid hS
  clear h hX hnt hi0 hX0 hX0n hf hi hS
  go_enter Try.func23, Try.ntmps23
  repeat' (go_not_at_region 1; first | go_values | go_skip | go_guarded | go_step | go_upon)
  generalize hZ : w.heap.size = Z at HA ⊢
  refine gen_wd (fun W => ReBox W Z reZ ∧ Below Z w W ∧ PsAt W g S i d ∧ g < Z) HA.out ?_
  clear HA
  rintro w1 ⟨hr, hb, hp, hgz⟩
  have HR := Lib.hid hr
  have HE := Lib.hid (Else.of_below (g := g) (w := w) (w' := w1) (by rw [hZ]; exact hb))
  have hc := hcall w1 hp
  have HZ := Lib.hid (And.intro hgz hZ)
  clear hr hb hp hgz hZ hcall HH
  repeat' (first | go_values | go_skip | go_guarded | go_step | go_upon)
  refine Calls.mono (hc) ?_
  rintro _ w2 ⟨rfl, hp, he⟩
  dsimp only
  have HX : Hid (CX w Z g w2.heap.size S d (fun _ => false) i0 (w2.alloc (.cells #[.int .u64 0, .int .u64 0, .int .u64 0, .int .u64 0] 26))) := Lib.hid (by
    have hk := (Below.refl w2.heap.size w2).alloc (Nat.le_refl _) (.cells #[.int .u64 0, .int .u64 0, .int .u64 0, .int .u64 0] 26)
    have hbx : ReBox w2 Z reZ := he.row HR.out (by have := HZ.out; omega)
    exact ⟨SetAt.zero w2, hbx.keep hk, hp.keep hk, (HE.out.trans he).trans (Else.of_below hk), ⟨HZ.out.1, hbx.lt⟩, HZ.out.2⟩)
  clear hp he hc HR HE HZ
  repeat' (go_not_at_region 3; first | go_values | go_skip | go_guarded | go_step | go_upon)
  generalize w2.heap.size = b4 at HX ⊢
  refine gen_wd (fun W => CX w Z g b4 S d (fun _ => false) i0 W) HX.out ?_
  clear HX
  rintro w3 hx
  have HX := Lib.hid hx
  clear hx
  repeat' (first | go_values | go_skip | go_guarded | go_step | go_upon)
  go_loopg [5] f (fun gk s5 wr => ∃ (a : Nat → Bool) (first : Bool) (i' : Nat), s5 = .bool first ∧ i' ≤ S.size ∧ Hid (clsL S.data.toList gk a first i' = X0) ∧ Hid (CX w Z g b4 S d a i' wr))
  case atStart => exact ⟨_, true, i0, rfl, hi0b, HX0, HX⟩
  case round =>
    clear HX0 HX hi0b
    obtain ⟨a, first, i', rfl, hi', HC, HX⟩ := hrel
    cases gk with
    | zero => exact absurd (by rw [← HC.out, clsL]) HXn.out
    | succ gk =>
      have hC := HC.out
      rw [clsL] at hC
      clear HC
      by_cases hA : first = false ∧ isC S.data.toList i' 93
      · rw [if_pos hA] at hC
        obtain ⟨rfl, h93⟩ := hA
        have HC := Lib.hid hC.symm
        have HI := Lib.hid h93
        have hcall := ps_is_y g S i' d 93 wr HX.out.ps h93
        clear hC h93
        repeat' (first | go_values | go_skip | go_guarded | go_step | go_upon)
        refine Calls.mono (hcall) ?_
        rintro _ w4 ⟨rfl, hb⟩
        dsimp only
        have HX := Lib.hid (HX.out.keep hb)
        clear hb hcall
        repeat' (first | go_values | go_skip | go_guarded | go_step | go_upon)
        have hm := ps_must_y g S i' d 93 (by have := HS.out; omega) w4 HX.out.ps HI.out
        refine Calls.mono (hm) ?_
        rintro _ w5 ⟨rfl, hp, he⟩
        dsimp only
        have HX := Lib.hid (HX.out.go hp he)
        clear hp he hm
        cases nt with
        | true =>
          have HL := Lib.hid HX.out.s4
          repeat' (first | (with_reducible refine load_set1 HL.out _ rfl rfl ?_; dsimp only [Act.put]) | go_values | go_skip | go_guarded | go_step | go_upon)
          refine Calls.mono ((k_not _ _)) ?_
          rintro _ w6 ⟨rfl, hb6⟩
          dsimp only
          have HX := Lib.hid (HX.out.keep hb6)
          clear hb6 HL
          have H4 := Lib.hid HX.out.s4
          have HX := Lib.hid (HX.out.put (notB a))
          have HL := Lib.hid HX.out.s4
          have HM := Lib.hid HX.out.bx
          repeat' (first | (with_reducible refine store_set1 H4.out _ _ _ rfl rfl rfl ?_; dsimp only [Act.put]) | (with_reducible refine load_set1 HL.out _ rfl rfl ?_; dsimp only [Act.put]) | (refine store_box HM.out (setN (notB a)) rfl _ _ rfl rfl rfl ?_; dsimp only [Act.put]) | go_values | go_skip | go_guarded | go_step | go_upon)
          refine bodyPost_ret (results_re rfl _ _ _ _ rfl (HM.out.set _)) rfl ?_
          exact TPost.okI (by rw [HC.out]; rfl) ⟨⟨_, rfl, ReX.setT _ _ _ _⟩, HX.out.ps.row (by have := HX.out.lt; omega), HX.out.els.rowNew (by have := HX.out.sz; omega) _⟩
        | false =>
          have HL := Lib.hid HX.out.s4
          have HM := Lib.hid HX.out.bx
          repeat' (first | (with_reducible refine load_set1 HL.out _ rfl rfl ?_; dsimp only [Act.put]) | (refine store_box HM.out (setN a) rfl _ _ rfl rfl rfl ?_; dsimp only [Act.put]) | go_values | go_skip | go_guarded | go_step | go_upon)
          refine bodyPost_ret (results_re rfl _ _ _ _ rfl (HM.out.set _)) rfl ?_
          exact TPost.okI (by rw [HC.out]; rfl) ⟨⟨_, rfl, ReX.setT _ _ _ _⟩, HX.out.ps.row (by have := HX.out.lt; omega), HX.out.els.rowNew (by have := HX.out.sz; omega) _⟩
      · rw [if_neg hA] at hC
        cases first with
        | true =>
          repeat' (first | go_values | go_skip | go_guarded | go_step | go_upon)
          by_cases h92 : isC S.data.toList i' 92
          · rw [if_pos h92] at hC
            have hcall := ps_is_y g S i' d 92 wr HX.out.ps h92
            have hi1 : i' + 1 ≤ S.size := by have := h92.1; rw [ba_len] at this; omega
            have hS512 := HS.out
            have hw : IntKind.i64.wrap ((i' : Int) + 1) = ((i' + 1 : Nat) : Int) := by rw [wi64 (by unfold I64; omega)]; omega
            have hw2 : IntKind.i64.wrap (((i' + 1 : Nat) : Int) - 1) = (i' : Int) := by rw [wi64 (by unfold I64; omega)]; omega
            have Hlt := Lib.hid (fun (k : Nat → Bool) (h : kndR S.data.toList (i' + 1) = some k) => kndR_lt h)
            have HI2 : Hid (i' + 1 + 1 = i' + 2) := Lib.hid rfl
            obtain ⟨i1, hi1e⟩ : ∃ i1, i' + 1 = i1 := ⟨_, rfl⟩
            rw [hi1e] at hw hw2 hC hi1 HI2 Hlt
            have hi1512 : i1 ≤ 512 := by omega
            clear h92 hA hi1e hS512
            refine Calls.mono (hcall) ?_
            rintro _ wv ⟨rfl, hb⟩
            dsimp only
            have HX := Lib.hid (HX.out.keep hb)
            have c1 := HX.out.ps.c1
            have f1 := HX.out.ps.free 1
            clear hb hcall
            have HY := Lib.hid (HX.out.setI i1)
            repeat' (first | go_values | go_skip | go_guarded | go_step | go_upon)
            have hk := ps_kind g S i1 d hi1512 _ HY.out.ps
            clear c1 f1 HX
            cases hK : kndR S.data.toList i1 with
            | some p =>
              rw [hK] at hk hC
              have HI3 := Lib.hid (Hlt.out p hK)
              dsimp only at hC
              have HC := Lib.hid hC
              clear hK hC hw2
              refine Calls.mono (hk) ?_
              rintro _ wk ⟨rfl, hpk, hek⟩
              dsimp only
              have HX := Lib.hid (HY.out.go hpk hek)
              clear hk hpk hek
              have HL4 := Lib.hid (HX.out.keep ((Below.refl _ _).alloc (Nat.le_refl _) (.cells (sc p) 26))).s4
              have HL6 : Hid (SetAt (wk.alloc (.cells (sc p) 26)) wk.heap.size p) := Lib.hid (Go.heap_alloc_new _ _)
              have HXb := Lib.hid (HX.out.keep ((Below.refl _ _).alloc (Nat.le_refl _) (.cells (sc p) 26)))
              repeat' (first | (with_reducible refine load_set1 HL4.out _ rfl rfl ?_; dsimp only [Act.put]) | (with_reducible refine load_set1 HL6.out _ rfl rfl ?_; dsimp only [Act.put]) | go_values | go_skip | go_guarded | go_step | go_upon)
              refine Calls.mono ((k_join _ _ _)) ?_
              rintro _ wm ⟨rfl, hb⟩
              dsimp only
              have HX := Lib.hid (HXb.out.keep hb)
              clear hb HXb HL4 HL6
              repeat' (first | (with_reducible refine store_set1 HX.out.s4 _ _ _ rfl rfl rfl ?_; dsimp only [Act.put]) | go_values | go_skip | go_guarded | go_step | go_upon)
              go_roundg gk
              case rel => exact ⟨_, false, i1 + 1, rfl, by have := HI3.out; rw [ba_len] at this; omega, by rw [HI2.out]; exact HC, Lib.hid (HX.out.put (orB a p))⟩
              case measure => omega
            | none =>
              rw [hK] at hk hC
              dsimp only at hC
              clear hK
              refine Calls.mono (hk) ?_
              rintro _ wk ⟨rfl, hpk, hek⟩
              dsimp only
              have HX := Lib.hid (HY.out.go hpk hek)
              have HXb := Lib.hid (HX.out.keep ((Below.refl _ _).alloc (Nat.le_refl _) (.cells (sc fun _ => false) 26)))
              clear hk hpk hek HY HX
              have c1 := HXb.out.ps.c1
              have f1 := HXb.out.ps.free 1
              have HX := Lib.hid (HXb.out.setI i')
              repeat' (first | go_values | go_skip | go_guarded | go_step | go_upon)
              clear c1 f1 HXb hw hw2 hi1 hi1512 Hlt HI2
              have hp := ps_point g S i' d HS.out hi' _ HX.out.ps
              cases hP : pntR S.data.toList i' with
              | bad e0 j =>
                rw [hP] at hp hC
                have HC := Lib.hid hC.symm
                clear hC
                refine Calls.mono hp ?_
                rintro _ wy ⟨rfl, he⟩
                exact ⟨rfl, TPost.badI (by rw [HC.out]; rfl) ⟨rfl, HX.out.els.trans he⟩⟩
              | out => exact absurd hP pntR_out
              | ok lo j =>
                have hlo := pntR_lt hP
                have hj : j ≤ S.size := by have := ((pntR_in (s := S.data.toList) (i := i') (by rw [ba_len]; exact hi')).okB hP).2; rw [ba_len] at this; exact this
                rw [hP] at hp hC
                simp only [PR.bind] at hC
                clear hP
                refine Calls.mono (hp) ?_
                rintro _ wy ⟨rfl, hpy, hey⟩
                dsimp only
                have HX := Lib.hid (HX.out.go hpy hey)
                clear hp hpy hey
                by_cases h45 : isC S.data.toList j 45
                · rw [if_pos h45] at hC
                  have ht := ps_take_y g S j d 45 (by have := HS.out; omega) wy HX.out.ps h45
                  have hj1 : j + 1 ≤ S.size := by have := h45.1; rw [ba_len] at this; omega
                  clear h45 hj
                  obtain ⟨j1, hj1e⟩ : ∃ j1, j + 1 = j1 := ⟨_, rfl⟩
                  rw [hj1e] at ht hC hj1
                  have Hj1e := Lib.hid hj1e
                  clear hj1e
                  repeat' (first | go_values | go_skip | go_guarded | go_step | go_upon)
                  refine Calls.mono (ht) ?_
                  rintro _ wz ⟨rfl, hpz, hez⟩
                  dsimp only
                  have HX := Lib.hid (HX.out.go hpz hez)
                  have c1 := HX.out.ps.c1
                  clear ht hpz hez
                  repeat' (first | go_values | go_skip | go_guarded | go_step | go_upon)
                  have hp := ps_point g S j1 d HS.out hj1 wz HX.out.ps
                  cases hP : pntR S.data.toList j1 with
                  | bad e0 k =>
                    rw [hP] at hp hC
                    have HC := Lib.hid hC.symm
                    clear hC
                    refine Calls.mono hp ?_
                    rintro _ wq ⟨rfl, he⟩
                    exact ⟨rfl, TPost.badI (by rw [HC.out]; rfl) ⟨rfl, HX.out.els.trans he⟩⟩
                  | out => exact absurd hP pntR_out
                  | ok hi k =>
                    have hhi := pntR_lt hP
                    have hk : k ≤ S.size := by have := ((pntR_in (s := S.data.toList) (i := j1) (by rw [ba_len]; exact hj1)).okB hP).2; rw [ba_len] at this; exact this
                    rw [hP] at hp hC
                    dsimp only at hC
                    clear hP c1
                    refine Calls.mono (hp) ?_
                    rintro _ wq ⟨rfl, hpq, heq⟩
                    dsimp only
                    have HX := Lib.hid (HX.out.go hpq heq)
                    clear hp hpq heq
                    by_cases hl : hi < lo
                    · rw [if_pos hl] at hC
                      have HC := Lib.hid hC.symm
                      have hl' : (hi : Int) < (lo : Int) := by omega
                      clear hC hl
                      repeat' (first | go_values | go_skip | go_guarded | go_step | go_upon)
                      exact ⟨rfl, TPost.badI (by rw [HC.out]; rfl) ⟨rfl, HX.out.els⟩⟩
                    · rw [if_neg hl] at hC
                      have HC := Lib.hid hC
                      have hl' : ¬ (hi : Int) < (lo : Int) := by omega
                      clear hC hl hj1
                      repeat' (first | go_values | go_skip | go_guarded | go_step | go_upon)
                      obtain ⟨C, hC⟩ : ∃ C : World → Prop, C = fun W => SetAt W b4 a := ⟨_, rfl⟩
                      have Hmk : Hid (∀ W, SetAt W b4 a → C W) := Lib.hid (fun W h => by rw [hC]; exact h)
                      have hC' : ∀ W, C W → SetAt W b4 a := fun W h => by rw [hC] at h; exact h
                      have q0 : ∀ nq : GW C, nq.1.cell? ⟨b4, 0, none⟩ = some (.int .u64 (W a 0 : Nat)) := fun nq => (hC' _ nq.2).c0
                      have q1 : ∀ nq : GW C, nq.1.cell? ⟨b4, 1, none⟩ = some (.int .u64 (W a 1 : Nat)) := fun nq => (hC' _ nq.2).c1
                      have q2 : ∀ nq : GW C, nq.1.cell? ⟨b4, 2, none⟩ = some (.int .u64 (W a 2 : Nat)) := fun nq => (hC' _ nq.2).c2
                      have q3 : ∀ nq : GW C, nq.1.cell? ⟨b4, 3, none⟩ = some (.int .u64 (W a 3 : Nat)) := fun nq => (hC' _ nq.2).c3
                      clear hC hC'
                      refine wp_region_anyU (by kernel_rfl) C 5 ?_
                      refine wpAnyU_take (i := 0) (v := _) rfl (by kernel_rfl) (by kernel_rfl) (by kernel_rfl) (by kernel_rfl) (by kernel_rfl) (fun _ _ _ h => h) (Or.inl ⟨by rfl, fun w ⟨nq, hw⟩ => by (subst hw; go_simp; first | exact ⟨rfl, rfl⟩ | rfl)⟩) (by go_simp <;> with_reducible rfl) ?_
                      refine wpAnyU_take (i := 1) (v := _) rfl (by kernel_rfl) (by kernel_rfl) (by kernel_rfl) (by kernel_rfl) (by kernel_rfl) (fun _ _ _ h => h) (Or.inl ⟨by rfl, fun w ⟨nq, hw⟩ => by (subst hw; go_simp; first | exact ⟨rfl, rfl⟩ | rfl)⟩) (by go_simp <;> with_reducible rfl) ?_
                      refine wpAnyU_take (i := 2) (v := _) rfl (by kernel_rfl) (by kernel_rfl) (by kernel_rfl) (by kernel_rfl) (by kernel_rfl) (fun _ _ _ h => h) (Or.inl ⟨by rfl, fun w ⟨nq, hw⟩ => by (subst hw; go_simp; first | exact ⟨rfl, rfl⟩ | rfl)⟩) (by go_simp <;> with_reducible rfl) ?_
                      clear q0 q1 q2 q3
                      refine genUw (fun W => CX w Z g b4 S d a k W) (HX.out.keep (Below.refl _ _).drew) ?_
                      clear HX
                      intro W0 hx0
                      have hr := set_Range lo hi hlo hhi
                      refine wpAnyU_ready (CG.of (Hmk.out _ hx0.s4)) (rs := [3]) (by kernel_rfl) (by simp) ?_
                      refine (AllReadyU.cons rfl (fun K hK => ?_) AllReadyU.nil)
                      go_simp
                      refine Calls.mono ((hr W0)) ?_
                      rintro _ W1 ⟨rfl, hb⟩
                      dsimp only
                      refine hK _ _ ?_
                      clear hK K
                      have hx1 := hx0.keep hb
                      clear hb hx0 hr
                      refine wpAnyU_ready (CG.of (Hmk.out _ hx1.s4)) (rs := [4]) (by kernel_rfl) (by simp) ?_
                      refine (AllReadyU.cons rfl (fun K hK => ?_) AllReadyU.nil)
                      go_simp
                      refine Calls.mono ((k_join _ _ W1)) ?_
                      rintro _ W2 ⟨rfl, hb⟩
                      dsimp only
                      refine hK _ _ ?_
                      clear hK K
                      have hx2 := hx1.keep hb
                      clear hb hx1
                      refine wpAnyU_ready (CG.of (Hmk.out _ hx2.s4)) (rs := [5]) (by kernel_rfl) (by simp) ?_
                      refine (AllReadyU.cons rfl (fun K hK => ?_) AllReadyU.nil)
                      refine step_of rfl (store_set1 hx2.s4 (orB a (rngB lo hi)) _ _ rfl rfl rfl ?_)
                      refine hK _ _ ?_
                      clear hK K
                      refine wpAnyU_done (by kernel_rfl) (by kernel_rfl) (by go_simp <;> with_reducible rfl) ?_
                      have HX := Lib.hid (hx2.put (orB a (rngB lo hi)))
                      clear hx2 Hmk
                      repeat' (first | go_values | go_skip | go_guarded | go_step | go_upon)
                      go_roundg gk
                      case rel => exact ⟨_, false, k, rfl, hk, HC, HX⟩
                      case measure => omega
                · rw [if_neg h45] at hC
                  have HC := Lib.hid hC
                  have ht := ps_take_n g S j d 45 wy HX.out.ps h45
                  clear hC h45
                  repeat' (first | go_values | go_skip | go_guarded | go_step | go_upon)
                  refine Calls.mono (ht) ?_
                  rintro _ wz ⟨rfl, hb⟩
                  dsimp only
                  have HX := Lib.hid (HX.out.keep hb)
                  clear ht hb
                  repeat' (first | go_values | go_skip | go_guarded | go_step | go_upon)
                  obtain ⟨C, hC⟩ : ∃ C : World → Prop, C = fun W => SetAt W b4 a := ⟨_, rfl⟩
                  have Hmk : Hid (∀ W, SetAt W b4 a → C W) := Lib.hid (fun W h => by rw [hC]; exact h)
                  have hC' : ∀ W, C W → SetAt W b4 a := fun W h => by rw [hC] at h; exact h
                  have q0 : ∀ nq : GW C, nq.1.cell? ⟨b4, 0, none⟩ = some (.int .u64 (W a 0 : Nat)) := fun nq => (hC' _ nq.2).c0
                  have q1 : ∀ nq : GW C, nq.1.cell? ⟨b4, 1, none⟩ = some (.int .u64 (W a 1 : Nat)) := fun nq => (hC' _ nq.2).c1
                  have q2 : ∀ nq : GW C, nq.1.cell? ⟨b4, 2, none⟩ = some (.int .u64 (W a 2 : Nat)) := fun nq => (hC' _ nq.2).c2
                  have q3 : ∀ nq : GW C, nq.1.cell? ⟨b4, 3, none⟩ = some (.int .u64 (W a 3 : Nat)) := fun nq => (hC' _ nq.2).c3
                  clear hC hC'
                  refine wp_region_anyU (by kernel_rfl) C 5 ?_
                  refine wpAnyU_take (i := 0) (v := _) rfl (by kernel_rfl) (by kernel_rfl) (by kernel_rfl) (by kernel_rfl) (by kernel_rfl) (fun _ _ _ h => h) (Or.inl ⟨by rfl, fun w ⟨nq, hw⟩ => by (subst hw; go_simp; first | exact ⟨rfl, rfl⟩ | rfl)⟩) (by go_simp <;> with_reducible rfl) ?_
                  refine wpAnyU_take (i := 1) (v := _) rfl (by kernel_rfl) (by kernel_rfl) (by kernel_rfl) (by kernel_rfl) (by kernel_rfl) (fun _ _ _ h => h) (Or.inl ⟨by rfl, fun w ⟨nq, hw⟩ => by (subst hw; go_simp; first | exact ⟨rfl, rfl⟩ | rfl)⟩) (by go_simp <;> with_reducible rfl) ?_
                  refine wpAnyU_take (i := 2) (v := _) rfl (by kernel_rfl) (by kernel_rfl) (by kernel_rfl) (by kernel_rfl) (by kernel_rfl) (fun _ _ _ h => h) (Or.inl ⟨by rfl, fun w ⟨nq, hw⟩ => by (subst hw; go_simp; first | exact ⟨rfl, rfl⟩ | rfl)⟩) (by go_simp <;> with_reducible rfl) ?_
                  clear q0 q1 q2 q3
                  refine genUw (fun W => CX w Z g b4 S d a j W) (HX.out.keep (Below.refl _ _).drew) ?_
                  clear HX
                  intro W0 hx0
                  have hr := set_Range lo lo hlo hlo
                  refine wpAnyU_ready (CG.of (Hmk.out _ hx0.s4)) (rs := [3]) (by kernel_rfl) (by simp) ?_
                  refine (AllReadyU.cons rfl (fun K hK => ?_) AllReadyU.nil)
                  go_simp
                  refine Calls.mono ((hr W0)) ?_
                  rintro _ W1 ⟨rfl, hb⟩
                  dsimp only
                  refine hK _ _ ?_
                  clear hK K
                  have hx1 := hx0.keep hb
                  clear hb hx0 hr
                  refine wpAnyU_ready (CG.of (Hmk.out _ hx1.s4)) (rs := [4]) (by kernel_rfl) (by simp) ?_
                  refine (AllReadyU.cons rfl (fun K hK => ?_) AllReadyU.nil)
                  go_simp
                  refine Calls.mono ((k_join _ _ W1)) ?_
                  rintro _ W2 ⟨rfl, hb⟩
                  dsimp only
                  refine hK _ _ ?_
                  clear hK K
                  have hx2 := hx1.keep hb
                  clear hb hx1
                  refine wpAnyU_ready (CG.of (Hmk.out _ hx2.s4)) (rs := [5]) (by kernel_rfl) (by simp) ?_
                  refine (AllReadyU.cons rfl (fun K hK => ?_) AllReadyU.nil)
                  refine step_of rfl (store_set1 hx2.s4 (orB a (rngB lo lo)) _ _ rfl rfl rfl ?_)
                  refine hK _ _ ?_
                  clear hK K
                  refine wpAnyU_done (by kernel_rfl) (by kernel_rfl) (by go_simp <;> with_reducible rfl) ?_
                  have HX := Lib.hid (hx2.put (orB a (rngB lo lo)))
                  clear hx2 Hmk
                  repeat' (first | go_values | go_skip | go_guarded | go_step | go_upon)
                  go_roundg gk
                  case rel => exact ⟨_, false, j, rfl, hj, HC, HX⟩
                  case measure => omega
          · rw [if_neg h92] at hC
            have hcall := ps_is_n g S i' d 92 wr HX.out.ps h92
            clear h92 hA
            refine Calls.mono (hcall) ?_
            rintro _ wv ⟨rfl, hb⟩
            dsimp only
            have HX := Lib.hid (HX.out.keep hb)
            clear hb hcall
            dsimp only at hC
            repeat' (first | go_values | go_skip | go_guarded | go_step | go_upon)
            have hp := ps_point g S i' d HS.out hi' wv HX.out.ps
            cases hP : pntR S.data.toList i' with
            | bad e0 j =>
              rw [hP] at hp hC
              have HC := Lib.hid hC.symm
              clear hC
              refine Calls.mono hp ?_
              rintro _ wy ⟨rfl, he⟩
              exact ⟨rfl, TPost.badI (by rw [HC.out]; rfl) ⟨rfl, HX.out.els.trans he⟩⟩
            | out => exact absurd hP pntR_out
            | ok lo j =>
              have hlo := pntR_lt hP
              have hj : j ≤ S.size := by have := ((pntR_in (s := S.data.toList) (i := i') (by rw [ba_len]; exact hi')).okB hP).2; rw [ba_len] at this; exact this
              rw [hP] at hp hC
              simp only [PR.bind] at hC
              clear hP
              refine Calls.mono (hp) ?_
              rintro _ wy ⟨rfl, hpy, hey⟩
              dsimp only
              have HX := Lib.hid (HX.out.go hpy hey)
              clear hp hpy hey
              by_cases h45 : isC S.data.toList j 45
              · rw [if_pos h45] at hC
                have ht := ps_take_y g S j d 45 (by have := HS.out; omega) wy HX.out.ps h45
                have hj1 : j + 1 ≤ S.size := by have := h45.1; rw [ba_len] at this; omega
                clear h45 hj
                obtain ⟨j1, hj1e⟩ : ∃ j1, j + 1 = j1 := ⟨_, rfl⟩
                rw [hj1e] at ht hC hj1
                have Hj1e := Lib.hid hj1e
                clear hj1e
                repeat' (first | go_values | go_skip | go_guarded | go_step | go_upon)
                refine Calls.mono (ht) ?_
                rintro _ wz ⟨rfl, hpz, hez⟩
                dsimp only
                have HX := Lib.hid (HX.out.go hpz hez)
                have c1 := HX.out.ps.c1
                clear ht hpz hez
                repeat' (first | go_values | go_skip | go_guarded | go_step | go_upon)
                have hp := ps_point g S j1 d HS.out hj1 wz HX.out.ps
                cases hP : pntR S.data.toList j1 with
                | bad e0 k =>
                  rw [hP] at hp hC
                  have HC := Lib.hid hC.symm
                  clear hC
                  refine Calls.mono hp ?_
                  rintro _ wq ⟨rfl, he⟩
                  exact ⟨rfl, TPost.badI (by rw [HC.out]; rfl) ⟨rfl, HX.out.els.trans he⟩⟩
                | out => exact absurd hP pntR_out
                | ok hi k =>
                  have hhi := pntR_lt hP
                  have hk : k ≤ S.size := by have := ((pntR_in (s := S.data.toList) (i := j1) (by rw [ba_len]; exact hj1)).okB hP).2; rw [ba_len] at this; exact this
                  rw [hP] at hp hC
                  dsimp only at hC
                  clear hP c1
                  refine Calls.mono (hp) ?_
                  rintro _ wq ⟨rfl, hpq, heq⟩
                  dsimp only
                  have HX := Lib.hid (HX.out.go hpq heq)
                  clear hp hpq heq
                  by_cases hl : hi < lo
                  · rw [if_pos hl] at hC
                    have HC := Lib.hid hC.symm
                    have hl' : (hi : Int) < (lo : Int) := by omega
                    clear hC hl
                    repeat' (first | go_values | go_skip | go_guarded | go_step | go_upon)
                    exact ⟨rfl, TPost.badI (by rw [HC.out]; rfl) ⟨rfl, HX.out.els⟩⟩
                  · rw [if_neg hl] at hC
                    have HC := Lib.hid hC
                    have hl' : ¬ (hi : Int) < (lo : Int) := by omega
                    clear hC hl hj1
                    repeat' (first | go_values | go_skip | go_guarded | go_step | go_upon)
                    obtain ⟨C, hC⟩ : ∃ C : World → Prop, C = fun W => SetAt W b4 a := ⟨_, rfl⟩
                    have Hmk : Hid (∀ W, SetAt W b4 a → C W) := Lib.hid (fun W h => by rw [hC]; exact h)
                    have hC' : ∀ W, C W → SetAt W b4 a := fun W h => by rw [hC] at h; exact h
                    have q0 : ∀ nq : GW C, nq.1.cell? ⟨b4, 0, none⟩ = some (.int .u64 (W a 0 : Nat)) := fun nq => (hC' _ nq.2).c0
                    have q1 : ∀ nq : GW C, nq.1.cell? ⟨b4, 1, none⟩ = some (.int .u64 (W a 1 : Nat)) := fun nq => (hC' _ nq.2).c1
                    have q2 : ∀ nq : GW C, nq.1.cell? ⟨b4, 2, none⟩ = some (.int .u64 (W a 2 : Nat)) := fun nq => (hC' _ nq.2).c2
                    have q3 : ∀ nq : GW C, nq.1.cell? ⟨b4, 3, none⟩ = some (.int .u64 (W a 3 : Nat)) := fun nq => (hC' _ nq.2).c3
                    clear hC hC'
                    refine wp_region_anyU (by kernel_rfl) C 5 ?_
                    refine wpAnyU_take (i := 0) (v := _) rfl (by kernel_rfl) (by kernel_rfl) (by kernel_rfl) (by kernel_rfl) (by kernel_rfl) (fun _ _ _ h => h) (Or.inl ⟨by rfl, fun w ⟨nq, hw⟩ => by (subst hw; go_simp; first | exact ⟨rfl, rfl⟩ | rfl)⟩) (by go_simp <;> with_reducible rfl) ?_
                    refine wpAnyU_take (i := 1) (v := _) rfl (by kernel_rfl) (by kernel_rfl) (by kernel_rfl) (by kernel_rfl) (by kernel_rfl) (fun _ _ _ h => h) (Or.inl ⟨by rfl, fun w ⟨nq, hw⟩ => by (subst hw; go_simp; first | exact ⟨rfl, rfl⟩ | rfl)⟩) (by go_simp <;> with_reducible rfl) ?_
                    refine wpAnyU_take (i := 2) (v := _) rfl (by kernel_rfl) (by kernel_rfl) (by kernel_rfl) (by kernel_rfl) (by kernel_rfl) (fun _ _ _ h => h) (Or.inl ⟨by rfl, fun w ⟨nq, hw⟩ => by (subst hw; go_simp; first | exact ⟨rfl, rfl⟩ | rfl)⟩) (by go_simp <;> with_reducible rfl) ?_
                    clear q0 q1 q2 q3
                    refine genUw (fun W => CX w Z g b4 S d a k W) (HX.out.keep (Below.refl _ _).drew) ?_
                    clear HX
                    intro W0 hx0
                    have hr := set_Range lo hi hlo hhi
                    refine wpAnyU_ready (CG.of (Hmk.out _ hx0.s4)) (rs := [3]) (by kernel_rfl) (by simp) ?_
                    refine (AllReadyU.cons rfl (fun K hK => ?_) AllReadyU.nil)
                    go_simp
                    refine Calls.mono ((hr W0)) ?_
                    rintro _ W1 ⟨rfl, hb⟩
                    dsimp only
                    refine hK _ _ ?_
                    clear hK K
                    have hx1 := hx0.keep hb
                    clear hb hx0 hr
                    refine wpAnyU_ready (CG.of (Hmk.out _ hx1.s4)) (rs := [4]) (by kernel_rfl) (by simp) ?_
                    refine (AllReadyU.cons rfl (fun K hK => ?_) AllReadyU.nil)
                    go_simp
                    refine Calls.mono ((k_join _ _ W1)) ?_
                    rintro _ W2 ⟨rfl, hb⟩
                    dsimp only
                    refine hK _ _ ?_
                    clear hK K
                    have hx2 := hx1.keep hb
                    clear hb hx1
                    refine wpAnyU_ready (CG.of (Hmk.out _ hx2.s4)) (rs := [5]) (by kernel_rfl) (by simp) ?_
                    refine (AllReadyU.cons rfl (fun K hK => ?_) AllReadyU.nil)
                    refine step_of rfl (store_set1 hx2.s4 (orB a (rngB lo hi)) _ _ rfl rfl rfl ?_)
                    refine hK _ _ ?_
                    clear hK K
                    refine wpAnyU_done (by kernel_rfl) (by kernel_rfl) (by go_simp <;> with_reducible rfl) ?_
                    have HX := Lib.hid (hx2.put (orB a (rngB lo hi)))
                    clear hx2 Hmk
                    repeat' (first | go_values | go_skip | go_guarded | go_step | go_upon)
                    go_roundg gk
                    case rel => exact ⟨_, false, k, rfl, hk, HC, HX⟩
                    case measure => omega
              · rw [if_neg h45] at hC
                have HC := Lib.hid hC
                have ht := ps_take_n g S j d 45 wy HX.out.ps h45
                clear hC h45
                repeat' (first | go_values | go_skip | go_guarded | go_step | go_upon)
                refine Calls.mono (ht) ?_
                rintro _ wz ⟨rfl, hb⟩
                dsimp only
                have HX := Lib.hid (HX.out.keep hb)
                clear ht hb
                repeat' (first | go_values | go_skip | go_guarded | go_step | go_upon)
                obtain ⟨C, hC⟩ : ∃ C : World → Prop, C = fun W => SetAt W b4 a := ⟨_, rfl⟩
                have Hmk : Hid (∀ W, SetAt W b4 a → C W) := Lib.hid (fun W h => by rw [hC]; exact h)
                have hC' : ∀ W, C W → SetAt W b4 a := fun W h => by rw [hC] at h; exact h
                have q0 : ∀ nq : GW C, nq.1.cell? ⟨b4, 0, none⟩ = some (.int .u64 (W a 0 : Nat)) := fun nq => (hC' _ nq.2).c0
                have q1 : ∀ nq : GW C, nq.1.cell? ⟨b4, 1, none⟩ = some (.int .u64 (W a 1 : Nat)) := fun nq => (hC' _ nq.2).c1
                have q2 : ∀ nq : GW C, nq.1.cell? ⟨b4, 2, none⟩ = some (.int .u64 (W a 2 : Nat)) := fun nq => (hC' _ nq.2).c2
                have q3 : ∀ nq : GW C, nq.1.cell? ⟨b4, 3, none⟩ = some (.int .u64 (W a 3 : Nat)) := fun nq => (hC' _ nq.2).c3
                clear hC hC'
                refine wp_region_anyU (by kernel_rfl) C 5 ?_
                refine wpAnyU_take (i := 0) (v := _) rfl (by kernel_rfl) (by kernel_rfl) (by kernel_rfl) (by kernel_rfl) (by kernel_rfl) (fun _ _ _ h => h) (Or.inl ⟨by rfl, fun w ⟨nq, hw⟩ => by (subst hw; go_simp; first | exact ⟨rfl, rfl⟩ | rfl)⟩) (by go_simp <;> with_reducible rfl) ?_
                refine wpAnyU_take (i := 1) (v := _) rfl (by kernel_rfl) (by kernel_rfl) (by kernel_rfl) (by kernel_rfl) (by kernel_rfl) (fun _ _ _ h => h) (Or.inl ⟨by rfl, fun w ⟨nq, hw⟩ => by (subst hw; go_simp; first | exact ⟨rfl, rfl⟩ | rfl)⟩) (by go_simp <;> with_reducible rfl) ?_
                refine wpAnyU_take (i := 2) (v := _) rfl (by kernel_rfl) (by kernel_rfl) (by kernel_rfl) (by kernel_rfl) (by kernel_rfl) (fun _ _ _ h => h) (Or.inl ⟨by rfl, fun w ⟨nq, hw⟩ => by (subst hw; go_simp; first | exact ⟨rfl, rfl⟩ | rfl)⟩) (by go_simp <;> with_reducible rfl) ?_
                clear q0 q1 q2 q3
                refine genUw (fun W => CX w Z g b4 S d a j W) (HX.out.keep (Below.refl _ _).drew) ?_
                clear HX
                intro W0 hx0
                have hr := set_Range lo lo hlo hlo
                refine wpAnyU_ready (CG.of (Hmk.out _ hx0.s4)) (rs := [3]) (by kernel_rfl) (by simp) ?_
                refine (AllReadyU.cons rfl (fun K hK => ?_) AllReadyU.nil)
                go_simp
                refine Calls.mono ((hr W0)) ?_
                rintro _ W1 ⟨rfl, hb⟩
                dsimp only
                refine hK _ _ ?_
                clear hK K
                have hx1 := hx0.keep hb
                clear hb hx0 hr
                refine wpAnyU_ready (CG.of (Hmk.out _ hx1.s4)) (rs := [4]) (by kernel_rfl) (by simp) ?_
                refine (AllReadyU.cons rfl (fun K hK => ?_) AllReadyU.nil)
                go_simp
                refine Calls.mono ((k_join _ _ W1)) ?_
                rintro _ W2 ⟨rfl, hb⟩
                dsimp only
                refine hK _ _ ?_
                clear hK K
                have hx2 := hx1.keep hb
                clear hb hx1
                refine wpAnyU_ready (CG.of (Hmk.out _ hx2.s4)) (rs := [5]) (by kernel_rfl) (by simp) ?_
                refine (AllReadyU.cons rfl (fun K hK => ?_) AllReadyU.nil)
                refine step_of rfl (store_set1 hx2.s4 (orB a (rngB lo lo)) _ _ rfl rfl rfl ?_)
                refine hK _ _ ?_
                clear hK K
                refine wpAnyU_done (by kernel_rfl) (by kernel_rfl) (by go_simp <;> with_reducible rfl) ?_
                have HX := Lib.hid (hx2.put (orB a (rngB lo lo)))
                clear hx2 Hmk
                repeat' (first | go_values | go_skip | go_guarded | go_step | go_upon)
                go_roundg gk
                case rel => exact ⟨_, false, j, rfl, hj, HC, HX⟩
                case measure => omega
        | false =>
          have h93 : ¬ isC S.data.toList i' 93 := fun q => hA ⟨rfl, q⟩
          have hcall := ps_is_n g S i' d 93 wr HX.out.ps h93
          clear h93
          repeat' (first | go_values | go_skip | go_guarded | go_step | go_upon)
          refine Calls.mono (hcall) ?_
          rintro _ w4 ⟨rfl, hb⟩
          dsimp only
          have HX := Lib.hid (HX.out.keep hb)
          clear hb hcall
          repeat' (first | go_values | go_skip | go_guarded | go_step | go_upon)
          by_cases h92 : isC S.data.toList i' 92
          · rw [if_pos h92] at hC
            have hcall := ps_is_y g S i' d 92 w4 HX.out.ps h92
            have hi1 : i' + 1 ≤ S.size := by have := h92.1; rw [ba_len] at this; omega
            have hS512 := HS.out
            have hw : IntKind.i64.wrap ((i' : Int) + 1) = ((i' + 1 : Nat) : Int) := by rw [wi64 (by unfold I64; omega)]; omega
            have hw2 : IntKind.i64.wrap (((i' + 1 : Nat) : Int) - 1) = (i' : Int) := by rw [wi64 (by unfold I64; omega)]; omega
            have Hlt := Lib.hid (fun (k : Nat → Bool) (h : kndR S.data.toList (i' + 1) = some k) => kndR_lt h)
            have HI2 : Hid (i' + 1 + 1 = i' + 2) := Lib.hid rfl
            obtain ⟨i1, hi1e⟩ : ∃ i1, i' + 1 = i1 := ⟨_, rfl⟩
            rw [hi1e] at hw hw2 hC hi1 HI2 Hlt
            have hi1512 : i1 ≤ 512 := by omega
            clear h92 hA hi1e hS512
            refine Calls.mono (hcall) ?_
            rintro _ wv ⟨rfl, hb⟩
            dsimp only
            have HX := Lib.hid (HX.out.keep hb)
            have c1 := HX.out.ps.c1
            have f1 := HX.out.ps.free 1
            clear hb hcall
            have HY := Lib.hid (HX.out.setI i1)
            repeat' (first | go_values | go_skip | go_guarded | go_step | go_upon)
            have hk := ps_kind g S i1 d hi1512 _ HY.out.ps
            clear c1 f1 HX
            cases hK : kndR S.data.toList i1 with
            | some p =>
              rw [hK] at hk hC
              have HI3 := Lib.hid (Hlt.out p hK)
              dsimp only at hC
              have HC := Lib.hid hC
              clear hK hC hw2
              refine Calls.mono (hk) ?_
              rintro _ wk ⟨rfl, hpk, hek⟩
              dsimp only
              have HX := Lib.hid (HY.out.go hpk hek)
              clear hk hpk hek
              have HL4 := Lib.hid (HX.out.keep ((Below.refl _ _).alloc (Nat.le_refl _) (.cells (sc p) 26))).s4
              have HL6 : Hid (SetAt (wk.alloc (.cells (sc p) 26)) wk.heap.size p) := Lib.hid (Go.heap_alloc_new _ _)
              have HXb := Lib.hid (HX.out.keep ((Below.refl _ _).alloc (Nat.le_refl _) (.cells (sc p) 26)))
              repeat' (first | (with_reducible refine load_set1 HL4.out _ rfl rfl ?_; dsimp only [Act.put]) | (with_reducible refine load_set1 HL6.out _ rfl rfl ?_; dsimp only [Act.put]) | go_values | go_skip | go_guarded | go_step | go_upon)
              refine Calls.mono ((k_join _ _ _)) ?_
              rintro _ wm ⟨rfl, hb⟩
              dsimp only
              have HX := Lib.hid (HXb.out.keep hb)
              clear hb HXb HL4 HL6
              repeat' (first | (with_reducible refine store_set1 HX.out.s4 _ _ _ rfl rfl rfl ?_; dsimp only [Act.put]) | go_values | go_skip | go_guarded | go_step | go_upon)
              go_roundg gk
              case rel => exact ⟨_, false, i1 + 1, rfl, by have := HI3.out; rw [ba_len] at this; omega, by rw [HI2.out]; exact HC, Lib.hid (HX.out.put (orB a p))⟩
              case measure => omega
            | none =>
              rw [hK] at hk hC
              dsimp only at hC
              clear hK
              refine Calls.mono (hk) ?_
              rintro _ wk ⟨rfl, hpk, hek⟩
              dsimp only
              have HX := Lib.hid (HY.out.go hpk hek)
              have HXb := Lib.hid (HX.out.keep ((Below.refl _ _).alloc (Nat.le_refl _) (.cells (sc fun _ => false) 26)))
              clear hk hpk hek HY HX
              have c1 := HXb.out.ps.c1
              have f1 := HXb.out.ps.free 1
              have HX := Lib.hid (HXb.out.setI i')
              repeat' (first | go_values | go_skip | go_guarded | go_step | go_upon)
              clear c1 f1 HXb hw hw2 hi1 hi1512 Hlt HI2
              have hp := ps_point g S i' d HS.out hi' _ HX.out.ps
              cases hP : pntR S.data.toList i' with
              | bad e0 j =>
                rw [hP] at hp hC
                have HC := Lib.hid hC.symm
                clear hC
                refine Calls.mono hp ?_
                rintro _ wy ⟨rfl, he⟩
                exact ⟨rfl, TPost.badI (by rw [HC.out]; rfl) ⟨rfl, HX.out.els.trans he⟩⟩
              | out => exact absurd hP pntR_out
              | ok lo j =>
                have hlo := pntR_lt hP
                have hj : j ≤ S.size := by have := ((pntR_in (s := S.data.toList) (i := i') (by rw [ba_len]; exact hi')).okB hP).2; rw [ba_len] at this; exact this
                rw [hP] at hp hC
                simp only [PR.bind] at hC
                clear hP
                refine Calls.mono (hp) ?_
                rintro _ wy ⟨rfl, hpy, hey⟩
                dsimp only
                have HX := Lib.hid (HX.out.go hpy hey)
                clear hp hpy hey
                by_cases h45 : isC S.data.toList j 45
                · rw [if_pos h45] at hC
                  have ht := ps_take_y g S j d 45 (by have := HS.out; omega) wy HX.out.ps h45
                  have hj1 : j + 1 ≤ S.size := by have := h45.1; rw [ba_len] at this; omega
                  clear h45 hj
                  obtain ⟨j1, hj1e⟩ : ∃ j1, j + 1 = j1 := ⟨_, rfl⟩
                  rw [hj1e] at ht hC hj1
                  have Hj1e := Lib.hid hj1e
                  clear hj1e
                  repeat' (first | go_values | go_skip | go_guarded | go_step | go_upon)
                  refine Calls.mono (ht) ?_
                  rintro _ wz ⟨rfl, hpz, hez⟩
                  dsimp only
                  have HX := Lib.hid (HX.out.go hpz hez)
                  have c1 := HX.out.ps.c1
                  clear ht hpz hez
                  repeat' (first | go_values | go_skip | go_guarded | go_step | go_upon)
                  have hp := ps_point g S j1 d HS.out hj1 wz HX.out.ps
                  cases hP : pntR S.data.toList j1 with
                  | bad e0 k =>
                    rw [hP] at hp hC
                    have HC := Lib.hid hC.symm
                    clear hC
                    refine Calls.mono hp ?_
                    rintro _ wq ⟨rfl, he⟩
                    exact ⟨rfl, TPost.badI (by rw [HC.out]; rfl) ⟨rfl, HX.out.els.trans he⟩⟩
                  | out => exact absurd hP pntR_out
                  | ok hi k =>
                    have hhi := pntR_lt hP
                    have hk : k ≤ S.size := by have := ((pntR_in (s := S.data.toList) (i := j1) (by rw [ba_len]; exact hj1)).okB hP).2; rw [ba_len] at this; exact this
                    rw [hP] at hp hC
                    dsimp only at hC
                    clear hP c1
                    refine Calls.mono (hp) ?_
                    rintro _ wq ⟨rfl, hpq, heq⟩
                    dsimp only
                    have HX := Lib.hid (HX.out.go hpq heq)
                    clear hp hpq heq
                    by_cases hl : hi < lo
                    · rw [if_pos hl] at hC
                      have HC := Lib.hid hC.symm
                      have hl' : (hi : Int) < (lo : Int) := by omega
                      clear hC hl
                      repeat' (first | go_values | go_skip | go_guarded | go_step | go_upon)
                      exact ⟨rfl, TPost.badI (by rw [HC.out]; rfl) ⟨rfl, HX.out.els⟩⟩
                    · rw [if_neg hl] at hC
                      have HC := Lib.hid hC
                      have hl' : ¬ (hi : Int) < (lo : Int) := by omega
                      clear hC hl hj1
                      repeat' (first | go_values | go_skip | go_guarded | go_step | go_upon)
                      obtain ⟨C, hC⟩ : ∃ C : World → Prop, C = fun W => SetAt W b4 a := ⟨_, rfl⟩
                      have Hmk : Hid (∀ W, SetAt W b4 a → C W) := Lib.hid (fun W h => by rw [hC]; exact h)
                      have hC' : ∀ W, C W → SetAt W b4 a := fun W h => by rw [hC] at h; exact h
                      have q0 : ∀ nq : GW C, nq.1.cell? ⟨b4, 0, none⟩ = some (.int .u64 (W a 0 : Nat)) := fun nq => (hC' _ nq.2).c0
                      have q1 : ∀ nq : GW C, nq.1.cell? ⟨b4, 1, none⟩ = some (.int .u64 (W a 1 : Nat)) := fun nq => (hC' _ nq.2).c1
                      have q2 : ∀ nq : GW C, nq.1.cell? ⟨b4, 2, none⟩ = some (.int .u64 (W a 2 : Nat)) := fun nq => (hC' _ nq.2).c2
                      have q3 : ∀ nq : GW C, nq.1.cell? ⟨b4, 3, none⟩ = some (.int .u64 (W a 3 : Nat)) := fun nq => (hC' _ nq.2).c3
                      clear hC hC'
                      refine wp_region_anyU (by kernel_rfl) C 5 ?_
                      refine wpAnyU_take (i := 0) (v := _) rfl (by kernel_rfl) (by kernel_rfl) (by kernel_rfl) (by kernel_rfl) (by kernel_rfl) (fun _ _ _ h => h) (Or.inl ⟨by rfl, fun w ⟨nq, hw⟩ => by (subst hw; go_simp; first | exact ⟨rfl, rfl⟩ | rfl)⟩) (by go_simp <;> with_reducible rfl) ?_
                      refine wpAnyU_take (i := 1) (v := _) rfl (by kernel_rfl) (by kernel_rfl) (by kernel_rfl) (by kernel_rfl) (by kernel_rfl) (fun _ _ _ h => h) (Or.inl ⟨by rfl, fun w ⟨nq, hw⟩ => by (subst hw; go_simp; first | exact ⟨rfl, rfl⟩ | rfl)⟩) (by go_simp <;> with_reducible rfl) ?_
                      refine wpAnyU_take (i := 2) (v := _) rfl (by kernel_rfl) (by kernel_rfl) (by kernel_rfl) (by kernel_rfl) (by kernel_rfl) (fun _ _ _ h => h) (Or.inl ⟨by rfl, fun w ⟨nq, hw⟩ => by (subst hw; go_simp; first | exact ⟨rfl, rfl⟩ | rfl)⟩) (by go_simp <;> with_reducible rfl) ?_
                      clear q0 q1 q2 q3
                      refine genUw (fun W => CX w Z g b4 S d a k W) (HX.out.keep (Below.refl _ _).drew) ?_
                      clear HX
                      intro W0 hx0
                      have hr := set_Range lo hi hlo hhi
                      refine wpAnyU_ready (CG.of (Hmk.out _ hx0.s4)) (rs := [3]) (by kernel_rfl) (by simp) ?_
                      refine (AllReadyU.cons rfl (fun K hK => ?_) AllReadyU.nil)
                      go_simp
                      refine Calls.mono ((hr W0)) ?_
                      rintro _ W1 ⟨rfl, hb⟩
                      dsimp only
                      refine hK _ _ ?_
                      clear hK K
                      have hx1 := hx0.keep hb
                      clear hb hx0 hr
                      refine wpAnyU_ready (CG.of (Hmk.out _ hx1.s4)) (rs := [4]) (by kernel_rfl) (by simp) ?_
                      refine (AllReadyU.cons rfl (fun K hK => ?_) AllReadyU.nil)
                      go_simp
                      refine Calls.mono ((k_join _ _ W1)) ?_
                      rintro _ W2 ⟨rfl, hb⟩
                      dsimp only
                      refine hK _ _ ?_
                      clear hK K
                      have hx2 := hx1.keep hb
                      clear hb hx1
                      refine wpAnyU_ready (CG.of (Hmk.out _ hx2.s4)) (rs := [5]) (by kernel_rfl) (by simp) ?_
                      refine (AllReadyU.cons rfl (fun K hK => ?_) AllReadyU.nil)
                      refine step_of rfl (store_set1 hx2.s4 (orB a (rngB lo hi)) _ _ rfl rfl rfl ?_)
                      refine hK _ _ ?_
                      clear hK K
                      refine wpAnyU_done (by kernel_rfl) (by kernel_rfl) (by go_simp <;> with_reducible rfl) ?_
                      have HX := Lib.hid (hx2.put (orB a (rngB lo hi)))
                      clear hx2 Hmk
                      repeat' (first | go_values | go_skip | go_guarded | go_step | go_upon)
                      go_roundg gk
                      case rel => exact ⟨_, false, k, rfl, hk, HC, HX⟩
                      case measure => omega
                · rw [if_neg h45] at hC
                  have HC := Lib.hid hC
                  have ht := ps_take_n g S j d 45 wy HX.out.ps h45
                  clear hC h45
                  repeat' (first | go_values | go_skip | go_guarded | go_step | go_upon)
                  refine Calls.mono (ht) ?_
                  rintro _ wz ⟨rfl, hb⟩
                  dsimp only
                  have HX := Lib.hid (HX.out.keep hb)
                  clear ht hb
                  repeat' (first | go_values | go_skip | go_guarded | go_step | go_upon)
                  obtain ⟨C, hC⟩ : ∃ C : World → Prop, C = fun W => SetAt W b4 a := ⟨_, rfl⟩
                  have Hmk : Hid (∀ W, SetAt W b4 a → C W) := Lib.hid (fun W h => by rw [hC]; exact h)
                  have hC' : ∀ W, C W → SetAt W b4 a := fun W h => by rw [hC] at h; exact h
                  have q0 : ∀ nq : GW C, nq.1.cell? ⟨b4, 0, none⟩ = some (.int .u64 (W a 0 : Nat)) := fun nq => (hC' _ nq.2).c0
                  have q1 : ∀ nq : GW C, nq.1.cell? ⟨b4, 1, none⟩ = some (.int .u64 (W a 1 : Nat)) := fun nq => (hC' _ nq.2).c1
                  have q2 : ∀ nq : GW C, nq.1.cell? ⟨b4, 2, none⟩ = some (.int .u64 (W a 2 : Nat)) := fun nq => (hC' _ nq.2).c2
                  have q3 : ∀ nq : GW C, nq.1.cell? ⟨b4, 3, none⟩ = some (.int .u64 (W a 3 : Nat)) := fun nq => (hC' _ nq.2).c3
                  clear hC hC'
                  refine wp_region_anyU (by kernel_rfl) C 5 ?_
                  refine wpAnyU_take (i := 0) (v := _) rfl (by kernel_rfl) (by kernel_rfl) (by kernel_rfl) (by kernel_rfl) (by kernel_rfl) (fun _ _ _ h => h) (Or.inl ⟨by rfl, fun w ⟨nq, hw⟩ => by (subst hw; go_simp; first | exact ⟨rfl, rfl⟩ | rfl)⟩) (by go_simp <;> with_reducible rfl) ?_
                  refine wpAnyU_take (i := 1) (v := _) rfl (by kernel_rfl) (by kernel_rfl) (by kernel_rfl) (by kernel_rfl) (by kernel_rfl) (fun _ _ _ h => h) (Or.inl ⟨by rfl, fun w ⟨nq, hw⟩ => by (subst hw; go_simp; first | exact ⟨rfl, rfl⟩ | rfl)⟩) (by go_simp <;> with_reducible rfl) ?_
                  refine wpAnyU_take (i := 2) (v := _) rfl (by kernel_rfl) (by kernel_rfl) (by kernel_rfl) (by kernel_rfl) (by kernel_rfl) (fun _ _ _ h => h) (Or.inl ⟨by rfl, fun w ⟨nq, hw⟩ => by (subst hw; go_simp; first | exact ⟨rfl, rfl⟩ | rfl)⟩) (by go_simp <;> with_reducible rfl) ?_
                  clear q0 q1 q2 q3
                  refine genUw (fun W => CX w Z g b4 S d a j W) (HX.out.keep (Below.refl _ _).drew) ?_
                  clear HX
                  intro W0 hx0
                  have hr := set_Range lo lo hlo hlo
                  refine wpAnyU_ready (CG.of (Hmk.out _ hx0.s4)) (rs := [3]) (by kernel_rfl) (by simp) ?_
                  refine (AllReadyU.cons rfl (fun K hK => ?_) AllReadyU.nil)
                  go_simp
                  refine Calls.mono ((hr W0)) ?_
                  rintro _ W1 ⟨rfl, hb⟩
                  dsimp only
                  refine hK _ _ ?_
                  clear hK K
                  have hx1 := hx0.keep hb
                  clear hb hx0 hr
                  refine wpAnyU_ready (CG.of (Hmk.out _ hx1.s4)) (rs := [4]) (by kernel_rfl) (by simp) ?_
                  refine (AllReadyU.cons rfl (fun K hK => ?_) AllReadyU.nil)
                  go_simp
                  refine Calls.mono ((k_join _ _ W1)) ?_
                  rintro _ W2 ⟨rfl, hb⟩
                  dsimp only
                  refine hK _ _ ?_
                  clear hK K
                  have hx2 := hx1.keep hb
                  clear hb hx1
                  refine wpAnyU_ready (CG.of (Hmk.out _ hx2.s4)) (rs := [5]) (by kernel_rfl) (by simp) ?_
                  refine (AllReadyU.cons rfl (fun K hK => ?_) AllReadyU.nil)
                  refine step_of rfl (store_set1 hx2.s4 (orB a (rngB lo lo)) _ _ rfl rfl rfl ?_)
                  refine hK _ _ ?_
                  clear hK K
                  refine wpAnyU_done (by kernel_rfl) (by kernel_rfl) (by go_simp <;> with_reducible rfl) ?_
                  have HX := Lib.hid (hx2.put (orB a (rngB lo lo)))
                  clear hx2 Hmk
                  repeat' (first | go_values | go_skip | go_guarded | go_step | go_upon)
                  go_roundg gk
                  case rel => exact ⟨_, false, j, rfl, hj, HC, HX⟩
                  case measure => omega
          · rw [if_neg h92] at hC
            have hcall := ps_is_n g S i' d 92 w4 HX.out.ps h92
            clear h92 hA
            refine Calls.mono (hcall) ?_
            rintro _ wv ⟨rfl, hb⟩
            dsimp only
            have HX := Lib.hid (HX.out.keep hb)
            clear hb hcall
            dsimp only at hC
            repeat' (first | go_values | go_skip | go_guarded | go_step | go_upon)
            have hp := ps_point g S i' d HS.out hi' wv HX.out.ps
            cases hP : pntR S.data.toList i' with
            | bad e0 j =>
              rw [hP] at hp hC
              have HC := Lib.hid hC.symm
              clear hC
              refine Calls.mono hp ?_
              rintro _ wy ⟨rfl, he⟩
              exact ⟨rfl, TPost.badI (by rw [HC.out]; rfl) ⟨rfl, HX.out.els.trans he⟩⟩
            | out => exact absurd hP pntR_out
            | ok lo j =>
              have hlo := pntR_lt hP
              have hj : j ≤ S.size := by have := ((pntR_in (s := S.data.toList) (i := i') (by rw [ba_len]; exact hi')).okB hP).2; rw [ba_len] at this; exact this
              rw [hP] at hp hC
              simp only [PR.bind] at hC
              clear hP
              refine Calls.mono (hp) ?_
              rintro _ wy ⟨rfl, hpy, hey⟩
              dsimp only
              have HX := Lib.hid (HX.out.go hpy hey)
              clear hp hpy hey
              by_cases h45 : isC S.data.toList j 45
              · rw [if_pos h45] at hC
                have ht := ps_take_y g S j d 45 (by have := HS.out; omega) wy HX.out.ps h45
                have hj1 : j + 1 ≤ S.size := by have := h45.1; rw [ba_len] at this; omega
                clear h45 hj
                obtain ⟨j1, hj1e⟩ : ∃ j1, j + 1 = j1 := ⟨_, rfl⟩
                rw [hj1e] at ht hC hj1
                have Hj1e := Lib.hid hj1e
                clear hj1e
                repeat' (first | go_values | go_skip | go_guarded | go_step | go_upon)
                refine Calls.mono (ht) ?_
                rintro _ wz ⟨rfl, hpz, hez⟩
                dsimp only
                have HX := Lib.hid (HX.out.go hpz hez)
                have c1 := HX.out.ps.c1
                clear ht hpz hez
                repeat' (first | go_values | go_skip | go_guarded | go_step | go_upon)
                have hp := ps_point g S j1 d HS.out hj1 wz HX.out.ps
                cases hP : pntR S.data.toList j1 with
                | bad e0 k =>
                  rw [hP] at hp hC
                  have HC := Lib.hid hC.symm
                  clear hC
                  refine Calls.mono hp ?_
                  rintro _ wq ⟨rfl, he⟩
                  exact ⟨rfl, TPost.badI (by rw [HC.out]; rfl) ⟨rfl, HX.out.els.trans he⟩⟩
                | out => exact absurd hP pntR_out
                | ok hi k =>
                  have hhi := pntR_lt hP
                  have hk : k ≤ S.size := by have := ((pntR_in (s := S.data.toList) (i := j1) (by rw [ba_len]; exact hj1)).okB hP).2; rw [ba_len] at this; exact this
                  rw [hP] at hp hC
                  dsimp only at hC
                  clear hP c1
                  refine Calls.mono (hp) ?_
                  rintro _ wq ⟨rfl, hpq, heq⟩
                  dsimp only
                  have HX := Lib.hid (HX.out.go hpq heq)
                  clear hp hpq heq
                  by_cases hl : hi < lo
                  · rw [if_pos hl] at hC
                    have HC := Lib.hid hC.symm
                    have hl' : (hi : Int) < (lo : Int) := by omega
                    clear hC hl
                    repeat' (first | go_values | go_skip | go_guarded | go_step | go_upon)
                    exact ⟨rfl, TPost.badI (by rw [HC.out]; rfl) ⟨rfl, HX.out.els⟩⟩
                  · rw [if_neg hl] at hC
                    have HC := Lib.hid hC
                    have hl' : ¬ (hi : Int) < (lo : Int) := by omega
                    clear hC hl hj1
                    repeat' (first | go_values | go_skip | go_guarded | go_step | go_upon)
                    obtain ⟨C, hC⟩ : ∃ C : World → Prop, C = fun W => SetAt W b4 a := ⟨_, rfl⟩
                    have Hmk : Hid (∀ W, SetAt W b4 a → C W) := Lib.hid (fun W h => by rw [hC]; exact h)
                    have hC' : ∀ W, C W → SetAt W b4 a := fun W h => by rw [hC] at h; exact h
                    have q0 : ∀ nq : GW C, nq.1.cell? ⟨b4, 0, none⟩ = some (.int .u64 (W a 0 : Nat)) := fun nq => (hC' _ nq.2).c0
                    have q1 : ∀ nq : GW C, nq.1.cell? ⟨b4, 1, none⟩ = some (.int .u64 (W a 1 : Nat)) := fun nq => (hC' _ nq.2).c1
                    have q2 : ∀ nq : GW C, nq.1.cell? ⟨b4, 2, none⟩ = some (.int .u64 (W a 2 : Nat)) := fun nq => (hC' _ nq.2).c2
                    have q3 : ∀ nq : GW C, nq.1.cell? ⟨b4, 3, none⟩ = some (.int .u64 (W a 3 : Nat)) := fun nq => (hC' _ nq.2).c3
                    clear hC hC'
                    refine wp_region_anyU (by kernel_rfl) C 5 ?_
                    refine wpAnyU_take (i := 0) (v := _) rfl (by kernel_rfl) (by kernel_rfl) (by kernel_rfl) (by kernel_rfl) (by kernel_rfl) (fun _ _ _ h => h) (Or.inl ⟨by rfl, fun w ⟨nq, hw⟩ => by (subst hw; go_simp; first | exact ⟨rfl, rfl⟩ | rfl)⟩) (by go_simp <;> with_reducible rfl) ?_
                    refine wpAnyU_take (i := 1) (v := _) rfl (by kernel_rfl) (by kernel_rfl) (by kernel_rfl) (by kernel_rfl) (by kernel_rfl) (fun _ _ _ h => h) (Or.inl ⟨by rfl, fun w ⟨nq, hw⟩ => by (subst hw; go_simp; first | exact ⟨rfl, rfl⟩ | rfl)⟩) (by go_simp <;> with_reducible rfl) ?_
                    refine wpAnyU_take (i := 2) (v := _) rfl (by kernel_rfl) (by kernel_rfl) (by kernel_rfl) (by kernel_rfl) (by kernel_rfl) (fun _ _ _ h => h) (Or.inl ⟨by rfl, fun w ⟨nq, hw⟩ => by (subst hw; go_simp; first | exact ⟨rfl, rfl⟩ | rfl)⟩) (by go_simp <;> with_reducible rfl) ?_
                    clear q0 q1 q2 q3
                    refine genUw (fun W => CX w Z g b4 S d a k W) (HX.out.keep (Below.refl _ _).drew) ?_
                    clear HX
                    intro W0 hx0
                    have hr := set_Range lo hi hlo hhi
                    refine wpAnyU_ready (CG.of (Hmk.out _ hx0.s4)) (rs := [3]) (by kernel_rfl) (by simp) ?_
                    refine (AllReadyU.cons rfl (fun K hK => ?_) AllReadyU.nil)
                    go_simp
                    refine Calls.mono ((hr W0)) ?_
                    rintro _ W1 ⟨rfl, hb⟩
                    dsimp only
                    refine hK _ _ ?_
                    clear hK K
                    have hx1 := hx0.keep hb
                    clear hb hx0 hr
                    refine wpAnyU_ready (CG.of (Hmk.out _ hx1.s4)) (rs := [4]) (by kernel_rfl) (by simp) ?_
                    refine (AllReadyU.cons rfl (fun K hK => ?_) AllReadyU.nil)
                    go_simp
                    refine Calls.mono ((k_join _ _ W1)) ?_
                    rintro _ W2 ⟨rfl, hb⟩
                    dsimp only
                    refine hK _ _ ?_
                    clear hK K
                    have hx2 := hx1.keep hb
                    clear hb hx1
                    refine wpAnyU_ready (CG.of (Hmk.out _ hx2.s4)) (rs := [5]) (by kernel_rfl) (by simp) ?_
                    refine (AllReadyU.cons rfl (fun K hK => ?_) AllReadyU.nil)
                    refine step_of rfl (store_set1 hx2.s4 (orB a (rngB lo hi)) _ _ rfl rfl rfl ?_)
                    refine hK _ _ ?_
                    clear hK K
                    refine wpAnyU_done (by kernel_rfl) (by kernel_rfl) (by go_simp <;> with_reducible rfl) ?_
                    have HX := Lib.hid (hx2.put (orB a (rngB lo hi)))
                    clear hx2 Hmk
                    repeat' (first | go_values | go_skip | go_guarded | go_step | go_upon)
                    go_roundg gk
                    case rel => exact ⟨_, false, k, rfl, hk, HC, HX⟩
                    case measure => omega
              · rw [if_neg h45] at hC
                have HC := Lib.hid hC
                have ht := ps_take_n g S j d 45 wy HX.out.ps h45
                clear hC h45
                repeat' (first | go_values | go_skip | go_guarded | go_step | go_upon)
                refine Calls.mono (ht) ?_
                rintro _ wz ⟨rfl, hb⟩
                dsimp only
                have HX := Lib.hid (HX.out.keep hb)
                clear ht hb
                repeat' (first | go_values | go_skip | go_guarded | go_step | go_upon)
                obtain ⟨C, hC⟩ : ∃ C : World → Prop, C = fun W => SetAt W b4 a := ⟨_, rfl⟩
                have Hmk : Hid (∀ W, SetAt W b4 a → C W) := Lib.hid (fun W h => by rw [hC]; exact h)
                have hC' : ∀ W, C W → SetAt W b4 a := fun W h => by rw [hC] at h; exact h
                have q0 : ∀ nq : GW C, nq.1.cell? ⟨b4, 0, none⟩ = some (.int .u64 (W a 0 : Nat)) := fun nq => (hC' _ nq.2).c0
                have q1 : ∀ nq : GW C, nq.1.cell? ⟨b4, 1, none⟩ = some (.int .u64 (W a 1 : Nat)) := fun nq => (hC' _ nq.2).c1
                have q2 : ∀ nq : GW C, nq.1.cell? ⟨b4, 2, none⟩ = some (.int .u64 (W a 2 : Nat)) := fun nq => (hC' _ nq.2).c2
                have q3 : ∀ nq : GW C, nq.1.cell? ⟨b4, 3, none⟩ = some (.int .u64 (W a 3 : Nat)) := fun nq => (hC' _ nq.2).c3
                clear hC hC'
                refine wp_region_anyU (by kernel_rfl) C 5 ?_
                refine wpAnyU_take (i := 0) (v := _) rfl (by kernel_rfl) (by kernel_rfl) (by kernel_rfl) (by kernel_rfl) (by kernel_rfl) (fun _ _ _ h => h) (Or.inl ⟨by rfl, fun w ⟨nq, hw⟩ => by (subst hw; go_simp; first | exact ⟨rfl, rfl⟩ | rfl)⟩) (by go_simp <;> with_reducible rfl) ?_
                refine wpAnyU_take (i := 1) (v := _) rfl (by kernel_rfl) (by kernel_rfl) (by kernel_rfl) (by kernel_rfl) (by kernel_rfl) (fun _ _ _ h => h) (Or.inl ⟨by rfl, fun w ⟨nq, hw⟩ => by (subst hw; go_simp; first | exact ⟨rfl, rfl⟩ | rfl)⟩) (by go_simp <;> with_reducible rfl) ?_
                refine wpAnyU_take (i := 2) (v := _) rfl (by kernel_rfl) (by kernel_rfl) (by kernel_rfl) (by kernel_rfl) (by kernel_rfl) (fun _ _ _ h => h) (Or.inl ⟨by rfl, fun w ⟨nq, hw⟩ => by (subst hw; go_simp; first | exact ⟨rfl, rfl⟩ | rfl)⟩) (by go_simp <;> with_reducible rfl) ?_
                clear q0 q1 q2 q3
                refine genUw (fun W => CX w Z g b4 S d a j W) (HX.out.keep (Below.refl _ _).drew) ?_
                clear HX
                intro W0 hx0
                have hr := set_Range lo lo hlo hlo
                refine wpAnyU_ready (CG.of (Hmk.out _ hx0.s4)) (rs := [3]) (by kernel_rfl) (by simp) ?_
                refine (AllReadyU.cons rfl (fun K hK => ?_) AllReadyU.nil)
                go_simp
                refine Calls.mono ((hr W0)) ?_
                rintro _ W1 ⟨rfl, hb⟩
                dsimp only
                refine hK _ _ ?_
                clear hK K
                have hx1 := hx0.keep hb
                clear hb hx0 hr
                refine wpAnyU_ready (CG.of (Hmk.out _ hx1.s4)) (rs := [4]) (by kernel_rfl) (by simp) ?_
                refine (AllReadyU.cons rfl (fun K hK => ?_) AllReadyU.nil)
                go_simp
                refine Calls.mono ((k_join _ _ W1)) ?_
                rintro _ W2 ⟨rfl, hb⟩
                dsimp only
                refine hK _ _ ?_
                clear hK K
                have hx2 := hx1.keep hb
                clear hb hx1
                refine wpAnyU_ready (CG.of (Hmk.out _ hx2.s4)) (rs := [5]) (by kernel_rfl) (by simp) ?_
                refine (AllReadyU.cons rfl (fun K hK => ?_) AllReadyU.nil)
                refine step_of rfl (store_set1 hx2.s4 (orB a (rngB lo lo)) _ _ rfl rfl rfl ?_)
                refine hK _ _ ?_
                clear hK K
                refine wpAnyU_done (by kernel_rfl) (by kernel_rfl) (by go_simp <;> with_reducible rfl) ?_
                have HX := Lib.hid (hx2.put (orB a (rngB lo lo)))
                clear hx2 Hmk
                repeat' (first | go_values | go_skip | go_guarded | go_step | go_upon)
                go_roundg gk
                case rel => exact ⟨_, false, j, rfl, hj, HC, HX⟩
                case measure => omega
end Go.Proofs.Ytnbfifmnigeolaa
