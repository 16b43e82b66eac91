/- Walks: a part (atom). Conditions: a text of at most 512 bytes; a place within it. -/
import Derived.Test.YtnbfifmnigeolaaPrsAlt
namespace Go.Proofs.Ytnbfifmnigeolaa
open Go.RowKit Go.Lib
theorem wp_region_anyP {P : Program} {id : Nat} {Q : Exit → Act → World → Prop} {a : Act} {w : World} {ops : Array Oper} (hm : P.follows .mixedOrders = true) (C : World → Prop)
    (h : wpAnyC P .any ops (CG C) Q ops.size (Array.replicate ops.size false) a w.drew) : (Code.region id ops true).wp P Q a w :=
  wp_region_any hm (wpAnyC.any _ _ _ _ h)
theorem genCp {P : Program} {md : Region.Mode} {ops : Array Oper} {C : World → Prop} {Q : Exit → Act → World → Prop} {fuel : Nat} {listed : Array Bool} {a : Act} {w : World} (F : World → Prop) (hF : F w) (h : ∀ w', F w' → wpAnyC P md ops C Q fuel listed a w') : wpAnyC P md ops C Q fuel listed a w := h w hF
theorem AX.setI {w W : World} {Z g : Nat} {S : ByteArray} {d i : Nat} (h : AX w Z g S d i W) (j : Nat) : AX w Z g S d j (W.setCell ⟨g, 1, none⟩ (.int .i64 (j : Int))) := h.go (h.ps.set1 j) ((Else.refl g W).setCell _ _)
theorem AX.setD {w W : World} {Z g : Nat} {S : ByteArray} {d i : Nat} (h : AX w Z g S d i W) (j : Nat) : AX w Z g S j i (W.setCell ⟨g, 2, none⟩ (.int .i64 (j : Int))) := h.go (h.ps.set2 j) ((Else.refl g W).setCell _ _)
set_option maxRecDepth 100000 in
set_option maxHeartbeats 8000000 in
theorem ps_atom (g : Nat) (S : ByteArray) (f : Nat) (hS : S.size ≤ 512) (IH : CT g S 8 .alt f) : CT g S 20 .atom (f + 1) := by
  intro d i w hi hd h hn
  obtain ⟨X, hX⟩ : ∃ X, prs S.data.toList (f + 1) .atom d i = X := ⟨_, rfl⟩
  rw [hX] at hn ⊢
  rw [prs, ba_len] at hX
  by_cases h40 : isC S.data.toList i 40
  · rw [if_pos h40] at hX
    have hi1 : i + 1 ≤ S.size := by have := h40.1; rw [ba_len] at this; omega
    by_cases hd30 : 30 ≤ d
    · rw [if_pos hd30] at hX
      have HC := Lib.hid hX.symm
      have hd' : (d : Int) ≥ 30 := by omega
      clear hX hn hi hi1
      have HA := Lib.hid (AX.start h)
      clear h
      go_enter Try.func20, Try.ntmps20
      repeat' (go_not_at_region 1; first | go_values | go_skip | go_guarded | go_step | go_upon)
      generalize hZ : w.heap.size = Z at HA ⊢
      refine gen_wd (fun W => AX w Z g S d i W) HA.out ?_
      clear HA
      rintro w1 hj
      have HA := Lib.hid hj
      clear hj hZ
      repeat' (first | go_values | go_skip | go_guarded | go_step | go_upon)
      have ht := ps_is_y g S i d 40 _ HA.out.ps h40
      repeat' (first | go_values | go_skip | go_guarded | go_step | go_upon)
      refine Calls.mono (ht) ?_
      rintro _ wt ⟨rfl, hb⟩
      dsimp only
      have HA := Lib.hid (HA.out.keep hb)
      clear ht hb
      have c1 := HA.out.ps.c1
      have c2 := HA.out.ps.c2
      clear hd30 hd
      repeat' (first | go_values | go_skip | go_guarded | go_step | go_upon)
      exact ⟨rfl, TPost.badI HC.out ⟨rfl, HA.out.els⟩⟩
    · rw [if_neg hd30] at hX
      have hd' : ¬ (d : Int) ≥ 30 := by omega
      have hw1 : IntKind.i64.wrap ((i : Int) + 1) = ((i + 1 : Nat) : Int) := by rw [wi64 (by unfold I64; omega)]; omega
      have hw2 : IntKind.i64.wrap ((d : Int) + 1) = ((d + 1 : Nat) : Int) := by rw [wi64 (by unfold I64; omega)]; omega
      have hw3 : IntKind.i64.wrap (((d + 1 : Nat) : Int) - 1) = (d : Int) := by rw [wi64 (by unfold I64; omega)]; omega
      have hcall := IH (d + 1) (i + 1)
      have hd1 : d + 1 ≤ 30 := by omega
      have hin := prs_in (s := S.data.toList) f .alt (d + 1) (i + 1) (by rw [ba_len]; exact hi1)
      obtain ⟨i1, hi1e⟩ : ∃ i1, i + 1 = i1 := ⟨_, rfl⟩
      obtain ⟨d1, hd1e⟩ : ∃ d1, d + 1 = d1 := ⟨_, rfl⟩
      rw [hi1e] at hw1 hcall hX hi1 hin
      rw [hd1e] at hw2 hw3 hcall hX hd1 hin
      clear hd30 hd hi hi1e hd1e
      have HA := Lib.hid (AX.start h)
      clear h
      go_enter Try.func20, Try.ntmps20
      repeat' (go_not_at_region 1; first | go_values | go_skip | go_guarded | go_step | go_upon)
      generalize hZ : w.heap.size = Z at HA ⊢
      refine gen_wd (fun W => AX w Z g S d i W) HA.out ?_
      clear HA
      rintro w1 hj
      have HA := Lib.hid hj
      clear hj hZ
      repeat' (first | go_values | go_skip | go_guarded | go_step | go_upon)
      have ht := ps_is_y g S i d 40 _ HA.out.ps h40
      repeat' (first | go_values | go_skip | go_guarded | go_step | go_upon)
      refine Calls.mono (ht) ?_
      rintro _ wt ⟨rfl, hb⟩
      dsimp only
      have HA := Lib.hid (HA.out.keep hb)
      clear ht hb
      have c1 := HA.out.ps.c1
      have c2 := HA.out.ps.c2
      have f1 := HA.out.ps.free 1
      have f2 := HA.out.ps.free 2
      have HB := Lib.hid ((HA.out.setI i1).setD d1)
      have hc := hcall _ hi1 hd1 HB.out.ps
      clear h40
      repeat' (first | go_values | go_skip | go_guarded | go_step | go_upon)
      clear c1 c2 f1 f2 HA hcall hw1 hw2
      cases hY : prs S.data.toList f .alt d1 i1 with
      | out => rw [hY] at hX; exact absurd hX.symm hn
      | bad e0 j =>
        have hc := hc (by rw [hY]; intro e; cases e)
        rw [hY] at hc hX
        have HC := Lib.hid hX.symm
        refine Calls.mono hc ?_
        rintro _ wy ⟨rfl, he⟩
        exact ⟨rfl, TPost.badI HC.out ⟨rfl, HB.out.els.trans he⟩⟩
      | ok t j =>
        have hc := hc (by rw [hY]; intro e; cases e)
        have hj := (hin.okB hY).2
        rw [ba_len] at hj
        rw [hY] at hc hX
        simp only [PR.bind] at hX
        clear hY hin hn hi1 hd1
        refine Calls.mono (hc) ?_
        rintro _ w2 ⟨⟨r, rfl, hx⟩, hp, he⟩
        dsimp only
        have hone := hx.one
        have hzlt := HB.out.bx.lt
        have HA := Lib.hid (HB.out.go hp he)
        have HR := Lib.hid ((hx.mono hzlt).keepB ((Below.refl _ w2).alloc (Nat.le_refl _) (.cells (reC r).toArray 29)) (Nat.le_refl _))
        have HR3 : Hid (ReX (Z + 1) w2.heap.size w2 r t) := Lib.hid ((hx.mono hzlt).drop (.inr (Nat.le_refl _)))
        have HA := Lib.hid (HA.out.keep ((Below.refl _ w2).alloc (Nat.le_refl _) (.cells (reC r).toArray 29)))
        have HB3 := Lib.hid (ReBox.new w2 r)
        have hz3 : Z < w2.heap.size ∧ g < w2.heap.size := ⟨Nat.lt_of_lt_of_le hzlt he.size, hp.lt⟩
        clear hc hx hp he hzlt HB HR3
        repeat' (first | (refine store_re (r := r) hone _ _ rfl rfl rfl rfl ?_; dsimp only [Act.put]) | go_values | go_skip | go_guarded | go_step | go_upon)
        generalize w2.alloc (.cells (reC r).toArray 29) = w3 at HA HB3 HR ⊢
        generalize w2.heap.size = b3 at HB3 hz3 ⊢
        have HB3 := Lib.hid HB3.out
        by_cases h41 : isC S.data.toList j 41
        · rw [if_pos h41] at hX
          have HC := Lib.hid hX.symm
          have hm := ps_must_y g S j d1 41 (by omega) w3 HA.out.ps h41
          clear hX h41
          refine Calls.mono (hm) ?_
          rintro _ w4 ⟨rfl, hp, he⟩
          dsimp only
          have HB3 := Lib.hid (HB3.out.els he (by omega))
          have HR := Lib.hid (HR.out.els he (by have := HA.out.lt; omega))
          have HA := Lib.hid (HA.out.go hp he)
          clear hm hp he
          have c2 := HA.out.ps.c2
          have f2 := HA.out.ps.free 2
          have HB3 := Lib.hid (show ReBox (w4.setCell ⟨g, 2, none⟩ (.int .i64 (d : Int))) b3 r from HB3.out.cellOther (by omega))
          have HR := Lib.hid (HR.out.els ((Else.refl g w4).setCell 2 (.int .i64 (d : Int))) (by have := HA.out.lt; omega))
          have HA := Lib.hid (HA.out.setD d)
          have HD := Lib.hid (HA.out.done HR.out)
          have HM := Lib.hid HA.out.bx
          repeat' (first | (with_reducible refine load_box HB3.out _ rfl rfl ?_; dsimp only [Act.put, reV, reC]) | (refine store_box HM.out r hone _ _ rfl rfl rfl ?_; dsimp only [Act.put]) | go_values | go_skip | go_guarded | go_step | go_upon)
          refine bodyPost_ret (results_re rfl _ _ _ _ rfl (HM.out.set _)) rfl ?_
          exact TPost.okI HC.out ⟨⟨_, rfl, HD.out.1⟩, HD.out.2.1, HD.out.2.2⟩
        · rw [if_neg h41] at hX
          have HC := Lib.hid hX.symm
          have hm := ps_must_n g S j d1 41 w3 HA.out.ps h41
          clear hX h41
          refine Calls.mono hm ?_
          rintro _ w4 ⟨rfl, he⟩
          exact ⟨rfl, TPost.badI HC.out ⟨rfl, HA.out.els.trans he⟩⟩
  rw [if_neg h40] at hX
  by_cases h91 : isC S.data.toList i 91
  · rw [if_pos h91] at hX
    have hi1 : i + 1 ≤ S.size := by have := h91.1; rw [ba_len] at this; omega
    have hcall := fun W hp => ps_class g S f (i + 1) d hS hi1 (by rw [hX]; exact hn) W hp
    rw [hX] at hcall
    clear hX hi1
    have HA := Lib.hid (AX.start h)
    clear h
    go_enter Try.func20, Try.ntmps20
    repeat' (go_not_at_region 1; first | go_values | go_skip | go_guarded | go_step | go_upon)
    generalize hZ : w.heap.size = Z at HA ⊢
    refine gen_wd (fun W => AX w Z g S d i W) HA.out ?_
    clear HA
    rintro w1 hj
    have HA := Lib.hid hj
    clear hj hZ
    repeat' (first | go_values | go_skip | go_guarded | go_step | go_upon)
    have ht := ps_is_n g S i d 40 _ HA.out.ps h40
    repeat' (first | go_values | go_skip | go_guarded | go_step | go_upon)
    refine Calls.mono (ht) ?_
    rintro _ wt ⟨rfl, hb⟩
    dsimp only
    have HA := Lib.hid (HA.out.keep hb)
    clear ht hb
    have ht := ps_take_y g S i d 91 (by omega) _ HA.out.ps h91
    repeat' (first | go_values | go_skip | go_guarded | go_step | go_upon)
    refine Calls.mono (ht) ?_
    rintro _ wu ⟨rfl, hp, he⟩
    dsimp only
    have HA := Lib.hid (HA.out.go hp he)
    clear ht hp he
    clear h40 h91
    have hc := hcall _ HA.out.ps
    clear hcall
    repeat' (first | go_values | go_skip | go_guarded | go_step | go_upon)
    cases X with
    | out => exact absurd rfl hn
    | bad e0 j =>
      refine Calls.mono hc ?_
      rintro _ wy ⟨rfl, he⟩
      exact ⟨rfl, TPost.badI rfl ⟨rfl, HA.out.els.trans he⟩⟩
    | ok t j =>
      have HC : Hid (PR.ok t j = PR.ok t j) := Lib.hid rfl
      refine Calls.mono (hc) ?_
      rintro _ w2 ⟨⟨r, rfl, hx⟩, hp, he⟩
      dsimp only
      have hone := hx.one
      have hx2 := hx.mono HA.out.bx.lt
      have HA := Lib.hid (HA.out.go hp he)
      clear hc hp he hx hn hi
      have HD := Lib.hid (HA.out.done hx2)
      have HM := Lib.hid HA.out.bx
      repeat' (first | (refine store_box HM.out r hone _ _ rfl rfl rfl ?_; dsimp only [Act.put]) | go_values | go_skip | go_guarded | go_step | go_upon)
      refine bodyPost_ret (results_re rfl _ _ _ _ rfl (HM.out.set _)) rfl ?_
      exact TPost.okI HC.out ⟨⟨_, rfl, HD.out.1⟩, HD.out.2.1, HD.out.2.2⟩
  rw [if_neg h91] at hX
  by_cases h46 : isC S.data.toList i 46
  · rw [if_pos h46] at hX
    have HC := Lib.hid hX.symm
    clear hX
    have HA := Lib.hid (AX.start h)
    clear h
    go_enter Try.func20, Try.ntmps20
    repeat' (go_not_at_region 1; first | go_values | go_skip | go_guarded | go_step | go_upon)
    generalize hZ : w.heap.size = Z at HA ⊢
    refine gen_wd (fun W => AX w Z g S d i W) HA.out ?_
    clear HA
    rintro w1 hj
    have HA := Lib.hid hj
    clear hj hZ
    repeat' (first | go_values | go_skip | go_guarded | go_step | go_upon)
    have ht := ps_is_n g S i d 40 _ HA.out.ps h40
    repeat' (first | go_values | go_skip | go_guarded | go_step | go_upon)
    refine Calls.mono (ht) ?_
    rintro _ wt ⟨rfl, hb⟩
    dsimp only
    have HA := Lib.hid (HA.out.keep hb)
    clear ht hb
    have ht := ps_take_n g S i d 91 _ HA.out.ps h91
    repeat' (first | go_values | go_skip | go_guarded | go_step | go_upon)
    refine Calls.mono (ht) ?_
    rintro _ wt ⟨rfl, hb⟩
    dsimp only
    have HA := Lib.hid (HA.out.keep hb)
    clear ht hb
    have ht := ps_take_y g S i d 46 (by omega) _ HA.out.ps h46
    repeat' (first | go_values | go_skip | go_guarded | go_step | go_upon)
    refine Calls.mono (ht) ?_
    rintro _ wu ⟨rfl, hp, he⟩
    dsimp only
    have HA := Lib.hid (HA.out.go hp he)
    clear ht hp he
    clear h40 h91 h46 hn hi
    repeat' (first | go_values | go_skip | go_guarded | go_step | go_upon)
    refine Calls.mono ((k_ln _)) ?_
    rintro _ w2 ⟨rfl, hb⟩
    dsimp only
    have HA := Lib.hid (HA.out.keep hb)
    clear hb
    repeat' (first | go_values | go_skip | go_guarded | go_step | go_upon)
    refine Calls.mono ((k_not _ _)) ?_
    rintro _ w3 ⟨rfl, hb⟩
    dsimp only
    have HA := Lib.hid (HA.out.keep hb)
    clear hb
    have HD := Lib.hid (HA.out.done (ReX.setT _ _ _ (notB (oneB 10))))
    have HM := Lib.hid HA.out.bx
    repeat' (first | (refine store_box HM.out (setN (notB (oneB 10))) rfl _ _ rfl rfl rfl ?_; dsimp only [Act.put]) | go_values | go_skip | go_guarded | go_step | go_upon)
    refine bodyPost_ret (results_re rfl _ _ _ _ rfl (HM.out.set _)) rfl ?_
    exact TPost.okI HC.out ⟨⟨_, rfl, HD.out.1⟩, HD.out.2.1, HD.out.2.2⟩
  rw [if_neg h46] at hX
  by_cases h92 : isC S.data.toList i 92
  · rw [if_pos h92] at hX
    have hi1 : i + 1 ≤ S.size := by have := h92.1; rw [ba_len] at this; omega
    have hk := fun W hp => ps_kind g S (i + 1) d (by omega) W hp
    have hesc := fun W hp => ps_escape g S (i + 1) d hS hi1 W hp
    have HA := Lib.hid (AX.start h)
    clear h
    go_enter Try.func20, Try.ntmps20
    repeat' (go_not_at_region 1; first | go_values | go_skip | go_guarded | go_step | go_upon)
    generalize hZ : w.heap.size = Z at HA ⊢
    refine gen_wd (fun W => AX w Z g S d i W) HA.out ?_
    clear HA
    rintro w1 hj
    have HA := Lib.hid hj
    clear hj hZ
    repeat' (first | go_values | go_skip | go_guarded | go_step | go_upon)
    have ht := ps_is_n g S i d 40 _ HA.out.ps h40
    repeat' (first | go_values | go_skip | go_guarded | go_step | go_upon)
    refine Calls.mono (ht) ?_
    rintro _ wt ⟨rfl, hb⟩
    dsimp only
    have HA := Lib.hid (HA.out.keep hb)
    clear ht hb
    have ht := ps_take_n g S i d 91 _ HA.out.ps h91
    repeat' (first | go_values | go_skip | go_guarded | go_step | go_upon)
    refine Calls.mono (ht) ?_
    rintro _ wt ⟨rfl, hb⟩
    dsimp only
    have HA := Lib.hid (HA.out.keep hb)
    clear ht hb
    have ht := ps_take_n g S i d 46 _ HA.out.ps h46
    repeat' (first | go_values | go_skip | go_guarded | go_step | go_upon)
    refine Calls.mono (ht) ?_
    rintro _ wt ⟨rfl, hb⟩
    dsimp only
    have HA := Lib.hid (HA.out.keep hb)
    clear ht hb
    have ht := ps_take_y g S i d 92 (by omega) _ HA.out.ps h92
    repeat' (first | go_values | go_skip | go_guarded | go_step | go_upon)
    refine Calls.mono (ht) ?_
    rintro _ wu ⟨rfl, hp, he⟩
    dsimp only
    have HA := Lib.hid (HA.out.go hp he)
    clear ht hp he
    clear h40 h91 h46 h92 hi
    have hk := hk _ HA.out.ps
    repeat' (first | go_values | go_skip | go_guarded | go_step | go_upon)
    cases hK : kndR S.data.toList (i + 1) with
    | some p =>
      rw [hK] at hk hX
      have HC := Lib.hid hX.symm
      clear hX hesc hn
      refine Calls.mono (hk) ?_
      rintro _ w2 ⟨rfl, hp, he⟩
      dsimp only
      have HA := Lib.hid (HA.out.go hp he)
      have HA := Lib.hid (HA.out.keep ((Below.refl _ w2).alloc (Nat.le_refl _) (.cells (sc p) 26)))
      have HL : Hid (SetAt (w2.alloc (.cells (sc p) 26)) w2.heap.size p) := Lib.hid (Go.heap_alloc_new _ _)
      clear hk hp he hK
      have HD := Lib.hid (HA.out.done (ReX.setT (Z + 1) g _ p))
      have HM := Lib.hid HA.out.bx
      repeat' (first | (with_reducible refine load_set1 HL.out _ rfl rfl ?_; dsimp only [Act.put]) | (refine store_box HM.out (setN p) rfl _ _ rfl rfl rfl ?_; dsimp only [Act.put]) | go_values | go_skip | go_guarded | go_step | go_upon)
      refine bodyPost_ret (results_re rfl _ _ _ _ rfl (HM.out.set _)) rfl ?_
      exact TPost.okI HC.out ⟨⟨_, rfl, HD.out.1⟩, HD.out.2.1, HD.out.2.2⟩
    | none =>
      rw [hK] at hk hX
      dsimp only at hX
      refine Calls.mono (hk) ?_
      rintro _ w2 ⟨rfl, hp, he⟩
      dsimp only
      have HA := Lib.hid (HA.out.go hp he)
      have HA := Lib.hid (HA.out.keep ((Below.refl _ w2).alloc (Nat.le_refl _) (.cells (sc fun _ => false) 26)))
      clear hk hp he hK
      have hc := hesc _ HA.out.ps
      clear hesc
      repeat' (first | go_values | go_skip | go_guarded | go_step | go_upon)
      cases hE : escR S.data.toList (i + 1) with
      | out => exact absurd hE escR_out
      | bad e0 j =>
        rw [hE] at hc hX
        have HC := Lib.hid hX.symm
        refine Calls.mono hc ?_
        rintro _ wy ⟨rfl, he⟩
        exact ⟨rfl, TPost.badI HC.out ⟨rfl, HA.out.els.trans he⟩⟩
      | ok c j =>
        have hc256 := escR_lt hE
        rw [hE] at hc hX
        have HC := Lib.hid hX.symm
        clear hX hE hn hi1
        refine Calls.mono (hc) ?_
        rintro _ w3 ⟨rfl, hp, he⟩
        dsimp only
        have HA := Lib.hid (HA.out.go hp he)
        clear hc hp he
        repeat' (first | go_values | go_skip | go_guarded | go_step | go_upon)
        refine Calls.mono ((ps_one c hc256 _)) ?_
        rintro _ w4 ⟨rfl, hb⟩
        dsimp only
        have HA := Lib.hid (HA.out.keep hb)
        clear hb
        have HD := Lib.hid (HA.out.done (ReX.setT _ _ _ (oneB c)))
        have HM := Lib.hid HA.out.bx
        repeat' (first | (refine store_box HM.out (setN (oneB c)) rfl _ _ rfl rfl rfl ?_; dsimp only [Act.put]) | go_values | go_skip | go_guarded | go_step | go_upon)
        refine bodyPost_ret (results_re rfl _ _ _ _ rfl (HM.out.set _)) rfl ?_
        exact TPost.okI HC.out ⟨⟨_, rfl, HD.out.1⟩, HD.out.2.1, HD.out.2.2⟩
  rw [if_neg h92] at hX
  by_cases hlt : i < S.size
  · have hlt' : ¬ (i : Int) ≥ S.size := by omega
    have hx := byte_is S i hlt
    have hb := bt_lt S.data.toList i
    have hw : IntKind.i64.wrap ((i : Int) + 1) = ((i + 1 : Nat) : Int) := by rw [wi64 (by unfold I64; omega)]; omega
    have hw2 : IntKind.i64.wrap (((i + 1 : Nat) : Int) - 1) = (i : Int) := by rw [wi64 (by unfold I64; omega)]; omega
    obtain ⟨x, hxx⟩ : ∃ x, bt S.data.toList i = x := ⟨_, rfl⟩
    rw [hxx] at hx hb hX
    obtain ⟨j, hj⟩ : ∃ j, i + 1 = j := ⟨_, rfl⟩
    rw [hj] at hw hw2 hX
    have hI : ∀ W, Calls Try.prog 29 #[.string ⟨#[92, 40, 41, 91, 93, 123, 125, 46, 42, 43, 63, 124, 94, 36]⟩, .int .u8 (x : Nat)] W fun e w' => e = .returned (.int .i64 (Lib.indexByte [92, 40, 41, 91, 93, 123, 125, 46, 42, 43, 63, 124, 94, 36] ((x : Nat) : Int).toNat.toUInt8)) ∧ w' = W := fun W => Try.strings_IndexByte ⟨#[92, 40, 41, 91, 93, 123, 125, 46, 42, 43, 63, 124, 94, 36]⟩ (x : Nat) W
    have e1 := ix_sgn ⟨x, hb⟩
    dsimp only at e1
    generalize Lib.indexByte [92, 40, 41, 91, 93, 123, 125, 46, 42, 43, 63, 124, 94, 36] ((x : Nat) : Int).toNat.toUInt8 = v1 at hI e1
    rw [decide_eq_decide] at e1
    have HHj := Lib.hid hj
    clear hj hxx
    by_cases hsg : x ∈ sgP
    · rw [if_neg (fun q => q.2 hsg)] at hX
      have HC := Lib.hid hX.symm
      have hv : v1 ≥ 0 := e1.2 hsg
      clear hX hn hi hw hw2 e1 hsg hlt
      have HA := Lib.hid (AX.start h)
      clear h
      go_enter Try.func20, Try.ntmps20
      repeat' (go_not_at_region 1; first | go_values | go_skip | go_guarded | go_step | go_upon)
      generalize hZ : w.heap.size = Z at HA ⊢
      refine gen_wd (fun W => AX w Z g S d i W) HA.out ?_
      clear HA
      rintro w1 hj
      have HA := Lib.hid hj
      clear hj hZ
      repeat' (first | go_values | go_skip | go_guarded | go_step | go_upon)
      have ht := ps_is_n g S i d 40 _ HA.out.ps h40
      repeat' (first | go_values | go_skip | go_guarded | go_step | go_upon)
      refine Calls.mono (ht) ?_
      rintro _ wt ⟨rfl, hb⟩
      dsimp only
      have HA := Lib.hid (HA.out.keep hb)
      clear ht hb
      have ht := ps_take_n g S i d 91 _ HA.out.ps h91
      repeat' (first | go_values | go_skip | go_guarded | go_step | go_upon)
      refine Calls.mono (ht) ?_
      rintro _ wt ⟨rfl, hb⟩
      dsimp only
      have HA := Lib.hid (HA.out.keep hb)
      clear ht hb
      have ht := ps_take_n g S i d 46 _ HA.out.ps h46
      repeat' (first | go_values | go_skip | go_guarded | go_step | go_upon)
      refine Calls.mono (ht) ?_
      rintro _ wt ⟨rfl, hb⟩
      dsimp only
      have HA := Lib.hid (HA.out.keep hb)
      clear ht hb
      have ht := ps_take_n g S i d 92 _ HA.out.ps h92
      repeat' (first | go_values | go_skip | go_guarded | go_step | go_upon)
      refine Calls.mono (ht) ?_
      rintro _ wt ⟨rfl, hb⟩
      dsimp only
      have HA := Lib.hid (HA.out.keep hb)
      clear ht hb
      clear h40 h91 h46 h92 hb
      repeat' (first | go_values | go_skip | go_guarded | go_step | go_upon)
      have q0 : ∀ nq : WB wt, nq.1.cell? ⟨g, 0, none⟩ = some (.string S) := fun nq => (HA.out.ps.keep nq.2).c0
      have q1 : ∀ nq : WB wt, nq.1.cell? ⟨g, 1, none⟩ = some (.int .i64 (i : Int)) := fun nq => (HA.out.ps.keep nq.2).c1
      refine wp_region_wb (by kernel_rfl) (by kernel_rfl) wt (Below.refl _ _) ?_
      repeat (go_big_quiet_step ((go_at_call 29; exact calls_wb_same ((hI _).mono fun _ _ ⟨he, hw⟩ => ⟨he, hw.symm⟩))))
      refine wpQuiet_nil ?_
      rintro _ ⟨nr, rfl⟩
      have HA := Lib.hid (HA.out.keep nr.2)
      clear q0 q1 hI
      have hf := ps_fail g S i d nr.1 HA.out.ps
      repeat' (first | go_values | go_skip | go_guarded | go_step | go_upon)
      refine Calls.mono hf ?_
      rintro _ w2 ⟨rfl, rfl⟩
      exact ⟨rfl, TPost.badI HC.out ⟨rfl, HA.out.els⟩⟩
    · rw [if_pos ⟨hlt, hsg⟩] at hX
      have HC := Lib.hid hX.symm
      have hv : ¬ v1 ≥ 0 := mt e1.1 hsg
      clear hX hn hi e1 hsg hlt
      have HA := Lib.hid (AX.start h)
      clear h
      go_enter Try.func20, Try.ntmps20
      repeat' (go_not_at_region 1; first | go_values | go_skip | go_guarded | go_step | go_upon)
      generalize hZ : w.heap.size = Z at HA ⊢
      refine gen_wd (fun W => AX w Z g S d i W) HA.out ?_
      clear HA
      rintro w1 hj
      have HA := Lib.hid hj
      clear hj hZ
      repeat' (first | go_values | go_skip | go_guarded | go_step | go_upon)
      have ht := ps_is_n g S i d 40 _ HA.out.ps h40
      repeat' (first | go_values | go_skip | go_guarded | go_step | go_upon)
      refine Calls.mono (ht) ?_
      rintro _ wt ⟨rfl, hb⟩
      dsimp only
      have HA := Lib.hid (HA.out.keep hb)
      clear ht hb
      have ht := ps_take_n g S i d 91 _ HA.out.ps h91
      repeat' (first | go_values | go_skip | go_guarded | go_step | go_upon)
      refine Calls.mono (ht) ?_
      rintro _ wt ⟨rfl, hb⟩
      dsimp only
      have HA := Lib.hid (HA.out.keep hb)
      clear ht hb
      have ht := ps_take_n g S i d 46 _ HA.out.ps h46
      repeat' (first | go_values | go_skip | go_guarded | go_step | go_upon)
      refine Calls.mono (ht) ?_
      rintro _ wt ⟨rfl, hb⟩
      dsimp only
      have HA := Lib.hid (HA.out.keep hb)
      clear ht hb
      have ht := ps_take_n g S i d 92 _ HA.out.ps h92
      repeat' (first | go_values | go_skip | go_guarded | go_step | go_upon)
      refine Calls.mono (ht) ?_
      rintro _ wt ⟨rfl, hb⟩
      dsimp only
      have HA := Lib.hid (HA.out.keep hb)
      clear ht hb
      clear h40 h91 h46 h92
      repeat' (first | go_values | go_skip | go_guarded | go_step | go_upon)
      have q0 : ∀ nq : WB wt, nq.1.cell? ⟨g, 0, none⟩ = some (.string S) := fun nq => (HA.out.ps.keep nq.2).c0
      have q1 : ∀ nq : WB wt, nq.1.cell? ⟨g, 1, none⟩ = some (.int .i64 (i : Int)) := fun nq => (HA.out.ps.keep nq.2).c1
      refine wp_region_wb (by kernel_rfl) (by kernel_rfl) wt (Below.refl _ _) ?_
      repeat (go_big_quiet_step ((go_at_call 29; exact calls_wb_same ((hI _).mono fun _ _ ⟨he, hw⟩ => ⟨he, hw.symm⟩))))
      refine wpQuiet_nil ?_
      rintro _ ⟨nr, rfl⟩
      have HA := Lib.hid (HA.out.keep nr.2)
      clear q0 q1 hI
      have c1 := HA.out.ps.c1
      have f1 := HA.out.ps.free 1
      have HA := Lib.hid (HA.out.setI j)
      repeat' (first | go_values | go_skip | go_guarded | go_step | go_upon)
      clear c1 f1
      generalize World.setCell nr.1 ⟨g, 1, none⟩ (.int .i64 (j : Int)) = w5 at HA ⊢
      obtain ⟨C, hC⟩ : ∃ C : World → Prop, C = fun W => PsAt W g S j d := ⟨_, rfl⟩
      have Hmk : Hid (∀ W, PsAt W g S j d → C W) := Lib.hid (fun W h => by rw [hC]; exact h)
      have hC' : ∀ W, C W → PsAt W g S j d := fun W h => by rw [hC] at h; exact h
      have q0 : ∀ nq : GW C, nq.1.cell? ⟨g, 0, none⟩ = some (.string S) := fun nq => (hC' _ nq.2).c0
      have q1 : ∀ nq : GW C, nq.1.cell? ⟨g, 1, none⟩ = some (.int .i64 (j : Int)) := fun nq => (hC' _ nq.2).c1
      clear hC hC'
      refine wp_region_anyP (by kernel_rfl) C ?_
      refine wpAnyC_take (i := 0) (v := _) rfl (by kernel_rfl) (by kernel_rfl) (by kernel_rfl) (fun _ _ _ h => h) (Or.inl ⟨by rfl, fun w ⟨nq, hw⟩ => by (subst hw; go_simp <;> with_reducible rfl)⟩) (by go_simp <;> with_reducible rfl) ?_
      refine wpAnyC_take (i := 1) (v := _) rfl (by kernel_rfl) (by kernel_rfl) (by kernel_rfl) (fun _ _ _ h => h) (Or.inl ⟨by rfl, fun w ⟨nq, hw⟩ => by (subst hw; go_simp <;> with_reducible rfl)⟩) (by go_simp <;> with_reducible rfl) ?_
      refine wpAnyC_take (i := 2) (v := _) rfl (by kernel_rfl) (by kernel_rfl) (by kernel_rfl) (fun _ _ _ h => h) (Or.inl ⟨by rfl, fun w ⟨nq, hw⟩ => by (subst hw; go_simp <;> with_reducible rfl)⟩) (by go_simp <;> with_reducible rfl) ?_
      refine wpAnyC_take (i := 3) (v := _) rfl (by kernel_rfl) (by kernel_rfl) (by kernel_rfl) (fun _ _ _ h => h) (Or.inl ⟨by rfl, fun w ⟨nq, hw⟩ => by (subst hw; go_simp <;> with_reducible rfl)⟩) (by go_simp <;> with_reducible rfl) ?_
      refine wpAnyC_take (i := 4) (v := _) rfl (by kernel_rfl) (by kernel_rfl) (by kernel_rfl) (fun _ _ _ h => h) (Or.inl ⟨by rfl, fun w ⟨nq, hw⟩ => by (subst hw; go_simp <;> with_reducible rfl)⟩) (by go_simp <;> with_reducible rfl) ?_
      refine wpAnyC_take (i := 5) (v := _) rfl (by kernel_rfl) (by kernel_rfl) (by kernel_rfl) (fun _ _ _ h => h) (Or.inl ⟨by rfl, fun w ⟨nq, hw⟩ => by (subst hw; go_simp <;> with_reducible rfl)⟩) (by go_simp <;> with_reducible rfl) ?_
      refine wpAnyC_take (i := 6) (v := _) rfl (by kernel_rfl) (by kernel_rfl) (by kernel_rfl) (fun _ _ _ h => h) (Or.inl ⟨by rfl, fun w ⟨nq, hw⟩ => by (subst hw; go_simp <;> with_reducible rfl)⟩) (by go_simp <;> with_reducible rfl) ?_
      refine wpAnyC_take (i := 7) (v := _) rfl (by kernel_rfl) (by kernel_rfl) (by kernel_rfl) (fun _ _ _ h => h) (Or.inl ⟨by rfl, fun w ⟨nq, hw⟩ => by (subst hw; go_simp <;> with_reducible rfl)⟩) (by go_simp <;> with_reducible rfl) ?_
      refine wpAnyC_take (i := 8) (v := _) rfl (by kernel_rfl) (by kernel_rfl) (by kernel_rfl) (fun _ _ _ h => h) (Or.inl ⟨by rfl, fun w ⟨nq, hw⟩ => by (subst hw; go_simp <;> with_reducible rfl)⟩) (by go_simp <;> with_reducible rfl) ?_
      refine wpAnyC_take (i := 9) (v := _) rfl (by kernel_rfl) (by kernel_rfl) (by kernel_rfl) (fun _ _ _ h => h) (Or.inl ⟨by rfl, fun w ⟨nq, hw⟩ => by (subst hw; go_simp <;> with_reducible rfl)⟩) (by go_simp <;> with_reducible rfl) ?_
      refine genCp (fun W => AX w Z g S d j W) (HA.out.keep (Below.refl _ _).drew) ?_
      clear q0 q1 HA
      intro W0 h0
      refine wpAnyC_ready (CG.of (Hmk.out _ h0.ps)) (rs := [10]) (by kernel_rfl) (by simp) ?_
      refine (AllReadyC.cons rfl (fun K hK => ?_) AllReadyC.nil)
      go_simp
      refine Calls.mono ((ps_one x hb W0)) ?_
      rintro _ W1 ⟨rfl, hbb⟩
      dsimp only
      refine hK _ _ ?_
      clear hK K
      have h1 := h0.keep hbb
      clear hbb h0
      refine wpAnyC_ready (CG.of (Hmk.out _ h1.ps)) (rs := [11]) (by kernel_rfl) (by simp) ?_
      refine (AllReadyC.cons rfl (fun K hK => ?_) AllReadyC.nil)
      refine step_of rfl (store_box h1.bx (setN (oneB x)) rfl _ _ rfl rfl rfl ?_)
      refine hK _ _ ?_
      clear hK K
      have hD := h1.done (ReX.setT (Z + 1) g W1 (oneB x))
      refine wpAnyC_done (by kernel_rfl) (CG.of (Hmk.out _ hD.2.1)) (by go_simp <;> with_reducible rfl) ?_
      have HM := Lib.hid h1.bx
      have HD := Lib.hid hD
      clear hD h1 Hmk
      repeat' (first | go_values | go_skip | go_guarded | go_step | go_upon)
      refine bodyPost_ret (results_re rfl _ _ _ _ rfl (HM.out.set _)) rfl ?_
      exact TPost.okI HC.out ⟨⟨_, rfl, HD.out.1⟩, HD.out.2.1, HD.out.2.2⟩
  · have hlt' : (i : Int) ≥ S.size := by omega
    rw [if_neg (fun q => hlt q.1)] at hX
    have HC := Lib.hid hX.symm
    clear hX hn hi hlt
    have HA := Lib.hid (AX.start h)
    clear h
    go_enter Try.func20, Try.ntmps20
    repeat' (go_not_at_region 1; first | go_values | go_skip | go_guarded | go_step | go_upon)
    generalize hZ : w.heap.size = Z at HA ⊢
    refine gen_wd (fun W => AX w Z g S d i W) HA.out ?_
    clear HA
    rintro w1 hj
    have HA := Lib.hid hj
    clear hj hZ
    repeat' (first | go_values | go_skip | go_guarded | go_step | go_upon)
    have ht := ps_is_n g S i d 40 _ HA.out.ps h40
    repeat' (first | go_values | go_skip | go_guarded | go_step | go_upon)
    refine Calls.mono (ht) ?_
    rintro _ wt ⟨rfl, hb⟩
    dsimp only
    have HA := Lib.hid (HA.out.keep hb)
    clear ht hb
    have ht := ps_take_n g S i d 91 _ HA.out.ps h91
    repeat' (first | go_values | go_skip | go_guarded | go_step | go_upon)
    refine Calls.mono (ht) ?_
    rintro _ wt ⟨rfl, hb⟩
    dsimp only
    have HA := Lib.hid (HA.out.keep hb)
    clear ht hb
    have ht := ps_take_n g S i d 46 _ HA.out.ps h46
    repeat' (first | go_values | go_skip | go_guarded | go_step | go_upon)
    refine Calls.mono (ht) ?_
    rintro _ wt ⟨rfl, hb⟩
    dsimp only
    have HA := Lib.hid (HA.out.keep hb)
    clear ht hb
    have ht := ps_take_n g S i d 92 _ HA.out.ps h92
    repeat' (first | go_values | go_skip | go_guarded | go_step | go_upon)
    refine Calls.mono (ht) ?_
    rintro _ wt ⟨rfl, hb⟩
    dsimp only
    have HA := Lib.hid (HA.out.keep hb)
    clear ht hb
    clear h40 h91 h46 h92
    repeat' (first | go_values | go_skip | go_guarded | go_step | go_upon)
    have q0 : ∀ nq : WB wt, nq.1.cell? ⟨g, 0, none⟩ = some (.string S) := fun nq => (HA.out.ps.keep nq.2).c0
    have q1 : ∀ nq : WB wt, nq.1.cell? ⟨g, 1, none⟩ = some (.int .i64 (i : Int)) := fun nq => (HA.out.ps.keep nq.2).c1
    refine wp_region_wb (by kernel_rfl) (by kernel_rfl) wt (Below.refl _ _) ?_
    repeat (go_big_quiet_step (fail))
    refine wpQuiet_nil ?_
    rintro _ ⟨nr, rfl⟩
    have HA := Lib.hid (HA.out.keep nr.2)
    clear q0 q1
    have hf := ps_fail g S i d nr.1 HA.out.ps
    repeat' (first | go_values | go_skip | go_guarded | go_step | go_upon)
    refine Calls.mono hf ?_
    rintro _ w2 ⟨rfl, rfl⟩
    exact ⟨rfl, TPost.badI HC.out ⟨rfl, HA.out.els⟩⟩
end Go.Proofs.Ytnbfifmnigeolaa
