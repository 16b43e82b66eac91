/- Walk: the statement SetParts. Condition: a row of sets. -/
import Derived.Test.YtapanlchnmgkmaaClsRef
import Derived.Test.YtapanlchnmgkmaaPartsSpec
import Derived.Test.YtapanlchnmgkmaaApp
import Derived.Test.YtapanlchnmgkmaaSetClasses
import Derived.Test.YtapanlchnmgkmaaAnyC
import Derived.Deep.Cut
namespace Go.Proofs.Ytapanlchnmgkmaa
open Go.RowKit
theorem run_make_p {P : Program} (t e : TypeId) (z : Value) (sz bytes : Nat) (ht : P.underlying t = some (.slice e)) (hinfo : (P.info? e).map (fun i => (i.zero, i.size, i.bytes)) = some (some z, sz, bytes))
    (n : Nat) (hbytes : bytes * n ≤ 281474976710656) (h63 : n ≤ 9223372036854775807) (w : World) :
    (Instr.makeSlice t (.int .i64 (n : Int)) (.int .i64 (n : Int))).run P w = .ok (.slice (some ⟨w.heap.size, 0, none⟩) n n) (w.alloc (.cells (madeCells z.cells (n * sz)) e)) := by
  obtain ⟨i, hi, hzz⟩ := Option.map_eq_some_iff.1 hinfo
  simp only [Prod.mk.injEq] at hzz
  obtain ⟨hz, hs, hb⟩ := hzz
  have hb' : (i.bytes : Int) * (n : Int) ≤ 281474976710656 := by
    have h : ((i.bytes * n : Nat) : Int) ≤ 281474976710656 := by rw [hb]; omega
    rwa [Int.natCast_mul] at h
  have hr := run_make (P := P) w t e i z ht hi hz .i64 .i64 n n (by omega) (Int.le_refl _) hb' (by omega)
  simp only [Int.toNat_natCast, hs] at hr
  exact hr
theorem info_pint : (Try.prog.info? 3).map (fun i => (i.zero, i.size, i.bytes)) = some (some (.int .i64 0), 1, 8) := by kernel_rfl
/-- a row of numbers of the call's own -/
def nmC (f : Nat → Nat) (n : Nat) : Array Value := ((List.range n).map fun c => Value.int .i64 ((f c : Nat) : Int)).toArray
theorem nmC_size (f : Nat → Nat) (n : Nat) : (nmC f n).size = n := by simp [nmC]
theorem nmC_at (f : Nat → Nat) {n c : Nat} (h : c < n) : (nmC f n)[c]? = some (.int .i64 ((f c : Nat) : Int)) := by simp [nmC, h]
theorem nmC_made (n : Nat) : madeCells #[Value.int .i64 0] n = nmC (fun _ => 0) n := by
  unfold madeCells nmC
  apply Array.ext
  · simp
  · intro i h1 h2; simp [Nat.mod_one]
theorem nmC_congr {f g : Nat → Nat} {n : Nat} (h : ∀ c, c < n → f c = g c) : nmC f n = nmC g n := by
  unfold nmC; congr 1
  exact List.map_congr_left fun c hc => by rw [h c (List.mem_range.1 hc)]
def NmAt (w : World) (g n : Nat) (f : Nat → Nat) : Prop := w.heap[g]? = some (.cells (nmC f n) 3 (0, 0))
theorem NmAt.lt {w : World} {g n : Nat} {f : Nat → Nat} (h : NmAt w g n f) : g < w.heap.size := (Array.getElem?_eq_some_iff.1 h).1
theorem NmAt.keep {w w' : World} {g n : Nat} {f : Nat → Nat} (h : NmAt w g n f) (hb : Below w.heap.size w w') : NmAt w' g n f := by
  unfold NmAt; rw [hb.block g h.lt]; exact h
theorem NmAt.cell {w : World} {g n : Nat} {f : Nat → Nat} (h : NmAt w g n f) {c : Nat} (hc : c < n) : w.cell? ⟨g, c, none⟩ = some (.int .i64 ((f c : Nat) : Int)) := by
  rw [cell_of_row w g c _ _ _ h]; exact nmC_at f hc
theorem NmAt.free {w : World} {g n : Nat} {f : Nat → Nat} (h : NmAt w g n f) (c : Nat) : w.frozen? ⟨g, c, none⟩ = false := frozen_of_row _ _ _ _ _ h
theorem NmAt.put {w : World} {g n : Nat} {f d : Nat → Nat} (h : NmAt w g n f) {k : Nat} (hk : k < n) {x : Nat} (hd : ∀ c, d c = if c = k then x else f c) : NmAt (w.setCell ⟨g, k, none⟩ (.int .i64 (x : Int))) g n d := by
  rw [setCell_eq_setRow w g k _ _ _ (.int .i64 (x : Int)) h]
  have e : (nmC f n).setIfInBounds k (.int .i64 (x : Int)) = nmC d n := by
    apply Array.ext_getElem?
    intro c
    rw [Array.getElem?_setIfInBounds]
    by_cases hc : c < n
    · rw [nmC_at _ hc, nmC_at _ hc, hd c]
      by_cases hkc : k = c
      · subst hkc; simp [nmC_size, hk]
      · have : ¬ c = k := fun e => hkc e.symm
        simp [hkc, this]
    · have h1 : (nmC f n)[c]? = none := by simp [nmC_size, Nat.le_of_not_lt hc]
      have h2 : (nmC d n)[c]? = none := by simp [nmC_size, Nat.le_of_not_lt hc]
      have h3 : ¬ k = c := by omega
      rw [h1, h2]; simp [h3]
  rw [e]
  exact setRow_heap _ _ _ _ _ _ h
theorem mem_getS {α : Type} (l : List α) (d : α) (k : Nat) (h : k < l.length) : l.getD k d ∈ l := by
  rw [List.getD_eq_getElem?_getD, List.getElem?_eq_getElem h]; exact List.getElem_mem h
theorem lst_next (f : Nat → Nat) (j c : Nat) : lst f (j + 1) c = if c = f (255 - j) then 255 - j else lst f j c := by
  rw [lst]
  by_cases h : f (255 - j) = c
  · rw [if_pos h, if_pos h.symm]
  · rw [if_neg h, if_neg fun e => h e.symm]
theorem idx_of (i : Int) {n : Nat} (hn : 0 < n) (hn2 : n ≤ 200) : ∃ q : Nat, q < n ∧ (i.tmod n + n).tmod n = q ∧ IntKind.i64.wrap (i.tmod n + n) = i.tmod n + n := by
  have h1 : i.tmod n < n := Int.tmod_lt_of_pos i (by omega)
  have h2 : -(n : Int) < i.tmod n := by
    have := Int.tmod_lt_of_pos (-i) (b := (n : Int)) (by omega)
    rw [Int.neg_tmod] at this
    omega
  have h3 : (i.tmod n + n).tmod n = (i.tmod n + n) % n := Int.tmod_eq_emod_of_nonneg (by omega)
  have h4 := Int.emod_nonneg (i.tmod n + n) (b := (n : Int)) (by omega)
  have h5 := Int.emod_lt_of_pos (i.tmod n + n) (b := (n : Int)) (by omega)
  refine ⟨((i.tmod n + n) % n).toNat, by omega, by rw [h3]; omega, ?_⟩
  rw [IntKind.wrap_i64]; omega
/-- the law's own variables -/
structure LW (w0 : World) (g1 g2 N : Nat) (C R : Nat → Nat) (w : World) : Prop where
  bel : Below w0.heap.size w0 w
  c : ClsAt w g1 C
  r : NmAt w g2 N R
  b1 : w0.heap.size ≤ g1
  b2 : w0.heap.size ≤ g2
  ne : g1 ≠ g2
theorem LW.keep {w0 w w' : World} {g1 g2 N : Nat} {C R : Nat → Nat} (h : LW w0 g1 g2 N C R w) (hb : Below w.heap.size w w') : LW w0 g1 g2 N C R w' :=
  ⟨h.bel.trans (hb.mono h.bel.size), h.c.keep hb, h.r.keep hb, h.b1, h.b2, h.ne⟩
theorem LW.put {w0 w : World} {g1 g2 N : Nat} {C R d : Nat → Nat} (h : LW w0 g1 g2 N C R w) {k : Nat} (hk : k < N) {x : Nat} (hd : ∀ c, d c = if c = k then x else R c) : LW w0 g1 g2 N C d (w.setCell ⟨g2, k, none⟩ (.int .i64 (x : Int))) :=
  ⟨h.bel.setCell h.b2 _, heap_cellOther h.c h.ne, h.r.put hk hd, h.b1, h.b2, h.ne⟩
theorem law_start {w w1 : World} (hb : Below w.heap.size w w1) (C : Nat → Nat) (N : Nat) : LW w w1.heap.size (w1.heap.size + 1) N C (fun _ => 0) (((w1.alloc (.cells (tabC fun _ => 0) 30)).setRow w1.heap.size (tabC C)).alloc (.cells (madeCells #[Value.int .i64 0] N) 3)) := by
  obtain ⟨wx, hwx⟩ : ∃ wx, wx = (w1.alloc (.cells (tabC fun _ => 0) 30)).setRow w1.heap.size (tabC C) := ⟨_, rfl⟩
  have N1 : ClsAt (w1.alloc (.cells (tabC fun _ => 0) 30)) w1.heap.size fun _ => 0 := Go.heap_alloc_new _ _
  have N2 : ClsAt wx w1.heap.size C := by rw [hwx]; exact N1.row
  have B2 : Below w.heap.size w wx := by rw [hwx]; exact hb.trans ((Below.row ((Below.refl _ _).alloc (Nat.le_refl _) _) (Nat.le_refl _) _).mono hb.size)
  have hs : wx.heap.size = w1.heap.size + 1 := by rw [hwx]; simp [World.setRow, World.size_alloc]
  rw [← hwx]
  have hbx : Below wx.heap.size wx (wx.alloc (.cells (madeCells #[Value.int .i64 0] N) 3)) := (Below.refl _ _).alloc (Nat.le_refl _) _
  refine ⟨B2.trans (hbx.mono B2.size), N2.keep hbx, ?_, hb.size, by have := hb.size; omega, by omega⟩
  unfold NmAt
  rw [nmC_made, ← hs]
  exact Go.heap_alloc_new _ _
theorem genC {P : Program} {md : Region.Mode} {ops : Array Oper} {C : World → Prop} {Q : Exit → Act → World → Prop} {fuel : Nat} {listed : Array Bool} {a : Act} {w : World} (F : World → Prop) (hF : F w) (h : ∀ w', F w' → wpAnyC P md ops C Q fuel listed a w') : wpAnyC P md ops C Q fuel listed a w := h w hF
theorem setC_one (p : Nat → Bool) : ∀ u ∈ setC p, u.oneCell' = true := fun u hu => by
  simp [setC] at hu
  rcases hu with rfl | rfl | rfl | rfl <;> rfl
theorem info_aset : (Try.prog.info? 25).map (fun i => (i.zero, i.size, i.bytes)) = some (some (.agg #[.int .u64 0, .int .u64 0, .int .u64 0, .int .u64 0]), 4, 32) := by kernel_rfl
theorem own_new {B : Nat} (W : World) (hB : B ≤ W.heap.size) : OwnR setC 4 B 25 (W.alloc (.cells #[] 25)) (.slice (some ⟨W.heap.size, 0, none⟩) 0 0) [] :=
  ⟨by simp, .inr ⟨W.heap.size, 0, #[], (0, 0), rfl, hB, Go.heap_alloc_new _ _, fun j h => by simp at h, Nat.le_refl _, Nat.zero_le _, by simp, by simp⟩⟩
theorem row_new (W : World) (p : Nat → Bool) : RowOf setC 4 (W.alloc (.cells (sc p) 25)) (.slice (some ⟨W.heap.size, 0, none⟩) 1 1) [p] := by
  refine ⟨_, _, rfl, Nat.le_refl _, by decide, by simp [setC], .inr ⟨W.heap.size, 0, rfl, by rw [World.size_alloc]; omega, fun i hi => ?_⟩⟩
  rw [Nat.zero_add, cell_of_row _ _ i _ _ _ (Go.heap_alloc_new W _)]
  simp [setC, sc]
theorem own_ne {B : Nat} {w : World} {v : Value} {l : List (Nat → Bool)} {g : Nat} {c : Nat → Nat} (ho : OwnR setC 4 B 25 w v l) (hc : ClsAt w g c) : v.ownBlock ≠ some g := fun e => by
  obtain ⟨cs, fz, h⟩ := ho.typed e
  rw [show w.heap[g]? = _ from hc] at h
  simp at h
theorem classes_again {l : List (Nat → Bool)} {p q : Nat → Bool} (hp : p ∈ l) (hq : q ∈ l) (v : Value) (w : World) (h : RowOf setC 4 w v (l ++ [fun b => p b || !q b])) :
    Calls Try.prog 12 #[v] w fun e w' => e = .returned (.tuple #[.agg (tabC (cls (sig l))), .int .i64 (clsN (sig l) : Nat)]) ∧ Below w.heap.size w w' := by
  have ha := sig_alike l hp hq
  have hok := stOf_ok (l ++ [fun b => p b || !q b])
  have h1 := set_Classes v _ w h
  rw [tabC_congr hok.cls, hok.many, ← tabC_congr (fun b hb => cls_alike ha hb), ← clsN_alike ha] at h1
  exact h1
theorem parts_end {w wr W : World} {g1 g2 N gz : Nat} {C R : Nat → Nat} (h : LW w g1 g2 N C R wr) (hb : Below wr.heap.size wr W) (hz : ClsAt W gz fun _ => 0) (hg : wr.heap.size ≤ gz) :
    Below wr.heap.size wr (W.setRow gz (tabC C)) ∧ ClsAt (W.setRow gz (tabC C)) g1 C ∧ ClsAt (W.setRow gz (tabC C)) gz C := by
  have h1 := h.c.lt
  refine ⟨Below.row hb hg _, ?_, hz.row⟩
  have h2 : ClsAt W g1 C := h.c.keep hb
  unfold ClsAt
  rw [setRow_other _ _ _ _ (by omega)]; exact h2
set_option maxRecDepth 100000 in
set_option maxHeartbeats 20000000 in
theorem walk_SetParts (v : Value) (l : List (Nat → Bool)) (i j : Int) (w : World) (h : RowOf setC 4 w v l) :
    Calls Try.prog 5 #[v, .int .i64 i, .int .i64 j] w fun e w' => e = .returned (.bool true) ∧ Below w.heap.size w w' := by
  have hz := run_zero_cls
  obtain ⟨a, cap, hv, hcap, hmx, hcell⟩ := h.open setC_len
  subst hv
  have HR := Lib.hid h
  have hok := stOf_ok l
  have e1 : tabC (stOf l).1 = tabC (cls (sig l)) := tabC_congr hok.cls
  have H1 := Lib.hid (set_Classes _ l w h)
  rw [e1, hok.many] at H1
  clear hok e1 h
  obtain ⟨C, hC⟩ : ∃ C, C = cls (sig l) := ⟨_, rfl⟩
  obtain ⟨N, hN⟩ : ∃ N, N = clsN (sig l) := ⟨_, rfl⟩
  obtain ⟨n, hn⟩ : ∃ n, n = l.length := ⟨_, rfl⟩
  have FC : Hid (C = cls (sig l)) := Lib.hid hC
  have FN : Hid (N = clsN (sig l)) := Lib.hid hN
  have Fn : Hid (n = l.length) := Lib.hid hn
  have hN1 : 0 < N := by rw [hN]; exact clsN_pos l
  have hN2 : N ≤ 256 := by rw [hN]; exact clsN_le _
  have hlt : ∀ b, b < 256 → C b < N := fun b hb => by rw [hC, hN]; exact cls_lt _ hb
  obtain ⟨R, hR⟩ : ∃ R, R = rep (sig l) := ⟨_, rfl⟩
  have FR : Hid (lst C 256 = R) := Lib.hid (by rw [hR, hC]; rfl)
  have Rlt : Hid (∀ c, R c < 256) := Lib.hid fun c => by rw [hR]; exact rep_lt _ c
  have Rri : Hid (∀ k, k + 1 < N → R k < R (k + 1)) := Lib.hid fun k hk => by rw [hR]; exact rep_rise _ (by rw [← hN]; exact hk)
  have Rpt : Hid (∀ k c, k < N → c < k → (l.any fun a => a (R k) != a (R c)) = true) := Lib.hid fun k c hk hc => by rw [hR]; exact rep_parted l (by rw [← hN]; exact hk) hc
  have Rsm : Hid (∀ p ∈ l, ∀ b, b < 256 → p b = p (R (C b))) := Lib.hid fun p hp b hb => by rw [hR, hC]; exact rep_same l hp hb
  clear hR
  rw [← hC, ← hN] at H1
  rw [← hn] at hcap hcell H1 HR ⊢
  clear hC hN hn
  unfold maxLen at hmx
  by_cases hn : 200 < n
  · go_enter Try.func5, Try.ntmps5
    repeat' (first | go_values | go_skip | go_guarded | go_step | go_upon)
    go_ret
    exact ⟨rfl, Below.refl _ _⟩
  · go_enter Try.func5, Try.ntmps5
    repeat' (first | go_values | go_skip | go_guarded | go_step | go_upon)
    refine Calls.mono (H1.out) ?_
    rintro _ w1 ⟨rfl, hb1⟩
    dsimp only
    have N1 : Hid (ClsAt (w1.alloc (.cells (tabC fun _ => 0) 30)) w1.heap.size fun _ => 0) := Lib.hid (Go.heap_alloc_new _ _)
    have hmk := fun w' => run_make_p (P := Try.prog) 34 3 (.int .i64 0) 1 8 Try.underlying34 info_pint N (by omega) (by omega) w'
    repeat' (first | (with_reducible refine store_cls N1.out C _ _ rfl rfl rfl ?_) | go_values | go_skip | go_guarded | go_step | go_upon)
    clear hmk
    refine gen_wd (LW w w1.heap.size (w1.heap.size + 1) N C fun _ => 0) (law_start hb1 C N) ?_
    intro wa HA
    have HA := Lib.hid HA
    generalize w1.heap.size = g1 at HA ⊢
    clear N1 H1 hb1
    have e0 : lst C 0 = fun _ => 0 := rfl
    go_loopw [10] (fun s10 wr => ∃ q : Nat, s10 = .int .i64 ((255 : Int) - q) ∧ q ≤ 256 ∧ Hid (LW w g1 (g1 + 1) N C (lst C q) wr)) (fun s10 _ => (intOf s10 + 1).toNat)
    case atStart => exact ⟨0, rfl, Nat.zero_le _, HA⟩
    case round =>
      clear HA
      obtain ⟨q, rfl, hq, H⟩ := hrel
      by_cases hq6 : q < 256
      · obtain ⟨b, hb⟩ : ∃ b, b = 255 - q := ⟨_, rfl⟩
        have hbi : (255 : Int) - q = b := by omega
        have hb6 : b < 256 := by omega
        rw [hbi]
        have oc := H.out.c.cell hb6
        have ff := H.out.r.free (C b)
        have hC6 := hlt b hb6
        have oc2 := H.out.r.cell hC6
        have hnx := Lib.hid (lst_next C q)
        rw [← hb] at hnx
        have Hb := Lib.hid hbi
        generalize lst C q (C b) = z at oc2
        clear hb hbi
        repeat' (first | go_values | go_skip | go_guarded | go_step | go_upon)
        go_roundw
        case rel => exact ⟨q + 1, by rw [show ((255 : Int) - (q + 1 : Nat)) = b - 1 by have := Hb.out; omega], by omega, Lib.hid (H.out.put hC6 hnx.out)⟩
        case measure => simp [intOf]
      · obtain rfl : q = 256 := by omega
        rw [FR.out] at H
        have Hlt := Lib.hid hlt
        clear hlt
        rw [show (255 : Int) - (256 : Nat) = -1 from rfl]
        repeat' (first | go_values | go_skip | go_guarded | go_step | go_upon)
        go_loopw [51] (fun s51 wr => ∃ k : Nat, s51 = .int .i64 k ∧ k ≤ N ∧ Hid (LW w g1 (g1 + 1) N C R wr)) (fun s51 _ => N - (intOf s51).toNat)
        case atStart => exact ⟨0, rfl, Nat.zero_le _, H⟩
        case round =>
          clear H
          obtain ⟨k, rfl, hk, H⟩ := hrel
          by_cases hkN : k < N
          · have ck := H.out.r.cell hkN
            have hrk := Rlt.out k
            obtain ⟨r1, hr1⟩ : ∃ r, r = R k := ⟨_, rfl⟩
            rw [← hr1] at ck hrk
            have Hr1 := Lib.hid hr1
            clear hr1
            by_cases hk0 : k = 0
            · subst hk0
              repeat' (first | go_values | go_skip | go_guarded | go_step | go_upon)
              go_loopw [71] (fun s71 wr => s71 = .int .i64 0 ∧ Hid (LW w g1 (g1 + 1) N C R wr)) (fun s71 _ => 0)
              case atStart => exact ⟨rfl, H⟩
              case round =>
                obtain ⟨rfl, H⟩ := hrel
                repeat' (first | go_values | go_skip | go_guarded | go_step | go_upon)
                go_roundw
                case rel => exact ⟨1, by go_num, hN1, H⟩
                case measure => simp [intOf]; omega
            · obtain ⟨k', hk'⟩ : ∃ k', k = k' + 1 := ⟨k - 1, by omega⟩
              have hki : (k : Int) - 1 = (k' : Int) := by omega
              have ck' := H.out.r.cell (c := k') (by omega)
              have hri := Rri.out k' (by rw [← hk']; exact hkN)
              rw [← hk'] at hri
              have hk1 : 0 < k := by omega
              clear hk'
              rw [← Hr1.out] at hri
              generalize hr0 : R k' = r0 at ck' hri
              clear hr0
              have hd1 : decide ((r1 : Int) ≤ (r0 : Int)) = false := decide_eq_false (by omega)
              have hd2 : decide (r1 ≤ r0) = false := decide_eq_false (by omega)
              repeat' (first | go_values | go_skip | go_guarded | go_step | go_upon)
              clear hd1 hd2 ck ck' hri hki
              go_loopw [71] (fun s71 wr => ∃ c : Nat, s71 = .int .i64 c ∧ c ≤ k ∧ Hid (LW w g1 (g1 + 1) N C R wr)) (fun s71 _ => k - (intOf s71).toNat)
              case atStart => exact ⟨0, rfl, Nat.zero_le _, H⟩
              case round =>
                clear H
                obtain ⟨c, rfl, hc, H⟩ := hrel
                by_cases hck : c < k
                · have cc := H.out.r.cell (c := c) (by omega)
                  have hrc := Rlt.out c
                  have hpt := Rpt.out (k) c hkN hck
                  rw [← Hr1.out] at hpt
                  generalize R c = r2 at cc hrc hpt
                  have Hpt := Lib.hid hpt
                  clear hpt
                  repeat' (first | go_values | go_skip | go_guarded | go_step | go_upon)
                  clear cc
                  go_loopw [77, 15] (fun s77 s15 wr => ∃ q : Nat, s77 = .int .i64 q ∧ q ≤ n ∧ s15 = .bool ((l.take q).any fun a => a r1 != a r2) ∧ Hid (LW w g1 (g1 + 1) N C R wr)) (fun s77 _ _ => n - (intOf s77).toNat)
                  case atStart => exact ⟨0, rfl, Nat.zero_le _, rfl, H⟩
                  case round =>
                    clear H
                    obtain ⟨q, rfl, hq, rfl, H⟩ := hrel
                    by_cases hqn : q < n
                    · rcases hcell with h0 | ⟨b, off, rfl, hbB, hcell⟩
                      · omega
                      obtain ⟨c0, c1, c2, c3⟩ := Row4.cells hcell q (by rw [← Fn.out]; exact hqn)
                      have Hsn : Hid (((l.take (q + 1)).any fun a => a r1 != a r2) = (((l.take q).any fun a => a r1 != a r2) || (l.getD q fun _ => false) r1 != (l.getD q fun _ => false) r2)) := Lib.hid (by rw [take_getS l (fun _ => false) q (by rw [← Fn.out]; exact hqn), List.any_append]; simp)
                      clear hcell
                      rw [← H.out.bel.cell (show b < w.heap.size from hbB)] at c0 c1 c2 c3
                      generalize l.getD q (fun _ => false) = p at c0 c1 c2 c3 Hsn
                      generalize ((l.take q).any fun a => a r1 != a r2) = B at Hsn ⊢
                      have hbx : Below wr.heap.size wr (wr.alloc (.cells (sc p) 25)) := (Below.refl _ _).alloc (Nat.le_refl _) _
                      have HX := Lib.hid (H.out.keep hbx)
                      have Hs : Hid (SetAt (wr.alloc (.cells (sc p) 25)) wr.heap.size p) := Lib.hid (Go.heap_alloc_new _ _)
                      clear H hbx
                      repeat' (go_not_at_region 23; first | go_values | go_skip | go_guarded | go_step | go_upon)
                      clear c0 c1 c2 c3
                      generalize wr.alloc (.cells (sc p) 25) = wx at HX Hs ⊢
                      generalize wr.heap.size = gx at Hs ⊢
                      have q0 : ∀ nq : WB wx, nq.1.cell? ⟨gx, 0, none⟩ = some (.int .u64 (W p 0 : Nat)) := fun nq => (show SetAt nq.1 gx p from Hs.out.keep nq.2).c0
                      have q1 : ∀ nq : WB wx, nq.1.cell? ⟨gx, 1, none⟩ = some (.int .u64 (W p 1 : Nat)) := fun nq => (show SetAt nq.1 gx p from Hs.out.keep nq.2).c1
                      have q2 : ∀ nq : WB wx, nq.1.cell? ⟨gx, 2, none⟩ = some (.int .u64 (W p 2 : Nat)) := fun nq => (show SetAt nq.1 gx p from Hs.out.keep nq.2).c2
                      have q3 : ∀ nq : WB wx, nq.1.cell? ⟨gx, 3, none⟩ = some (.int .u64 (W p 3 : Nat)) := fun nq => (show SetAt nq.1 gx p from Hs.out.keep nq.2).c3
                      clear Hs
                      cases B
                      · have hw1 : IntKind.u8.wrap (r1 : Int) = (r1 : Int) := by rw [IntKind.wrap_u8]; omega
                        have hw2 : IntKind.u8.wrap (r2 : Int) = (r2 : Int) := by rw [IntKind.wrap_u8]; omega
                        refine wp_region_anyC (by kernel_rfl) wx ?_
                        refine wpAnyC_take (i := 0) (v := _) rfl (by kernel_rfl) (by kernel_rfl) (by kernel_rfl) (fun _ _ _ h => h) (Or.inl ⟨by rfl, fun w ⟨nq, hw⟩ => by (subst hw; go_simp <;> with_reducible rfl)⟩) (by go_simp <;> with_reducible rfl) ?_
                        refine wpAnyC_take (i := 1) (v := _) rfl (by kernel_rfl) (by kernel_rfl) (by kernel_rfl) (fun _ _ _ h => h) (Or.inl ⟨by rfl, fun w ⟨nq, hw⟩ => by (subst hw; go_simp <;> with_reducible rfl)⟩) (by go_simp <;> with_reducible rfl) ?_
                        refine wpAnyC_take (i := 2) (v := _) rfl (by kernel_rfl) (by kernel_rfl) (by kernel_rfl) (fun _ _ _ h => h) (Or.inl ⟨by rfl, fun w ⟨nq, hw⟩ => by (subst hw; go_simp <;> with_reducible rfl)⟩) (by go_simp <;> with_reducible rfl) ?_
                        refine wpAnyC_take (i := 3) (v := _) rfl (by kernel_rfl) (by kernel_rfl) (by kernel_rfl) (fun _ _ _ h => h) (Or.inl ⟨by rfl, fun w ⟨nq, hw⟩ => by (subst hw; go_simp <;> with_reducible rfl)⟩) (by go_simp <;> with_reducible rfl) ?_
                        refine wpAnyC_take (i := 4) (v := _) rfl (by kernel_rfl) (by kernel_rfl) (by kernel_rfl) (fun _ _ _ h => h) (Or.inl ⟨by rfl, fun w ⟨nq, hw⟩ => by (subst hw; go_simp <;> with_reducible rfl)⟩) (by go_simp <;> with_reducible rfl) ?_
                        refine wpAnyC_take (i := 6) (v := _) rfl (by kernel_rfl) (by kernel_rfl) (by kernel_rfl) (fun _ _ _ h => h) (Or.inl ⟨by rfl, fun w ⟨nq, hw⟩ => by (subst hw; go_simp <;> with_reducible rfl)⟩) (by go_simp <;> with_reducible rfl) ?_
                        refine wpAnyC_take (i := 7) (v := _) rfl (by kernel_rfl) (by kernel_rfl) (by kernel_rfl) (fun _ _ _ h => h) (Or.inl ⟨by rfl, fun w ⟨nq, hw⟩ => by (subst hw; go_simp <;> with_reducible rfl)⟩) (by go_simp <;> with_reducible rfl) ?_
                        refine wpAnyC_take (i := 8) (v := _) rfl (by kernel_rfl) (by kernel_rfl) (by kernel_rfl) (fun _ _ _ h => h) (Or.inl ⟨by rfl, fun w ⟨nq, hw⟩ => by (subst hw; go_simp <;> with_reducible rfl)⟩) (by go_simp <;> with_reducible rfl) ?_
                        refine wpAnyC_ready (CW.of ((Below.refl _ _).drew)) (rs := [5]) (by kernel_rfl) (by simp) ?_
                        refine (AllReadyC.cons rfl (fun K hK => ?_) AllReadyC.nil)
                        go_simp
                        refine Calls.mono (set_Has p r1 hrk _) ?_
                        rintro _ w2 ⟨rfl, hb2⟩
                        dsimp only
                        refine hK _ _ ?_
                        clear hK K
                        have B2 : Below wx.heap.size wx w2 := (Below.refl _ _).drew.trans hb2
                        refine wpAnyC_ready (CW.of (B2)) (rs := [9]) (by kernel_rfl) (by simp) ?_
                        refine (AllReadyC.cons rfl (fun K hK => ?_) AllReadyC.nil)
                        go_simp
                        refine Calls.mono (set_Has p r2 hrc _) ?_
                        rintro _ w3 ⟨rfl, hb3⟩
                        dsimp only
                        refine hK _ _ ?_
                        clear hK K
                        have B3 : Below wx.heap.size wx w3 := B2.trans (hb3.mono B2.size)
                        clear hb2 hb3
                        refine wpAnyC_take (i := 10) (v := _) rfl (by kernel_rfl) (by kernel_rfl) (by kernel_rfl) (fun _ _ _ h => h) (Or.inl ⟨by rfl, fun w ⟨nq, hw⟩ => by (subst hw; go_simp <;> with_reducible rfl)⟩) (by go_simp <;> with_reducible rfl) ?_
                        refine wpAnyC_take (i := 11) (v := _) rfl (by kernel_rfl) (by kernel_rfl) (by kernel_rfl) (fun _ _ _ h => h) (Or.inl ⟨by rfl, fun w ⟨nq, hw⟩ => by (subst hw; go_simp <;> with_reducible rfl)⟩) (by go_simp <;> with_reducible rfl) ?_
                        refine wpAnyC_take (i := 12) (v := _) rfl (by kernel_rfl) (by kernel_rfl) (by kernel_rfl) (fun _ _ _ h => h) (Or.inl ⟨by rfl, fun w ⟨nq, hw⟩ => by (subst hw; go_simp <;> with_reducible rfl)⟩) (by go_simp <;> with_reducible rfl) ?_
                        refine wpAnyC_done (by kernel_rfl) (CW.of (B3)) (by go_simp <;> with_reducible rfl) ?_
                        clear q0 q1 q2 q3
                        repeat' (first | go_values | go_skip | go_guarded | go_step | go_upon)
                        go_roundw
                        case rel => exact ⟨q + 1, by go_num, hqn, by rw [Hsn.out, Bool.false_or]; rfl, Lib.hid (HX.out.keep B3)⟩
                        case measure => simp [intOf]; omega
                      · refine wp_region_anyC (by kernel_rfl) wx ?_
                        refine wpAnyC_take (i := 0) (v := _) rfl (by kernel_rfl) (by kernel_rfl) (by kernel_rfl) (fun _ _ _ h => h) (Or.inl ⟨by rfl, fun w ⟨nq, hw⟩ => by (subst hw; go_simp <;> with_reducible rfl)⟩) (by go_simp <;> with_reducible rfl) ?_
                        refine wpAnyC_take (i := 1) (v := _) rfl (by kernel_rfl) (by kernel_rfl) (by kernel_rfl) (fun _ _ _ h => h) (Or.inl ⟨by rfl, fun w ⟨nq, hw⟩ => by (subst hw; go_simp <;> with_reducible rfl)⟩) (by go_simp <;> with_reducible rfl) ?_
                        refine wpAnyC_take (i := 2) (v := undef) rfl (by kernel_rfl) (by kernel_rfl) (by kernel_rfl) (fun _ _ _ h => h) (Or.inr ⟨by rfl, rfl⟩) (by go_simp <;> with_reducible rfl) ?_
                        refine wpAnyC_take (i := 3) (v := undef) rfl (by kernel_rfl) (by kernel_rfl) (by kernel_rfl) (fun _ _ _ h => h) (Or.inr ⟨by rfl, rfl⟩) (by go_simp <;> with_reducible rfl) ?_
                        refine wpAnyC_take (i := 4) (v := undef) rfl (by kernel_rfl) (by kernel_rfl) (by kernel_rfl) (fun _ _ _ h => h) (Or.inr ⟨by rfl, rfl⟩) (by go_simp <;> with_reducible rfl) ?_
                        refine wpAnyC_take (i := 5) (v := undef) rfl (by kernel_rfl) (by kernel_rfl) (by kernel_rfl) (fun _ _ _ h => h) (Or.inr ⟨by rfl, rfl⟩) (by go_simp <;> with_reducible rfl) ?_
                        refine wpAnyC_take (i := 6) (v := undef) rfl (by kernel_rfl) (by kernel_rfl) (by kernel_rfl) (fun _ _ _ h => h) (Or.inr ⟨by rfl, rfl⟩) (by go_simp <;> with_reducible rfl) ?_
                        refine wpAnyC_take (i := 7) (v := undef) rfl (by kernel_rfl) (by kernel_rfl) (by kernel_rfl) (fun _ _ _ h => h) (Or.inr ⟨by rfl, rfl⟩) (by go_simp <;> with_reducible rfl) ?_
                        refine wpAnyC_take (i := 8) (v := undef) rfl (by kernel_rfl) (by kernel_rfl) (by kernel_rfl) (fun _ _ _ h => h) (Or.inr ⟨by rfl, rfl⟩) (by go_simp <;> with_reducible rfl) ?_
                        refine wpAnyC_take (i := 9) (v := undef) rfl (by kernel_rfl) (by kernel_rfl) (by kernel_rfl) (fun _ _ _ h => h) (Or.inr ⟨by rfl, rfl⟩) (by go_simp <;> with_reducible rfl) ?_
                        refine wpAnyC_take (i := 10) (v := undef) rfl (by kernel_rfl) (by kernel_rfl) (by kernel_rfl) (fun _ _ _ h => h) (Or.inr ⟨by rfl, rfl⟩) (by go_simp <;> with_reducible rfl) ?_
                        refine wpAnyC_take (i := 11) (v := _) rfl (by kernel_rfl) (by kernel_rfl) (by kernel_rfl) (fun _ _ _ h => h) (Or.inl ⟨by rfl, fun w ⟨nq, hw⟩ => by (subst hw; go_simp <;> with_reducible rfl)⟩) (by go_simp <;> with_reducible rfl) ?_
                        refine wpAnyC_take (i := 12) (v := _) rfl (by kernel_rfl) (by kernel_rfl) (by kernel_rfl) (fun _ _ _ h => h) (Or.inl ⟨by rfl, fun w ⟨nq, hw⟩ => by (subst hw; go_simp <;> with_reducible rfl)⟩) (by go_simp <;> with_reducible rfl) ?_
                        refine wpAnyC_done (by kernel_rfl) (CW.of ((Below.refl _ _).drew)) (by go_simp <;> with_reducible rfl) ?_
                        clear q0 q1 q2 q3
                        repeat' (first | go_values | go_skip | go_guarded | go_step | go_upon)
                        go_roundw
                        case rel => exact ⟨q + 1, by go_num, hqn, by rw [Hsn.out, Bool.true_or], Lib.hid (HX.out.keep (Below.refl _ _).drew)⟩
                        case measure => simp [intOf]; omega
                    · obtain rfl : q = n := by omega
                      have hB : ((l.take q).any fun a => a r1 != a r2) = true := by rw [Fn.out, List.take_length]; exact Hpt.out
                      rw [hB]
                      repeat' (first | go_values | go_skip | go_guarded | go_step | go_upon)
                      go_roundw
                      case rel => exact ⟨c + 1, by go_num, hck, H⟩
                      case measure => simp [intOf]; omega
                · obtain rfl : c = k := by omega
                  repeat' (first | go_values | go_skip | go_guarded | go_step | go_upon)
                  go_roundw
                  case rel => exact ⟨c + 1, by go_num, by omega, H⟩
                  case measure => simp [intOf]; omega
          · obtain rfl : N = k := by omega
            repeat' (first | go_values | go_skip | go_guarded | go_step | go_upon)
            go_loopw [100] (fun s100 wr => ∃ q : Nat, s100 = .int .i64 q ∧ q ≤ n ∧ Hid (LW w g1 (g1 + 1) N C R wr)) (fun s100 _ => n - (intOf s100).toNat)
            case atStart => exact ⟨0, rfl, Nat.zero_le _, H⟩
            case round =>
              clear H
              obtain ⟨q, rfl, hq, H⟩ := hrel
              by_cases hqn : q < n
              · rcases hcell with h0 | ⟨b, off, rfl, hbB, hcell⟩
                · omega
                obtain ⟨c0, c1, c2, c3⟩ := Row4.cells hcell q (by rw [← Fn.out]; exact hqn)
                have Hsm : Hid (∀ b, b < 256 → (l.getD q fun _ => false) b = (l.getD q fun _ => false) (R (C b))) := Lib.hid (Rsm.out _ (mem_getS l _ q (by rw [← Fn.out]; exact hqn)))
                clear hcell
                rw [← H.out.bel.cell (show b < w.heap.size from hbB)] at c0 c1 c2 c3
                generalize l.getD q (fun _ => false) = p at c0 c1 c2 c3 Hsm
                have hbx : Below wr.heap.size wr (wr.alloc (.cells (sc p) 25)) := (Below.refl _ _).alloc (Nat.le_refl _) _
                have HX := Lib.hid (H.out.keep hbx)
                have Hs : Hid (SetAt (wr.alloc (.cells (sc p) 25)) wr.heap.size p) := Lib.hid (Go.heap_alloc_new _ _)
                clear H hbx
                repeat' (first | go_values | go_skip | go_guarded | go_step | go_upon)
                clear c0 c1 c2 c3
                generalize wr.alloc (.cells (sc p) 25) = wx at HX Hs ⊢
                generalize wr.heap.size = gx at Hs ⊢
                go_loopw [104] (fun s104 wr => ∃ m : Nat, s104 = .int .i64 m ∧ m ≤ 256 ∧ Hid (LW w g1 (g1 + 1) N C R wr) ∧ Hid (SetAt wr gx p)) (fun s104 _ => 256 - (intOf s104).toNat)
                case atStart => exact ⟨0, rfl, Nat.zero_le _, HX, Hs⟩
                case round =>
                  clear HX Hs
                  obtain ⟨m, rfl, hm, HX, Hs⟩ := hrel
                  by_cases hm6 : m < 256
                  · have hCm := Hlt.out m hm6
                    have hRm := Rlt.out (C m)
                    have q0 : ∀ nq : WB wr, nq.1.cell? ⟨gx, 0, none⟩ = some (.int .u64 (W p 0 : Nat)) := fun nq => (show SetAt nq.1 gx p from Hs.out.keep nq.2).c0
                    have q1 : ∀ nq : WB wr, nq.1.cell? ⟨gx, 1, none⟩ = some (.int .u64 (W p 1 : Nat)) := fun nq => (show SetAt nq.1 gx p from Hs.out.keep nq.2).c1
                    have q2 : ∀ nq : WB wr, nq.1.cell? ⟨gx, 2, none⟩ = some (.int .u64 (W p 2 : Nat)) := fun nq => (show SetAt nq.1 gx p from Hs.out.keep nq.2).c2
                    have q3 : ∀ nq : WB wr, nq.1.cell? ⟨gx, 3, none⟩ = some (.int .u64 (W p 3 : Nat)) := fun nq => (show SetAt nq.1 gx p from Hs.out.keep nq.2).c3
                    have q4 : ∀ nq : WB wr, nq.1.cell? ⟨g1, m, none⟩ = some (.int .u8 (C m : Nat)) := fun nq => (HX.out.c.keep nq.2).cell hm6
                    have q5 : ∀ nq : WB wr, nq.1.cell? ⟨g1 + 1, C m, none⟩ = some (.int .i64 (R (C m) : Nat)) := fun nq => (HX.out.r.keep nq.2).cell hCm
                    have hsm := Lib.hid (Hsm.out m hm6)
                    generalize R (C m) = r at q5 hsm hRm
                    generalize C m = cm at q4 q5 hCm
                    have hw1 : IntKind.u8.wrap (m : Int) = (m : Int) := by rw [IntKind.wrap_u8]; omega
                    have hw2 : IntKind.u8.wrap (r : Int) = (r : Int) := by rw [IntKind.wrap_u8]; omega
                    repeat' (go_not_at_region 35; first | go_values | go_skip | go_guarded | go_step | go_upon)
                    refine wp_region_anyC (by kernel_rfl) wr ?_
                    refine wpAnyC_take (i := 0) (v := _) rfl (by kernel_rfl) (by kernel_rfl) (by kernel_rfl) (fun _ _ _ h => h) (Or.inl ⟨by rfl, fun w ⟨nq, hw⟩ => by (subst hw; go_simp <;> with_reducible rfl)⟩) (by go_simp <;> with_reducible rfl) ?_
                    refine wpAnyC_take (i := 1) (v := _) rfl (by kernel_rfl) (by kernel_rfl) (by kernel_rfl) (fun _ _ _ h => h) (Or.inl ⟨by rfl, fun w ⟨nq, hw⟩ => by (subst hw; go_simp <;> with_reducible rfl)⟩) (by go_simp <;> with_reducible rfl) ?_
                    refine wpAnyC_take (i := 2) (v := _) rfl (by kernel_rfl) (by kernel_rfl) (by kernel_rfl) (fun _ _ _ h => h) (Or.inl ⟨by rfl, fun w ⟨nq, hw⟩ => by (subst hw; go_simp <;> with_reducible rfl)⟩) (by go_simp <;> with_reducible rfl) ?_
                    refine wpAnyC_take (i := 4) (v := _) rfl (by kernel_rfl) (by kernel_rfl) (by kernel_rfl) (fun _ _ _ h => h) (Or.inl ⟨by rfl, fun w ⟨nq, hw⟩ => by (subst hw; go_simp <;> with_reducible rfl)⟩) (by go_simp <;> with_reducible rfl) ?_
                    refine wpAnyC_take (i := 5) (v := _) rfl (by kernel_rfl) (by kernel_rfl) (by kernel_rfl) (fun _ _ _ h => h) (Or.inl ⟨by rfl, fun w ⟨nq, hw⟩ => by (subst hw; go_simp <;> with_reducible rfl)⟩) (by go_simp <;> with_reducible rfl) ?_
                    refine wpAnyC_take (i := 6) (v := _) rfl (by kernel_rfl) (by kernel_rfl) (by kernel_rfl) (fun _ _ _ h => h) (Or.inl ⟨by rfl, fun w ⟨nq, hw⟩ => by (subst hw; go_simp <;> with_reducible rfl)⟩) (by go_simp <;> with_reducible rfl) ?_
                    refine wpAnyC_take (i := 7) (v := _) rfl (by kernel_rfl) (by kernel_rfl) (by kernel_rfl) (fun _ _ _ h => h) (Or.inl ⟨by rfl, fun w ⟨nq, hw⟩ => by (subst hw; go_simp <;> with_reducible rfl)⟩) (by go_simp <;> with_reducible rfl) ?_
                    refine wpAnyC_take (i := 8) (v := _) rfl (by kernel_rfl) (by kernel_rfl) (by kernel_rfl) (fun _ _ _ h => h) (Or.inl ⟨by rfl, fun w ⟨nq, hw⟩ => by (subst hw; go_simp <;> with_reducible rfl)⟩) (by go_simp <;> with_reducible rfl) ?_
                    refine wpAnyC_take (i := 9) (v := _) rfl (by kernel_rfl) (by kernel_rfl) (by kernel_rfl) (fun _ _ _ h => h) (Or.inl ⟨by rfl, fun w ⟨nq, hw⟩ => by (subst hw; go_simp <;> with_reducible rfl)⟩) (by go_simp <;> with_reducible rfl) ?_
                    refine wpAnyC_take (i := 10) (v := _) rfl (by kernel_rfl) (by kernel_rfl) (by kernel_rfl) (fun _ _ _ h => h) (Or.inl ⟨by rfl, fun w ⟨nq, hw⟩ => by (subst hw; go_simp <;> with_reducible rfl)⟩) (by go_simp <;> with_reducible rfl) ?_
                    refine wpAnyC_take (i := 11) (v := _) rfl (by kernel_rfl) (by kernel_rfl) (by kernel_rfl) (fun _ _ _ h => h) (Or.inl ⟨by rfl, fun w ⟨nq, hw⟩ => by (subst hw; go_simp <;> with_reducible rfl)⟩) (by go_simp <;> with_reducible rfl) ?_
                    refine wpAnyC_ready (CW.of ((Below.refl _ _).drew)) (rs := [3]) (by kernel_rfl) (by simp) ?_
                    refine (AllReadyC.cons rfl (fun K hK => ?_) AllReadyC.nil)
                    go_simp
                    refine Calls.mono (set_Has p m hm6 _) ?_
                    rintro _ w2 ⟨rfl, hb2⟩
                    dsimp only
                    refine hK _ _ ?_
                    clear hK K
                    have B2 : Below wr.heap.size wr w2 := (Below.refl _ _).drew.trans hb2
                    refine wpAnyC_ready (CW.of (B2)) (rs := [12]) (by kernel_rfl) (by simp) ?_
                    refine (AllReadyC.cons rfl (fun K hK => ?_) AllReadyC.nil)
                    go_simp
                    refine Calls.mono (set_Has p r hRm _) ?_
                    rintro _ w3 ⟨rfl, hb3⟩
                    dsimp only
                    refine hK _ _ ?_
                    clear hK K
                    have B3 : Below wr.heap.size wr w3 := B2.trans (hb3.mono B2.size)
                    clear hb2 hb3
                    rw [← hsm.out]
                    refine wpAnyC_take (i := 13) (v := _) rfl (by kernel_rfl) (by kernel_rfl) (by kernel_rfl) (fun _ _ _ h => h) (Or.inl ⟨by rfl, fun w ⟨nq, hw⟩ => by (subst hw; go_simp <;> with_reducible rfl)⟩) (by go_simp <;> with_reducible rfl) ?_
                    refine wpAnyC_done (by kernel_rfl) (CW.of (B3)) (by go_simp <;> with_reducible rfl) ?_
                    clear q0 q1 q2 q3 q4 q5 hw1 hw2
                    repeat' (first | go_values | go_skip | go_guarded | go_step | go_upon)
                    go_roundw
                    case rel => exact ⟨m + 1, by go_num, by omega, Lib.hid (HX.out.keep B3), Lib.hid (Hs.out.keep B3)⟩
                    case measure => simp [intOf]; omega
                  · obtain rfl : m = 256 := by omega
                    repeat' (first | go_values | go_skip | go_guarded | go_step | go_upon)
                    go_roundw
                    case rel => exact ⟨q + 1, by go_num, by omega, HX⟩
                    case measure => simp [intOf]; omega
              · obtain rfl : n = q := by omega
                by_cases hn0 : n = 0
                · have hN : N = 1 := by
                    rw [FN.out, List.eq_nil_of_length_eq_zero (show l.length = 0 from by rw [← Fn.out]; exact hn0)]
                    exact clsN_nil
                  have hNb : ((N : Int) == 1) = true := by rw [hN]; rfl
                  subst hn0
                  clear hN
                  repeat' (first | go_values | go_skip | go_guarded | go_step | go_upon)
                  go_ret
                  exact ⟨rfl, H.out.bel⟩
                · have hnb : ((n : Int) == 0) = false := beq_false_of_ne (by omega)
                  obtain ⟨iq, hiq, hie, hiw⟩ := idx_of i (n := n) (by omega) (by omega)
                  obtain ⟨jq, hjq, hje, hjw⟩ := idx_of j (n := n) (by omega) (by omega)
                  repeat' (go_not_at_region 41; first | go_values | go_skip | go_guarded | go_step | go_upon)
                  refine wp_region_anyC (by kernel_rfl) wr ?_
                  refine wpAnyC_take (i := 0) (v := _) rfl (by kernel_rfl) (by kernel_rfl) (by kernel_rfl) (fun _ _ _ h => h) (Or.inl ⟨by rfl, fun w ⟨nq, hw⟩ => by (subst hw; go_simp <;> with_reducible rfl)⟩) (by go_simp <;> with_reducible rfl) ?_
                  refine wpAnyC_take (i := 1) (v := _) rfl (by kernel_rfl) (by kernel_rfl) (by kernel_rfl) (fun _ _ _ h => h) (Or.inl ⟨by rfl, fun w ⟨nq, hw⟩ => by (subst hw; go_simp <;> with_reducible rfl)⟩) (by go_simp <;> with_reducible rfl) ?_
                  refine wpAnyC_take (i := 2) (v := _) rfl (by kernel_rfl) (by kernel_rfl) (by kernel_rfl) (fun _ _ _ h => h) (Or.inl ⟨by rfl, fun w ⟨nq, hw⟩ => by (subst hw; go_simp <;> with_reducible rfl)⟩) (by go_simp <;> with_reducible rfl) ?_
                  refine wpAnyC_take (i := 3) (v := _) rfl (by kernel_rfl) (by kernel_rfl) (by kernel_rfl) (fun _ _ _ h => h) (Or.inl ⟨by rfl, fun w ⟨nq, hw⟩ => by (subst hw; go_simp <;> with_reducible rfl)⟩) (by go_simp <;> with_reducible rfl) ?_
                  refine wpAnyC_take (i := 4) (v := _) rfl (by kernel_rfl) (by kernel_rfl) (by kernel_rfl) (fun _ _ _ h => h) (Or.inl ⟨by rfl, fun w ⟨nq, hw⟩ => by (subst hw; go_simp <;> with_reducible rfl)⟩) (by go_simp <;> with_reducible rfl) ?_
                  refine wpAnyC_take (i := 5) (v := _) rfl (by kernel_rfl) (by kernel_rfl) (by kernel_rfl) (fun _ _ _ h => h) (Or.inl ⟨by rfl, fun w ⟨nq, hw⟩ => by (subst hw; go_simp <;> with_reducible rfl)⟩) (by go_simp <;> with_reducible rfl) ?_
                  refine wpAnyC_take (i := 6) (v := _) rfl (by kernel_rfl) (by kernel_rfl) (by kernel_rfl) (fun _ _ _ h => h) (Or.inl ⟨by rfl, fun w ⟨nq, hw⟩ => by (subst hw; go_simp <;> with_reducible rfl)⟩) (by go_simp <;> with_reducible rfl) ?_
                  refine wpAnyC_take (i := 7) (v := _) rfl (by kernel_rfl) (by kernel_rfl) (by kernel_rfl) (fun _ _ _ h => h) (Or.inl ⟨by rfl, fun w ⟨nq, hw⟩ => by (subst hw; go_simp <;> with_reducible rfl)⟩) (by go_simp <;> with_reducible rfl) ?_
                  refine wpAnyC_take (i := 8) (v := _) rfl (by kernel_rfl) (by kernel_rfl) (by kernel_rfl) (fun _ _ _ h => h) (Or.inl ⟨by rfl, fun w ⟨nq, hw⟩ => by (subst hw; go_simp <;> with_reducible rfl)⟩) (by go_simp <;> with_reducible rfl) ?_
                  refine wpAnyC_take (i := 9) (v := _) rfl (by kernel_rfl) (by kernel_rfl) (by kernel_rfl) (fun _ _ _ h => h) (Or.inl ⟨by rfl, fun w ⟨nq, hw⟩ => by (subst hw; go_simp <;> with_reducible rfl)⟩) (by go_simp <;> with_reducible rfl) ?_
                  refine wpAnyC_take (i := 10) (v := _) rfl (by kernel_rfl) (by kernel_rfl) (by kernel_rfl) (fun _ _ _ h => h) (Or.inl ⟨by rfl, fun w ⟨nq, hw⟩ => by (subst hw; go_simp <;> with_reducible rfl)⟩) (by go_simp <;> with_reducible rfl) ?_
                  refine wpAnyC_take (i := 11) (v := _) rfl (by kernel_rfl) (by kernel_rfl) (by kernel_rfl) (fun _ _ _ h => h) (Or.inl ⟨by rfl, fun w ⟨nq, hw⟩ => by (subst hw; go_simp <;> with_reducible rfl)⟩) (by go_simp <;> with_reducible rfl) ?_
                  refine wpAnyC_take (i := 12) (v := _) rfl (by kernel_rfl) (by kernel_rfl) (by kernel_rfl) (fun _ _ _ h => h) (Or.inl ⟨by rfl, fun w ⟨nq, hw⟩ => by (subst hw; go_simp <;> with_reducible rfl)⟩) (by go_simp <;> with_reducible rfl) ?_
                  refine wpAnyC_take (i := 13) (v := _) rfl (by kernel_rfl) (by kernel_rfl) (by kernel_rfl) (fun _ _ _ h => h) (Or.inl ⟨by rfl, fun w ⟨nq, hw⟩ => by (subst hw; go_simp <;> with_reducible rfl)⟩) (by go_simp <;> with_reducible rfl) ?_
                  refine wpAnyC_take (i := 14) (v := _) rfl (by kernel_rfl) (by kernel_rfl) (by kernel_rfl) (fun _ _ _ h => h) (Or.inl ⟨by rfl, fun w ⟨nq, hw⟩ => by (subst hw; go_simp <;> with_reducible rfl)⟩) (by go_simp <;> with_reducible rfl) ?_
                  refine wpAnyC_take (i := 15) (v := _) rfl (by kernel_rfl) (by kernel_rfl) (by kernel_rfl) (fun _ _ _ h => h) (Or.inl ⟨by rfl, fun w ⟨nq, hw⟩ => by (subst hw; go_simp <;> with_reducible rfl)⟩) (by go_simp <;> with_reducible rfl) ?_
                  refine wpAnyC_take (i := 16) (v := _) rfl (by kernel_rfl) (by kernel_rfl) (by kernel_rfl) (fun _ _ _ h => h) (Or.inl ⟨by rfl, fun w ⟨nq, hw⟩ => by (subst hw; go_simp <;> with_reducible rfl)⟩) (by go_simp <;> with_reducible rfl) ?_
                  refine wpAnyC_take (i := 17) (v := _) rfl (by kernel_rfl) (by kernel_rfl) (by kernel_rfl) (fun _ _ _ h => h) (Or.inl ⟨by rfl, fun w ⟨nq, hw⟩ => by (subst hw; go_simp <;> with_reducible rfl)⟩) (by go_simp <;> with_reducible rfl) ?_
                  refine wpAnyC_take (i := 18) (v := _) rfl (by kernel_rfl) (by kernel_rfl) (by kernel_rfl) (fun _ _ _ h => h) (Or.inl ⟨by rfl, fun w ⟨nq, hw⟩ => by (subst hw; go_simp <;> with_reducible rfl)⟩) (by go_simp <;> with_reducible rfl) ?_
                  refine wpAnyC_take (i := 19) (v := _) rfl (by kernel_rfl) (by kernel_rfl) (by kernel_rfl) (fun _ _ _ h => h) (Or.inl ⟨by rfl, fun w ⟨nq, hw⟩ => by (subst hw; go_simp <;> with_reducible rfl)⟩) (by go_simp <;> with_reducible rfl) ?_
                  refine wpAnyC_take (i := 20) (v := _) rfl (by kernel_rfl) (by kernel_rfl) (by kernel_rfl) (fun _ _ _ h => h) (Or.inl ⟨by rfl, fun w ⟨nq, hw⟩ => by (subst hw; go_simp <;> with_reducible rfl)⟩) (by go_simp <;> with_reducible rfl) ?_
                  refine wpAnyC_take (i := 21) (v := _) rfl (by kernel_rfl) (by kernel_rfl) (by kernel_rfl) (fun _ _ _ h => h) (Or.inl ⟨by rfl, fun w ⟨nq, hw⟩ => by (subst hw; go_simp <;> with_reducible rfl)⟩) (by go_simp <;> with_reducible rfl) ?_
                  refine wpAnyC_done (by kernel_rfl) (CW.of ((Below.refl _ _).drew)) (by go_simp <;> with_reducible rfl) ?_
                  clear hie hje hiw hjw
                  rcases hcell with h0 | ⟨b, off, rfl, hbB, hcell⟩
                  · omega
                  obtain ⟨c0, c1, c2, c3⟩ := Row4.cells hcell iq (by rw [← Fn.out]; exact hiq)
                  obtain ⟨d0, d1, d2, d3⟩ := Row4.cells hcell jq (by rw [← Fn.out]; exact hjq)
                  have hbe : ∀ nq : WB wr, Below w.heap.size w nq.1 := fun nq => H.out.bel.trans (nq.2.mono H.out.bel.size)
                  have HCl := Lib.hid (classes_again (mem_getS l (fun _ => false) iq (by rw [← Fn.out]; exact hiq)) (mem_getS l (fun _ => false) jq (by rw [← Fn.out]; exact hjq)))
                  rw [← FC.out, ← FN.out] at HCl
                  generalize l.getD iq (fun _ => false) = pi at c0 c1 c2 c3 HCl
                  generalize l.getD jq (fun _ => false) = pj at d0 d1 d2 d3 HCl
                  have q0 := fun nq : WB wr => ((hbe nq).cell (show b < w.heap.size from hbB)).trans c0
                  have q1 := fun nq : WB wr => ((hbe nq).cell (show b < w.heap.size from hbB)).trans c1
                  have q2 := fun nq : WB wr => ((hbe nq).cell (show b < w.heap.size from hbB)).trans c2
                  have q3 := fun nq : WB wr => ((hbe nq).cell (show b < w.heap.size from hbB)).trans c3
                  have q4 := fun nq : WB wr => ((hbe nq).cell (show b < w.heap.size from hbB)).trans d0
                  have q5 := fun nq : WB wr => ((hbe nq).cell (show b < w.heap.size from hbB)).trans d1
                  have q6 := fun nq : WB wr => ((hbe nq).cell (show b < w.heap.size from hbB)).trans d2
                  have q7 := fun nq : WB wr => ((hbe nq).cell (show b < w.heap.size from hbB)).trans d3
                  have HRw := Lib.hid (HR.out.keep H.out.bel)
                  have hbig0 : (([] : List (Nat → Bool)).length + l.length) * 32 ≤ 140737488355328 ∧ ([] : List (Nat → Bool)).length + l.length ≤ maxLen := by
                    rw [← Fn.out]; unfold maxLen; simp; omega
                  have hbig1 : (l.length + [fun b : Nat => pi b || !pj b].length) * 32 ≤ 140737488355328 ∧ l.length + [fun b : Nat => pi b || !pj b].length ≤ maxLen := by
                    rw [← Fn.out]; unfold maxLen; simp; omega
                  clear c0 c1 c2 c3 d0 d1 d2 d3 hcell hbe
                  repeat' (go_not_at_region 42; first | go_values | go_skip | go_guarded | go_step | go_upon)
                  refine wp_region_anyC (by kernel_rfl) wr ?_
                  refine wpAnyC_take (i := 1) (v := _) rfl (by kernel_rfl) (by kernel_rfl) (by kernel_rfl) (fun _ _ _ h => h) (Or.inl ⟨by rfl, fun w ⟨nq, hw⟩ => by (subst hw; go_simp <;> with_reducible rfl)⟩) (by go_simp <;> with_reducible rfl) ?_
                  refine wpAnyC_take (i := 3) (v := _) rfl (by kernel_rfl) (by kernel_rfl) (by kernel_rfl) (fun _ _ _ h => h) (Or.inl ⟨by rfl, fun w ⟨nq, hw⟩ => by (subst hw; go_simp <;> with_reducible rfl)⟩) (by go_simp <;> with_reducible rfl) ?_
                  refine wpAnyC_take (i := 4) (v := _) rfl (by kernel_rfl) (by kernel_rfl) (by kernel_rfl) (fun _ _ _ h => h) (Or.inl ⟨by rfl, fun w ⟨nq, hw⟩ => by (subst hw; go_simp <;> with_reducible rfl)⟩) (by go_simp <;> with_reducible rfl) ?_
                  refine wpAnyC_take (i := 5) (v := _) rfl (by kernel_rfl) (by kernel_rfl) (by kernel_rfl) (fun _ _ _ h => h) (Or.inl ⟨by rfl, fun w ⟨nq, hw⟩ => by (subst hw; go_simp <;> with_reducible rfl)⟩) (by go_simp <;> with_reducible rfl) ?_
                  refine wpAnyC_take (i := 6) (v := _) rfl (by kernel_rfl) (by kernel_rfl) (by kernel_rfl) (fun _ _ _ h => h) (Or.inl ⟨by rfl, fun w ⟨nq, hw⟩ => by (subst hw; go_simp <;> with_reducible rfl)⟩) (by go_simp <;> with_reducible rfl) ?_
                  refine wpAnyC_take (i := 7) (v := _) rfl (by kernel_rfl) (by kernel_rfl) (by kernel_rfl) (fun _ _ _ h => h) (Or.inl ⟨by rfl, fun w ⟨nq, hw⟩ => by (subst hw; go_simp <;> with_reducible rfl)⟩) (by go_simp <;> with_reducible rfl) ?_
                  refine wpAnyC_take (i := 8) (v := _) rfl (by kernel_rfl) (by kernel_rfl) (by kernel_rfl) (fun _ _ _ h => h) (Or.inl ⟨by rfl, fun w ⟨nq, hw⟩ => by (subst hw; go_simp <;> with_reducible rfl)⟩) (by go_simp <;> with_reducible rfl) ?_
                  refine wpAnyC_take (i := 9) (v := _) rfl (by kernel_rfl) (by kernel_rfl) (by kernel_rfl) (fun _ _ _ h => h) (Or.inl ⟨by rfl, fun w ⟨nq, hw⟩ => by (subst hw; go_simp <;> with_reducible rfl)⟩) (by go_simp <;> with_reducible rfl) ?_
                  refine wpAnyC_take (i := 10) (v := _) rfl (by kernel_rfl) (by kernel_rfl) (by kernel_rfl) (fun _ _ _ h => h) (Or.inl ⟨by rfl, fun w ⟨nq, hw⟩ => by (subst hw; go_simp <;> with_reducible rfl)⟩) (by go_simp <;> with_reducible rfl) ?_
                  clear q0 q1 q2 q3 q4 q5 q6 q7
                  refine genC (fun W => Below wr.heap.size wr W) ((Below.refl _ _).drew.drew) ?_
                  intro W0 hb0
                  have HB0 := Lib.hid hb0
                  clear hb0
                  -- REGION42 BEGIN
                  refine wpAnyC_ready (CW.of (HB0.out)) (rs := [0, 19]) (by kernel_rfl) (by simp) ?_
                  refine (AllReadyC.cons rfl (fun K hK => ?_) (AllReadyC.cons rfl (fun K hK => ?_) AllReadyC.nil))
                  focus
                    go_simp
                    refine hK _ _ ?_
                    clear hK K
                    refine genC (fun W => Below wr.heap.size wr W ∧ OwnR setC 4 wr.heap.size 25 W (.slice (some ⟨W0.heap.size, 0, none⟩) 0 0) []) ⟨HB0.out.alloc HB0.out.size _, own_new _ HB0.out.size⟩ ?_
                    rintro W1 ⟨hb1, ho1⟩
                    have HB1 := Lib.hid hb1
                    have HO1 := Lib.hid ho1
                    clear hb1 ho1
                    refine wpAnyC_ready (CW.of (HB1.out)) (rs := [2, 19]) (by kernel_rfl) (by simp) ?_
                    refine (AllReadyC.cons rfl (fun K hK => ?_) (AllReadyC.cons rfl (fun K hK => ?_) AllReadyC.nil))
                    focus
                      refine step_of rfl (app_rowW 32 setC_len setC_one Try.underlying29 info_aset rfl (.tmp 149) (.tmp 150) rfl rfl (HRw.out.keep HB1.out) HO1.out HB1.out.size hbig0.1 hbig0.2 ?_)
                      intro v2 W2 ho2 hg2
                      refine hK _ _ ?_
                      clear hK K
                      rw [List.nil_append] at ho2
                      have HO2 := Lib.hid ho2
                      have HB2 := Lib.hid (HB1.out.trans (grown_below hg2 HB1.out.size fun k hk => (HO1.out.below hk).1))
                      clear ho2 hg2
                      refine wpAnyC_ready (CW.of (HB2.out)) (rs := [11, 19]) (by kernel_rfl) (by simp) ?_
                      refine (AllReadyC.cons rfl (fun K hK => ?_) (AllReadyC.cons rfl (fun K hK => ?_) AllReadyC.nil))
                      focus
                        go_simp
                        refine Calls.mono (set_Not pj _) ?_
                        rintro _ W3 ⟨rfl, hb3⟩
                        dsimp only
                        refine hK _ _ ?_
                        clear hK K
                        have HB3 := Lib.hid (HB2.out.trans (hb3.mono HB2.out.size))
                        have HO3 := Lib.hid (HO2.out.keep hb3 (Nat.le_refl _))
                        clear hb3
                        refine wpAnyC_ready (CW.of (HB3.out)) (rs := [12, 19]) (by kernel_rfl) (by simp) ?_
                        refine (AllReadyC.cons rfl (fun K hK => ?_) (AllReadyC.cons rfl (fun K hK => ?_) AllReadyC.nil))
                        focus
                          go_simp
                          refine Calls.mono (set_Join pi (fun b => !pj b) _) ?_
                          rintro _ W4 ⟨rfl, hb4⟩
                          dsimp only
                          refine hK _ _ ?_
                          clear hK K
                          have HB4 := Lib.hid (HB3.out.trans (hb4.mono HB3.out.size))
                          have HO4 := Lib.hid (HO3.out.keep hb4 (Nat.le_refl _))
                          clear hb4
                          refine wpAnyC_ready (CW.of (HB4.out)) (rs := [13, 19]) (by kernel_rfl) (by simp) ?_
                          refine (AllReadyC.cons rfl (fun K hK => ?_) (AllReadyC.cons rfl (fun K hK => ?_) AllReadyC.nil))
                          focus
                            go_simp
                            refine hK _ _ ?_
                            clear hK K
                            refine genC (fun W => Below wr.heap.size wr W ∧ OwnR setC 4 wr.heap.size 25 W v2 l ∧ RowOf setC 4 W (.slice (some ⟨W4.heap.size, 0, none⟩) 1 1) [fun b => pi b || !pj b]) ⟨HB4.out.alloc HB4.out.size _, HO4.out.keep ((Below.refl _ _).alloc (Nat.le_refl _) _) (Nat.le_refl _), row_new _ _⟩ ?_
                            rintro W5 ⟨hb5, ho5, hr5⟩
                            have HB5 := Lib.hid hb5
                            have HO5 := Lib.hid ho5
                            have HR5 := Lib.hid hr5
                            clear hb5 ho5 hr5
                            refine wpAnyC_ready (CW.of (HB5.out)) (rs := [14, 19]) (by kernel_rfl) (by simp) ?_
                            refine (AllReadyC.cons rfl (fun K hK => ?_) (AllReadyC.cons rfl (fun K hK => ?_) AllReadyC.nil))
                            focus
                              refine step_of rfl (app_rowW 32 setC_len setC_one Try.underlying29 info_aset rfl (.tmp 151) (.tmp 162) rfl rfl HR5.out HO5.out HB5.out.size hbig1.1 hbig1.2 ?_)
                              intro v6 W6 ho6 hg6
                              refine hK _ _ ?_
                              clear hK K
                              have HO6 := Lib.hid ho6
                              have HB6 := Lib.hid (HB5.out.trans (grown_below hg6 HB5.out.size fun k hk => (HO5.out.below hk).1))
                              clear ho6 hg6
                              refine wpAnyC_ready (CW.of (HB6.out)) (rs := [15, 19]) (by kernel_rfl) (by simp) ?_
                              refine (AllReadyC.cons rfl (fun K hK => ?_) (AllReadyC.cons rfl (fun K hK => ?_) AllReadyC.nil))
                              focus
                                go_simp
                                refine Calls.mono (HCl.out _ _ HO6.out.row) ?_
                                rintro _ W7 ⟨rfl, hb7⟩
                                dsimp only
                                refine hK _ _ ?_
                                clear hK K
                                have HB7 := Lib.hid (HB6.out.trans (hb7.mono HB6.out.size))
                                clear hb7
                                refine wpAnyC_take (i := 16) (v := _) rfl (by kernel_rfl) (by kernel_rfl) (by kernel_rfl) (fun _ _ _ h => h) (Or.inl ⟨by rfl, fun w ⟨nq, hw⟩ => by (subst hw; go_simp <;> with_reducible rfl)⟩) (by go_simp <;> with_reducible rfl) ?_
                                refine wpAnyC_take (i := 17) (v := _) rfl (by kernel_rfl) (by kernel_rfl) (by kernel_rfl) (fun _ _ _ h => h) (Or.inl ⟨by rfl, fun w ⟨nq, hw⟩ => by (subst hw; go_simp <;> with_reducible rfl)⟩) (by go_simp <;> with_reducible rfl) ?_
                                refine wpAnyC_take (i := 18) (v := _) rfl (by kernel_rfl) (by kernel_rfl) (by kernel_rfl) (fun _ _ _ h => h) (Or.inl ⟨by rfl, fun w ⟨nq, hw⟩ => by (subst hw; go_simp <;> with_reducible rfl)⟩) (by go_simp <;> with_reducible rfl) ?_
                                refine wpAnyC_ready (CW.of (HB7.out)) (rs := [19]) (by kernel_rfl) (by simp) ?_
                                refine (AllReadyC.cons rfl (fun K hK => ?_) AllReadyC.nil)
                                go_simp
                                refine hK _ _ ?_
                                clear hK K
                                refine genC (fun W => Below wr.heap.size wr W ∧ (ClsAt W W7.heap.size fun _ => 0)) ⟨HB7.out.alloc HB7.out.size _, Go.heap_alloc_new _ _⟩ ?_
                                rintro W8 ⟨hb8, hz8⟩
                                have hle8 := HB7.out.size
                                generalize W7.heap.size = gz at hz8 hle8 ⊢
                                have HB8 := Lib.hid hb8
                                have HZ8 := Lib.hid hz8
                                clear hb8 hz8
                                refine wpAnyC_ready (CW.of (HB8.out)) (rs := [20]) (by kernel_rfl) (by simp) ?_
                                refine (AllReadyC.cons rfl (fun K hK => ?_) AllReadyC.nil)
                                refine step_of rfl (store_cls HZ8.out C _ _ rfl rfl rfl ?_)
                                refine hK _ _ ?_
                                clear hK K
                                refine genC (fun W => Below wr.heap.size wr W ∧ ClsAt W g1 C ∧ ClsAt W gz C) (parts_end H.out HB8.out HZ8.out hle8) ?_
                                rintro We ⟨hbe, hc1, hc2⟩
                                have Hc1 := Lib.hid hc1
                                have Hc2 := Lib.hid hc2
                                have Hbe := Lib.hid hbe
                                clear hc1 hc2 hbe
                                refine wpAnyC_take (i := 21) (v := _) rfl (by kernel_rfl) (by kernel_rfl) (by kernel_rfl) (fun _ _ _ h => h) (Or.inl ⟨by rfl, fun w ⟨nq, hw⟩ => by (subst hw; go_simp <;> with_reducible rfl)⟩) (by go_simp <;> with_reducible rfl) ?_
                                refine wpAnyC_done (by kernel_rfl) (CW.of (Hbe.out)) (by go_simp <;> with_reducible rfl) ?_
                                repeat' (first | (with_reducible refine load_cls Hc1.out _ rfl rfl ?_) | (with_reducible refine load_cls Hc2.out _ rfl rfl ?_) | go_values | go_skip | go_guarded | go_step | go_upon)
                                go_ret
                                exact ⟨rfl, H.out.bel.trans (Hbe.out.mono H.out.bel.size)⟩
                              focus
                                go_simp
                                refine hK _ _ ?_
                                clear hK K
                                refine genC (fun W => Below wr.heap.size wr W ∧ (ClsAt W W6.heap.size fun _ => 0) ∧ OwnR setC 4 wr.heap.size 25 W v6 (l ++ [fun b => pi b || !pj b])) ⟨HB6.out.alloc HB6.out.size _, Go.heap_alloc_new _ _, HO6.out.keep ((Below.refl _ _).alloc (Nat.le_refl _) _) (Nat.le_refl _)⟩ ?_
                                rintro W9 ⟨hb9, hz9, ho9⟩
                                have hle9 := HB6.out.size
                                generalize W6.heap.size = gz at hz9 hle9 ⊢
                                have HB9 := Lib.hid hb9
                                have HZ9 := Lib.hid hz9
                                have HO9 := Lib.hid ho9
                                clear hb9 hz9 ho9
                                refine wpAnyC_ready (CW.of (HB9.out)) (rs := [15]) (by kernel_rfl) (by simp) ?_
                                refine (AllReadyC.cons rfl (fun K hK => ?_) AllReadyC.nil)
                                go_simp
                                refine Calls.mono (HCl.out _ _ HO9.out.row) ?_
                                rintro _ W10 ⟨rfl, hb10⟩
                                dsimp only
                                refine hK _ _ ?_
                                clear hK K
                                have HB10 := Lib.hid (HB9.out.trans (hb10.mono HB9.out.size))
                                have HZ10 := Lib.hid (HZ9.out.keep hb10)
                                clear hb10
                                refine wpAnyC_take (i := 16) (v := _) rfl (by kernel_rfl) (by kernel_rfl) (by kernel_rfl) (fun _ _ _ h => h) (Or.inl ⟨by rfl, fun w ⟨nq, hw⟩ => by (subst hw; go_simp <;> with_reducible rfl)⟩) (by go_simp <;> with_reducible rfl) ?_
                                refine wpAnyC_take (i := 17) (v := _) rfl (by kernel_rfl) (by kernel_rfl) (by kernel_rfl) (fun _ _ _ h => h) (Or.inl ⟨by rfl, fun w ⟨nq, hw⟩ => by (subst hw; go_simp <;> with_reducible rfl)⟩) (by go_simp <;> with_reducible rfl) ?_
                                refine wpAnyC_take (i := 18) (v := _) rfl (by kernel_rfl) (by kernel_rfl) (by kernel_rfl) (fun _ _ _ h => h) (Or.inl ⟨by rfl, fun w ⟨nq, hw⟩ => by (subst hw; go_simp <;> with_reducible rfl)⟩) (by go_simp <;> with_reducible rfl) ?_
                                refine wpAnyC_ready (CW.of (HB10.out)) (rs := [20]) (by kernel_rfl) (by simp) ?_
                                refine (AllReadyC.cons rfl (fun K hK => ?_) AllReadyC.nil)
                                refine step_of rfl (store_cls HZ10.out C _ _ rfl rfl rfl ?_)
                                refine hK _ _ ?_
                                clear hK K
                                refine genC (fun W => Below wr.heap.size wr W ∧ ClsAt W g1 C ∧ ClsAt W gz C) (parts_end H.out HB10.out HZ10.out hle9) ?_
                                rintro We ⟨hbe, hc1, hc2⟩
                                have Hc1 := Lib.hid hc1
                                have Hc2 := Lib.hid hc2
                                have Hbe := Lib.hid hbe
                                clear hc1 hc2 hbe
                                refine wpAnyC_take (i := 21) (v := _) rfl (by kernel_rfl) (by kernel_rfl) (by kernel_rfl) (fun _ _ _ h => h) (Or.inl ⟨by rfl, fun w ⟨nq, hw⟩ => by (subst hw; go_simp <;> with_reducible rfl)⟩) (by go_simp <;> with_reducible rfl) ?_
                                refine wpAnyC_done (by kernel_rfl) (CW.of (Hbe.out)) (by go_simp <;> with_reducible rfl) ?_
                                repeat' (first | (with_reducible refine load_cls Hc1.out _ rfl rfl ?_) | (with_reducible refine load_cls Hc2.out _ rfl rfl ?_) | go_values | go_skip | go_guarded | go_step | go_upon)
                                go_ret
                                exact ⟨rfl, H.out.bel.trans (Hbe.out.mono H.out.bel.size)⟩
                            focus
                              go_simp
                              refine hK _ _ ?_
                              clear hK K
                              refine genC (fun W => Below wr.heap.size wr W ∧ (ClsAt W W5.heap.size fun _ => 0) ∧ OwnR setC 4 wr.heap.size 25 W v2 l ∧ RowOf setC 4 W (.slice (some ⟨W4.heap.size, 0, none⟩) 1 1) [fun b => pi b || !pj b]) ⟨HB5.out.alloc HB5.out.size _, Go.heap_alloc_new _ _, HO5.out.keep ((Below.refl _ _).alloc (Nat.le_refl _) _) (Nat.le_refl _), HR5.out.keep ((Below.refl _ _).alloc (Nat.le_refl _) _)⟩ ?_
                              rintro W11 ⟨hb11, hz11, ho11, hr11⟩
                              have hle11 := HB5.out.size
                              generalize W5.heap.size = gz at hz11 hle11 ⊢
                              have HB11 := Lib.hid hb11
                              have HZ11 := Lib.hid hz11
                              have HO11 := Lib.hid ho11
                              have HR11 := Lib.hid hr11
                              clear hb11 hz11 ho11 hr11
                              refine wpAnyC_ready (CW.of (HB11.out)) (rs := [14]) (by kernel_rfl) (by simp) ?_
                              refine (AllReadyC.cons rfl (fun K hK => ?_) AllReadyC.nil)
                              refine step_of rfl (app_rowW 32 setC_len setC_one Try.underlying29 info_aset rfl (.tmp 151) (.tmp 162) rfl rfl HR11.out HO11.out HB11.out.size hbig1.1 hbig1.2 ?_)
                              intro v12 W12 ho12 hg12
                              refine hK _ _ ?_
                              clear hK K
                              have HO12 := Lib.hid ho12
                              have HB12 := Lib.hid (HB11.out.trans (grown_below hg12 HB11.out.size fun k hk => (HO11.out.below hk).1))
                              have HZ12 : Hid (ClsAt W12 gz fun _ => 0) := Lib.hid (grown_obj hg12 HZ11.out (own_ne HO11.out HZ11.out))
                              clear ho12 hg12
                              refine wpAnyC_ready (CW.of (HB12.out)) (rs := [15]) (by kernel_rfl) (by simp) ?_
                              refine (AllReadyC.cons rfl (fun K hK => ?_) AllReadyC.nil)
                              go_simp
                              refine Calls.mono (HCl.out _ _ HO12.out.row) ?_
                              rintro _ W13 ⟨rfl, hb13⟩
                              dsimp only
                              refine hK _ _ ?_
                              clear hK K
                              have HB13 := Lib.hid (HB12.out.trans (hb13.mono HB12.out.size))
                              have HZ13 := Lib.hid (HZ12.out.keep hb13)
                              clear hb13
                              refine wpAnyC_take (i := 16) (v := _) rfl (by kernel_rfl) (by kernel_rfl) (by kernel_rfl) (fun _ _ _ h => h) (Or.inl ⟨by rfl, fun w ⟨nq, hw⟩ => by (subst hw; go_simp <;> with_reducible rfl)⟩) (by go_simp <;> with_reducible rfl) ?_
                              refine wpAnyC_take (i := 17) (v := _) rfl (by kernel_rfl) (by kernel_rfl) (by kernel_rfl) (fun _ _ _ h => h) (Or.inl ⟨by rfl, fun w ⟨nq, hw⟩ => by (subst hw; go_simp <;> with_reducible rfl)⟩) (by go_simp <;> with_reducible rfl) ?_
                              refine wpAnyC_take (i := 18) (v := _) rfl (by kernel_rfl) (by kernel_rfl) (by kernel_rfl) (fun _ _ _ h => h) (Or.inl ⟨by rfl, fun w ⟨nq, hw⟩ => by (subst hw; go_simp <;> with_reducible rfl)⟩) (by go_simp <;> with_reducible rfl) ?_
                              refine wpAnyC_ready (CW.of (HB13.out)) (rs := [20]) (by kernel_rfl) (by simp) ?_
                              refine (AllReadyC.cons rfl (fun K hK => ?_) AllReadyC.nil)
                              refine step_of rfl (store_cls HZ13.out C _ _ rfl rfl rfl ?_)
                              refine hK _ _ ?_
                              clear hK K
                              refine genC (fun W => Below wr.heap.size wr W ∧ ClsAt W g1 C ∧ ClsAt W gz C) (parts_end H.out HB13.out HZ13.out hle11) ?_
                              rintro We ⟨hbe, hc1, hc2⟩
                              have Hc1 := Lib.hid hc1
                              have Hc2 := Lib.hid hc2
                              have Hbe := Lib.hid hbe
                              clear hc1 hc2 hbe
                              refine wpAnyC_take (i := 21) (v := _) rfl (by kernel_rfl) (by kernel_rfl) (by kernel_rfl) (fun _ _ _ h => h) (Or.inl ⟨by rfl, fun w ⟨nq, hw⟩ => by (subst hw; go_simp <;> with_reducible rfl)⟩) (by go_simp <;> with_reducible rfl) ?_
                              refine wpAnyC_done (by kernel_rfl) (CW.of (Hbe.out)) (by go_simp <;> with_reducible rfl) ?_
                              repeat' (first | (with_reducible refine load_cls Hc1.out _ rfl rfl ?_) | (with_reducible refine load_cls Hc2.out _ rfl rfl ?_) | go_values | go_skip | go_guarded | go_step | go_upon)
                              go_ret
                              exact ⟨rfl, H.out.bel.trans (Hbe.out.mono H.out.bel.size)⟩
                          focus
                            go_simp
                            refine hK _ _ ?_
                            clear hK K
                            refine genC (fun W => Below wr.heap.size wr W ∧ (ClsAt W W4.heap.size fun _ => 0) ∧ OwnR setC 4 wr.heap.size 25 W v2 l) ⟨HB4.out.alloc HB4.out.size _, Go.heap_alloc_new _ _, HO4.out.keep ((Below.refl _ _).alloc (Nat.le_refl _) _) (Nat.le_refl _)⟩ ?_
                            rintro W14 ⟨hb14, hz14, ho14⟩
                            have hle14 := HB4.out.size
                            generalize W4.heap.size = gz at hz14 hle14 ⊢
                            have HB14 := Lib.hid hb14
                            have HZ14 := Lib.hid hz14
                            have HO14 := Lib.hid ho14
                            clear hb14 hz14 ho14
                            refine wpAnyC_ready (CW.of (HB14.out)) (rs := [13]) (by kernel_rfl) (by simp) ?_
                            refine (AllReadyC.cons rfl (fun K hK => ?_) AllReadyC.nil)
                            go_simp
                            refine hK _ _ ?_
                            clear hK K
                            refine genC (fun W => Below wr.heap.size wr W ∧ OwnR setC 4 wr.heap.size 25 W v2 l ∧ RowOf setC 4 W (.slice (some ⟨W14.heap.size, 0, none⟩) 1 1) [fun b => pi b || !pj b] ∧ ClsAt W gz fun _ => 0) ⟨HB14.out.alloc HB14.out.size _, HO14.out.keep ((Below.refl _ _).alloc (Nat.le_refl _) _) (Nat.le_refl _), row_new _ _, HZ14.out.keep ((Below.refl _ _).alloc (Nat.le_refl _) _)⟩ ?_
                            rintro W15 ⟨hb15, ho15, hr15, hz15⟩
                            have HB15 := Lib.hid hb15
                            have HO15 := Lib.hid ho15
                            have HR15 := Lib.hid hr15
                            have HZ15 := Lib.hid hz15
                            clear hz15
                            clear hb15 ho15 hr15
                            refine wpAnyC_ready (CW.of (HB15.out)) (rs := [14]) (by kernel_rfl) (by simp) ?_
                            refine (AllReadyC.cons rfl (fun K hK => ?_) AllReadyC.nil)
                            refine step_of rfl (app_rowW 32 setC_len setC_one Try.underlying29 info_aset rfl (.tmp 151) (.tmp 162) rfl rfl HR15.out HO15.out HB15.out.size hbig1.1 hbig1.2 ?_)
                            intro v16 W16 ho16 hg16
                            refine hK _ _ ?_
                            clear hK K
                            have HO16 := Lib.hid ho16
                            have HB16 := Lib.hid (HB15.out.trans (grown_below hg16 HB15.out.size fun k hk => (HO15.out.below hk).1))
                            have HZ16 : Hid (ClsAt W16 gz fun _ => 0) := Lib.hid (grown_obj hg16 HZ15.out (own_ne HO15.out HZ15.out))
                            clear ho16 hg16
                            refine wpAnyC_ready (CW.of (HB16.out)) (rs := [15]) (by kernel_rfl) (by simp) ?_
                            refine (AllReadyC.cons rfl (fun K hK => ?_) AllReadyC.nil)
                            go_simp
                            refine Calls.mono (HCl.out _ _ HO16.out.row) ?_
                            rintro _ W17 ⟨rfl, hb17⟩
                            dsimp only
                            refine hK _ _ ?_
                            clear hK K
                            have HB17 := Lib.hid (HB16.out.trans (hb17.mono HB16.out.size))
                            have HZ17 := Lib.hid (HZ16.out.keep hb17)
                            clear hb17
                            refine wpAnyC_take (i := 16) (v := _) rfl (by kernel_rfl) (by kernel_rfl) (by kernel_rfl) (fun _ _ _ h => h) (Or.inl ⟨by rfl, fun w ⟨nq, hw⟩ => by (subst hw; go_simp <;> with_reducible rfl)⟩) (by go_simp <;> with_reducible rfl) ?_
                            refine wpAnyC_take (i := 17) (v := _) rfl (by kernel_rfl) (by kernel_rfl) (by kernel_rfl) (fun _ _ _ h => h) (Or.inl ⟨by rfl, fun w ⟨nq, hw⟩ => by (subst hw; go_simp <;> with_reducible rfl)⟩) (by go_simp <;> with_reducible rfl) ?_
                            refine wpAnyC_take (i := 18) (v := _) rfl (by kernel_rfl) (by kernel_rfl) (by kernel_rfl) (fun _ _ _ h => h) (Or.inl ⟨by rfl, fun w ⟨nq, hw⟩ => by (subst hw; go_simp <;> with_reducible rfl)⟩) (by go_simp <;> with_reducible rfl) ?_
                            refine wpAnyC_ready (CW.of (HB17.out)) (rs := [20]) (by kernel_rfl) (by simp) ?_
                            refine (AllReadyC.cons rfl (fun K hK => ?_) AllReadyC.nil)
                            refine step_of rfl (store_cls HZ17.out C _ _ rfl rfl rfl ?_)
                            refine hK _ _ ?_
                            clear hK K
                            refine genC (fun W => Below wr.heap.size wr W ∧ ClsAt W g1 C ∧ ClsAt W gz C) (parts_end H.out HB17.out HZ17.out hle14) ?_
                            rintro We ⟨hbe, hc1, hc2⟩
                            have Hc1 := Lib.hid hc1
                            have Hc2 := Lib.hid hc2
                            have Hbe := Lib.hid hbe
                            clear hc1 hc2 hbe
                            refine wpAnyC_take (i := 21) (v := _) rfl (by kernel_rfl) (by kernel_rfl) (by kernel_rfl) (fun _ _ _ h => h) (Or.inl ⟨by rfl, fun w ⟨nq, hw⟩ => by (subst hw; go_simp <;> with_reducible rfl)⟩) (by go_simp <;> with_reducible rfl) ?_
                            refine wpAnyC_done (by kernel_rfl) (CW.of (Hbe.out)) (by go_simp <;> with_reducible rfl) ?_
                            repeat' (first | (with_reducible refine load_cls Hc1.out _ rfl rfl ?_) | (with_reducible refine load_cls Hc2.out _ rfl rfl ?_) | go_values | go_skip | go_guarded | go_step | go_upon)
                            go_ret
                            exact ⟨rfl, H.out.bel.trans (Hbe.out.mono H.out.bel.size)⟩
                        focus
                          go_simp
                          refine hK _ _ ?_
                          clear hK K
                          refine genC (fun W => Below wr.heap.size wr W ∧ (ClsAt W W3.heap.size fun _ => 0) ∧ OwnR setC 4 wr.heap.size 25 W v2 l) ⟨HB3.out.alloc HB3.out.size _, Go.heap_alloc_new _ _, HO3.out.keep ((Below.refl _ _).alloc (Nat.le_refl _) _) (Nat.le_refl _)⟩ ?_
                          rintro W18 ⟨hb18, hz18, ho18⟩
                          have hle18 := HB3.out.size
                          generalize W3.heap.size = gz at hz18 hle18 ⊢
                          have HB18 := Lib.hid hb18
                          have HZ18 := Lib.hid hz18
                          have HO18 := Lib.hid ho18
                          clear hb18 hz18 ho18
                          refine wpAnyC_ready (CW.of (HB18.out)) (rs := [12]) (by kernel_rfl) (by simp) ?_
                          refine (AllReadyC.cons rfl (fun K hK => ?_) AllReadyC.nil)
                          go_simp
                          refine Calls.mono (set_Join pi (fun b => !pj b) _) ?_
                          rintro _ W19 ⟨rfl, hb19⟩
                          dsimp only
                          refine hK _ _ ?_
                          clear hK K
                          have HB19 := Lib.hid (HB18.out.trans (hb19.mono HB18.out.size))
                          have HO19 := Lib.hid (HO18.out.keep hb19 (Nat.le_refl _))
                          have HZ19 := Lib.hid (HZ18.out.keep hb19)
                          clear hb19
                          refine wpAnyC_ready (CW.of (HB19.out)) (rs := [13]) (by kernel_rfl) (by simp) ?_
                          refine (AllReadyC.cons rfl (fun K hK => ?_) AllReadyC.nil)
                          go_simp
                          refine hK _ _ ?_
                          clear hK K
                          refine genC (fun W => Below wr.heap.size wr W ∧ OwnR setC 4 wr.heap.size 25 W v2 l ∧ RowOf setC 4 W (.slice (some ⟨W19.heap.size, 0, none⟩) 1 1) [fun b => pi b || !pj b] ∧ ClsAt W gz fun _ => 0) ⟨HB19.out.alloc HB19.out.size _, HO19.out.keep ((Below.refl _ _).alloc (Nat.le_refl _) _) (Nat.le_refl _), row_new _ _, HZ19.out.keep ((Below.refl _ _).alloc (Nat.le_refl _) _)⟩ ?_
                          rintro W20 ⟨hb20, ho20, hr20, hz20⟩
                          have HB20 := Lib.hid hb20
                          have HO20 := Lib.hid ho20
                          have HR20 := Lib.hid hr20
                          have HZ20 := Lib.hid hz20
                          clear hz20
                          clear hb20 ho20 hr20
                          refine wpAnyC_ready (CW.of (HB20.out)) (rs := [14]) (by kernel_rfl) (by simp) ?_
                          refine (AllReadyC.cons rfl (fun K hK => ?_) AllReadyC.nil)
                          refine step_of rfl (app_rowW 32 setC_len setC_one Try.underlying29 info_aset rfl (.tmp 151) (.tmp 162) rfl rfl HR20.out HO20.out HB20.out.size hbig1.1 hbig1.2 ?_)
                          intro v21 W21 ho21 hg21
                          refine hK _ _ ?_
                          clear hK K
                          have HO21 := Lib.hid ho21
                          have HB21 := Lib.hid (HB20.out.trans (grown_below hg21 HB20.out.size fun k hk => (HO20.out.below hk).1))
                          have HZ21 : Hid (ClsAt W21 gz fun _ => 0) := Lib.hid (grown_obj hg21 HZ20.out (own_ne HO20.out HZ20.out))
                          clear ho21 hg21
                          refine wpAnyC_ready (CW.of (HB21.out)) (rs := [15]) (by kernel_rfl) (by simp) ?_
                          refine (AllReadyC.cons rfl (fun K hK => ?_) AllReadyC.nil)
                          go_simp
                          refine Calls.mono (HCl.out _ _ HO21.out.row) ?_
                          rintro _ W22 ⟨rfl, hb22⟩
                          dsimp only
                          refine hK _ _ ?_
                          clear hK K
                          have HB22 := Lib.hid (HB21.out.trans (hb22.mono HB21.out.size))
                          have HZ22 := Lib.hid (HZ21.out.keep hb22)
                          clear hb22
                          refine wpAnyC_take (i := 16) (v := _) rfl (by kernel_rfl) (by kernel_rfl) (by kernel_rfl) (fun _ _ _ h => h) (Or.inl ⟨by rfl, fun w ⟨nq, hw⟩ => by (subst hw; go_simp <;> with_reducible rfl)⟩) (by go_simp <;> with_reducible rfl) ?_
                          refine wpAnyC_take (i := 17) (v := _) rfl (by kernel_rfl) (by kernel_rfl) (by kernel_rfl) (fun _ _ _ h => h) (Or.inl ⟨by rfl, fun w ⟨nq, hw⟩ => by (subst hw; go_simp <;> with_reducible rfl)⟩) (by go_simp <;> with_reducible rfl) ?_
                          refine wpAnyC_take (i := 18) (v := _) rfl (by kernel_rfl) (by kernel_rfl) (by kernel_rfl) (fun _ _ _ h => h) (Or.inl ⟨by rfl, fun w ⟨nq, hw⟩ => by (subst hw; go_simp <;> with_reducible rfl)⟩) (by go_simp <;> with_reducible rfl) ?_
                          refine wpAnyC_ready (CW.of (HB22.out)) (rs := [20]) (by kernel_rfl) (by simp) ?_
                          refine (AllReadyC.cons rfl (fun K hK => ?_) AllReadyC.nil)
                          refine step_of rfl (store_cls HZ22.out C _ _ rfl rfl rfl ?_)
                          refine hK _ _ ?_
                          clear hK K
                          refine genC (fun W => Below wr.heap.size wr W ∧ ClsAt W g1 C ∧ ClsAt W gz C) (parts_end H.out HB22.out HZ22.out hle18) ?_
                          rintro We ⟨hbe, hc1, hc2⟩
                          have Hc1 := Lib.hid hc1
                          have Hc2 := Lib.hid hc2
                          have Hbe := Lib.hid hbe
                          clear hc1 hc2 hbe
                          refine wpAnyC_take (i := 21) (v := _) rfl (by kernel_rfl) (by kernel_rfl) (by kernel_rfl) (fun _ _ _ h => h) (Or.inl ⟨by rfl, fun w ⟨nq, hw⟩ => by (subst hw; go_simp <;> with_reducible rfl)⟩) (by go_simp <;> with_reducible rfl) ?_
                          refine wpAnyC_done (by kernel_rfl) (CW.of (Hbe.out)) (by go_simp <;> with_reducible rfl) ?_
                          repeat' (first | (with_reducible refine load_cls Hc1.out _ rfl rfl ?_) | (with_reducible refine load_cls Hc2.out _ rfl rfl ?_) | go_values | go_skip | go_guarded | go_step | go_upon)
                          go_ret
                          exact ⟨rfl, H.out.bel.trans (Hbe.out.mono H.out.bel.size)⟩
                      focus
                        go_simp
                        refine hK _ _ ?_
                        clear hK K
                        refine genC (fun W => Below wr.heap.size wr W ∧ (ClsAt W W2.heap.size fun _ => 0) ∧ OwnR setC 4 wr.heap.size 25 W v2 l) ⟨HB2.out.alloc HB2.out.size _, Go.heap_alloc_new _ _, HO2.out.keep ((Below.refl _ _).alloc (Nat.le_refl _) _) (Nat.le_refl _)⟩ ?_
                        rintro W23 ⟨hb23, hz23, ho23⟩
                        have hle23 := HB2.out.size
                        generalize W2.heap.size = gz at hz23 hle23 ⊢
                        have HB23 := Lib.hid hb23
                        have HZ23 := Lib.hid hz23
                        have HO23 := Lib.hid ho23
                        clear hb23 hz23 ho23
                        refine wpAnyC_ready (CW.of (HB23.out)) (rs := [11]) (by kernel_rfl) (by simp) ?_
                        refine (AllReadyC.cons rfl (fun K hK => ?_) AllReadyC.nil)
                        go_simp
                        refine Calls.mono (set_Not pj _) ?_
                        rintro _ W24 ⟨rfl, hb24⟩
                        dsimp only
                        refine hK _ _ ?_
                        clear hK K
                        have HB24 := Lib.hid (HB23.out.trans (hb24.mono HB23.out.size))
                        have HO24 := Lib.hid (HO23.out.keep hb24 (Nat.le_refl _))
                        have HZ24 := Lib.hid (HZ23.out.keep hb24)
                        clear hb24
                        refine wpAnyC_ready (CW.of (HB24.out)) (rs := [12]) (by kernel_rfl) (by simp) ?_
                        refine (AllReadyC.cons rfl (fun K hK => ?_) AllReadyC.nil)
                        go_simp
                        refine Calls.mono (set_Join pi (fun b => !pj b) _) ?_
                        rintro _ W25 ⟨rfl, hb25⟩
                        dsimp only
                        refine hK _ _ ?_
                        clear hK K
                        have HB25 := Lib.hid (HB24.out.trans (hb25.mono HB24.out.size))
                        have HO25 := Lib.hid (HO24.out.keep hb25 (Nat.le_refl _))
                        have HZ25 := Lib.hid (HZ24.out.keep hb25)
                        clear hb25
                        refine wpAnyC_ready (CW.of (HB25.out)) (rs := [13]) (by kernel_rfl) (by simp) ?_
                        refine (AllReadyC.cons rfl (fun K hK => ?_) AllReadyC.nil)
                        go_simp
                        refine hK _ _ ?_
                        clear hK K
                        refine genC (fun W => Below wr.heap.size wr W ∧ OwnR setC 4 wr.heap.size 25 W v2 l ∧ RowOf setC 4 W (.slice (some ⟨W25.heap.size, 0, none⟩) 1 1) [fun b => pi b || !pj b] ∧ ClsAt W gz fun _ => 0) ⟨HB25.out.alloc HB25.out.size _, HO25.out.keep ((Below.refl _ _).alloc (Nat.le_refl _) _) (Nat.le_refl _), row_new _ _, HZ25.out.keep ((Below.refl _ _).alloc (Nat.le_refl _) _)⟩ ?_
                        rintro W26 ⟨hb26, ho26, hr26, hz26⟩
                        have HB26 := Lib.hid hb26
                        have HO26 := Lib.hid ho26
                        have HR26 := Lib.hid hr26
                        have HZ26 := Lib.hid hz26
                        clear hz26
                        clear hb26 ho26 hr26
                        refine wpAnyC_ready (CW.of (HB26.out)) (rs := [14]) (by kernel_rfl) (by simp) ?_
                        refine (AllReadyC.cons rfl (fun K hK => ?_) AllReadyC.nil)
                        refine step_of rfl (app_rowW 32 setC_len setC_one Try.underlying29 info_aset rfl (.tmp 151) (.tmp 162) rfl rfl HR26.out HO26.out HB26.out.size hbig1.1 hbig1.2 ?_)
                        intro v27 W27 ho27 hg27
                        refine hK _ _ ?_
                        clear hK K
                        have HO27 := Lib.hid ho27
                        have HB27 := Lib.hid (HB26.out.trans (grown_below hg27 HB26.out.size fun k hk => (HO26.out.below hk).1))
                        have HZ27 : Hid (ClsAt W27 gz fun _ => 0) := Lib.hid (grown_obj hg27 HZ26.out (own_ne HO26.out HZ26.out))
                        clear ho27 hg27
                        refine wpAnyC_ready (CW.of (HB27.out)) (rs := [15]) (by kernel_rfl) (by simp) ?_
                        refine (AllReadyC.cons rfl (fun K hK => ?_) AllReadyC.nil)
                        go_simp
                        refine Calls.mono (HCl.out _ _ HO27.out.row) ?_
                        rintro _ W28 ⟨rfl, hb28⟩
                        dsimp only
                        refine hK _ _ ?_
                        clear hK K
                        have HB28 := Lib.hid (HB27.out.trans (hb28.mono HB27.out.size))
                        have HZ28 := Lib.hid (HZ27.out.keep hb28)
                        clear hb28
                        refine wpAnyC_take (i := 16) (v := _) rfl (by kernel_rfl) (by kernel_rfl) (by kernel_rfl) (fun _ _ _ h => h) (Or.inl ⟨by rfl, fun w ⟨nq, hw⟩ => by (subst hw; go_simp <;> with_reducible rfl)⟩) (by go_simp <;> with_reducible rfl) ?_
                        refine wpAnyC_take (i := 17) (v := _) rfl (by kernel_rfl) (by kernel_rfl) (by kernel_rfl) (fun _ _ _ h => h) (Or.inl ⟨by rfl, fun w ⟨nq, hw⟩ => by (subst hw; go_simp <;> with_reducible rfl)⟩) (by go_simp <;> with_reducible rfl) ?_
                        refine wpAnyC_take (i := 18) (v := _) rfl (by kernel_rfl) (by kernel_rfl) (by kernel_rfl) (fun _ _ _ h => h) (Or.inl ⟨by rfl, fun w ⟨nq, hw⟩ => by (subst hw; go_simp <;> with_reducible rfl)⟩) (by go_simp <;> with_reducible rfl) ?_
                        refine wpAnyC_ready (CW.of (HB28.out)) (rs := [20]) (by kernel_rfl) (by simp) ?_
                        refine (AllReadyC.cons rfl (fun K hK => ?_) AllReadyC.nil)
                        refine step_of rfl (store_cls HZ28.out C _ _ rfl rfl rfl ?_)
                        refine hK _ _ ?_
                        clear hK K
                        refine genC (fun W => Below wr.heap.size wr W ∧ ClsAt W g1 C ∧ ClsAt W gz C) (parts_end H.out HB28.out HZ28.out hle23) ?_
                        rintro We ⟨hbe, hc1, hc2⟩
                        have Hc1 := Lib.hid hc1
                        have Hc2 := Lib.hid hc2
                        have Hbe := Lib.hid hbe
                        clear hc1 hc2 hbe
                        refine wpAnyC_take (i := 21) (v := _) rfl (by kernel_rfl) (by kernel_rfl) (by kernel_rfl) (fun _ _ _ h => h) (Or.inl ⟨by rfl, fun w ⟨nq, hw⟩ => by (subst hw; go_simp <;> with_reducible rfl)⟩) (by go_simp <;> with_reducible rfl) ?_
                        refine wpAnyC_done (by kernel_rfl) (CW.of (Hbe.out)) (by go_simp <;> with_reducible rfl) ?_
                        repeat' (first | (with_reducible refine load_cls Hc1.out _ rfl rfl ?_) | (with_reducible refine load_cls Hc2.out _ rfl rfl ?_) | go_values | go_skip | go_guarded | go_step | go_upon)
                        go_ret
                        exact ⟨rfl, H.out.bel.trans (Hbe.out.mono H.out.bel.size)⟩
                    focus
                      go_simp
                      refine hK _ _ ?_
                      clear hK K
                      refine genC (fun W => Below wr.heap.size wr W ∧ (ClsAt W W1.heap.size fun _ => 0) ∧ OwnR setC 4 wr.heap.size 25 W (.slice (some ⟨W0.heap.size, 0, none⟩) 0 0) []) ⟨HB1.out.alloc HB1.out.size _, Go.heap_alloc_new _ _, HO1.out.keep ((Below.refl _ _).alloc (Nat.le_refl _) _) (Nat.le_refl _)⟩ ?_
                      rintro W29 ⟨hb29, hz29, ho29⟩
                      have hle29 := HB1.out.size
                      generalize W1.heap.size = gz at hz29 hle29 ⊢
                      have HB29 := Lib.hid hb29
                      have HZ29 := Lib.hid hz29
                      have HO29 := Lib.hid ho29
                      clear hb29 hz29 ho29
                      refine wpAnyC_ready (CW.of (HB29.out)) (rs := [2]) (by kernel_rfl) (by simp) ?_
                      refine (AllReadyC.cons rfl (fun K hK => ?_) AllReadyC.nil)
                      refine step_of rfl (app_rowW 32 setC_len setC_one Try.underlying29 info_aset rfl (.tmp 149) (.tmp 150) rfl rfl (HRw.out.keep HB29.out) HO29.out HB29.out.size hbig0.1 hbig0.2 ?_)
                      intro v30 W30 ho30 hg30
                      refine hK _ _ ?_
                      clear hK K
                      rw [List.nil_append] at ho30
                      have HO30 := Lib.hid ho30
                      have HB30 := Lib.hid (HB29.out.trans (grown_below hg30 HB29.out.size fun k hk => (HO29.out.below hk).1))
                      have HZ30 : Hid (ClsAt W30 gz fun _ => 0) := Lib.hid (grown_obj hg30 HZ29.out (own_ne HO29.out HZ29.out))
                      clear ho30 hg30
                      refine wpAnyC_ready (CW.of (HB30.out)) (rs := [11]) (by kernel_rfl) (by simp) ?_
                      refine (AllReadyC.cons rfl (fun K hK => ?_) AllReadyC.nil)
                      go_simp
                      refine Calls.mono (set_Not pj _) ?_
                      rintro _ W31 ⟨rfl, hb31⟩
                      dsimp only
                      refine hK _ _ ?_
                      clear hK K
                      have HB31 := Lib.hid (HB30.out.trans (hb31.mono HB30.out.size))
                      have HO31 := Lib.hid (HO30.out.keep hb31 (Nat.le_refl _))
                      have HZ31 := Lib.hid (HZ30.out.keep hb31)
                      clear hb31
                      refine wpAnyC_ready (CW.of (HB31.out)) (rs := [12]) (by kernel_rfl) (by simp) ?_
                      refine (AllReadyC.cons rfl (fun K hK => ?_) AllReadyC.nil)
                      go_simp
                      refine Calls.mono (set_Join pi (fun b => !pj b) _) ?_
                      rintro _ W32 ⟨rfl, hb32⟩
                      dsimp only
                      refine hK _ _ ?_
                      clear hK K
                      have HB32 := Lib.hid (HB31.out.trans (hb32.mono HB31.out.size))
                      have HO32 := Lib.hid (HO31.out.keep hb32 (Nat.le_refl _))
                      have HZ32 := Lib.hid (HZ31.out.keep hb32)
                      clear hb32
                      refine wpAnyC_ready (CW.of (HB32.out)) (rs := [13]) (by kernel_rfl) (by simp) ?_
                      refine (AllReadyC.cons rfl (fun K hK => ?_) AllReadyC.nil)
                      go_simp
                      refine hK _ _ ?_
                      clear hK K
                      refine genC (fun W => Below wr.heap.size wr W ∧ OwnR setC 4 wr.heap.size 25 W v30 l ∧ RowOf setC 4 W (.slice (some ⟨W32.heap.size, 0, none⟩) 1 1) [fun b => pi b || !pj b] ∧ ClsAt W gz fun _ => 0) ⟨HB32.out.alloc HB32.out.size _, HO32.out.keep ((Below.refl _ _).alloc (Nat.le_refl _) _) (Nat.le_refl _), row_new _ _, HZ32.out.keep ((Below.refl _ _).alloc (Nat.le_refl _) _)⟩ ?_
                      rintro W33 ⟨hb33, ho33, hr33, hz33⟩
                      have HB33 := Lib.hid hb33
                      have HO33 := Lib.hid ho33
                      have HR33 := Lib.hid hr33
                      have HZ33 := Lib.hid hz33
                      clear hz33
                      clear hb33 ho33 hr33
                      refine wpAnyC_ready (CW.of (HB33.out)) (rs := [14]) (by kernel_rfl) (by simp) ?_
                      refine (AllReadyC.cons rfl (fun K hK => ?_) AllReadyC.nil)
                      refine step_of rfl (app_rowW 32 setC_len setC_one Try.underlying29 info_aset rfl (.tmp 151) (.tmp 162) rfl rfl HR33.out HO33.out HB33.out.size hbig1.1 hbig1.2 ?_)
                      intro v34 W34 ho34 hg34
                      refine hK _ _ ?_
                      clear hK K
                      have HO34 := Lib.hid ho34
                      have HB34 := Lib.hid (HB33.out.trans (grown_below hg34 HB33.out.size fun k hk => (HO33.out.below hk).1))
                      have HZ34 : Hid (ClsAt W34 gz fun _ => 0) := Lib.hid (grown_obj hg34 HZ33.out (own_ne HO33.out HZ33.out))
                      clear ho34 hg34
                      refine wpAnyC_ready (CW.of (HB34.out)) (rs := [15]) (by kernel_rfl) (by simp) ?_
                      refine (AllReadyC.cons rfl (fun K hK => ?_) AllReadyC.nil)
                      go_simp
                      refine Calls.mono (HCl.out _ _ HO34.out.row) ?_
                      rintro _ W35 ⟨rfl, hb35⟩
                      dsimp only
                      refine hK _ _ ?_
                      clear hK K
                      have HB35 := Lib.hid (HB34.out.trans (hb35.mono HB34.out.size))
                      have HZ35 := Lib.hid (HZ34.out.keep hb35)
                      clear hb35
                      refine wpAnyC_take (i := 16) (v := _) rfl (by kernel_rfl) (by kernel_rfl) (by kernel_rfl) (fun _ _ _ h => h) (Or.inl ⟨by rfl, fun w ⟨nq, hw⟩ => by (subst hw; go_simp <;> with_reducible rfl)⟩) (by go_simp <;> with_reducible rfl) ?_
                      refine wpAnyC_take (i := 17) (v := _) rfl (by kernel_rfl) (by kernel_rfl) (by kernel_rfl) (fun _ _ _ h => h) (Or.inl ⟨by rfl, fun w ⟨nq, hw⟩ => by (subst hw; go_simp <;> with_reducible rfl)⟩) (by go_simp <;> with_reducible rfl) ?_
                      refine wpAnyC_take (i := 18) (v := _) rfl (by kernel_rfl) (by kernel_rfl) (by kernel_rfl) (fun _ _ _ h => h) (Or.inl ⟨by rfl, fun w ⟨nq, hw⟩ => by (subst hw; go_simp <;> with_reducible rfl)⟩) (by go_simp <;> with_reducible rfl) ?_
                      refine wpAnyC_ready (CW.of (HB35.out)) (rs := [20]) (by kernel_rfl) (by simp) ?_
                      refine (AllReadyC.cons rfl (fun K hK => ?_) AllReadyC.nil)
                      refine step_of rfl (store_cls HZ35.out C _ _ rfl rfl rfl ?_)
                      refine hK _ _ ?_
                      clear hK K
                      refine genC (fun W => Below wr.heap.size wr W ∧ ClsAt W g1 C ∧ ClsAt W gz C) (parts_end H.out HB35.out HZ35.out hle29) ?_
                      rintro We ⟨hbe, hc1, hc2⟩
                      have Hc1 := Lib.hid hc1
                      have Hc2 := Lib.hid hc2
                      have Hbe := Lib.hid hbe
                      clear hc1 hc2 hbe
                      refine wpAnyC_take (i := 21) (v := _) rfl (by kernel_rfl) (by kernel_rfl) (by kernel_rfl) (fun _ _ _ h => h) (Or.inl ⟨by rfl, fun w ⟨nq, hw⟩ => by (subst hw; go_simp <;> with_reducible rfl)⟩) (by go_simp <;> with_reducible rfl) ?_
                      refine wpAnyC_done (by kernel_rfl) (CW.of (Hbe.out)) (by go_simp <;> with_reducible rfl) ?_
                      repeat' (first | (with_reducible refine load_cls Hc1.out _ rfl rfl ?_) | (with_reducible refine load_cls Hc2.out _ rfl rfl ?_) | go_values | go_skip | go_guarded | go_step | go_upon)
                      go_ret
                      exact ⟨rfl, H.out.bel.trans (Hbe.out.mono H.out.bel.size)⟩
                  focus
                    go_simp
                    refine hK _ _ ?_
                    clear hK K
                    refine genC (fun W => Below wr.heap.size wr W ∧ (ClsAt W W0.heap.size fun _ => 0)) ⟨HB0.out.alloc HB0.out.size _, Go.heap_alloc_new _ _⟩ ?_
                    rintro W36 ⟨hb36, hz36⟩
                    have hle36 := HB0.out.size
                    generalize W0.heap.size = gz at hz36 hle36 ⊢
                    have HB36 := Lib.hid hb36
                    have HZ36 := Lib.hid hz36
                    clear hb36 hz36
                    refine wpAnyC_ready (CW.of (HB36.out)) (rs := [0]) (by kernel_rfl) (by simp) ?_
                    refine (AllReadyC.cons rfl (fun K hK => ?_) AllReadyC.nil)
                    go_simp
                    refine hK _ _ ?_
                    clear hK K
                    refine genC (fun W => Below wr.heap.size wr W ∧ OwnR setC 4 wr.heap.size 25 W (.slice (some ⟨W36.heap.size, 0, none⟩) 0 0) [] ∧ ClsAt W gz fun _ => 0) ⟨HB36.out.alloc HB36.out.size _, own_new _ HB36.out.size, HZ36.out.keep ((Below.refl _ _).alloc (Nat.le_refl _) _)⟩ ?_
                    rintro W37 ⟨hb37, ho37, hz37⟩
                    have HB37 := Lib.hid hb37
                    have HO37 := Lib.hid ho37
                    have HZ37 := Lib.hid hz37
                    clear hz37
                    clear hb37 ho37
                    refine wpAnyC_ready (CW.of (HB37.out)) (rs := [2]) (by kernel_rfl) (by simp) ?_
                    refine (AllReadyC.cons rfl (fun K hK => ?_) AllReadyC.nil)
                    refine step_of rfl (app_rowW 32 setC_len setC_one Try.underlying29 info_aset rfl (.tmp 149) (.tmp 150) rfl rfl (HRw.out.keep HB37.out) HO37.out HB37.out.size hbig0.1 hbig0.2 ?_)
                    intro v38 W38 ho38 hg38
                    refine hK _ _ ?_
                    clear hK K
                    rw [List.nil_append] at ho38
                    have HO38 := Lib.hid ho38
                    have HB38 := Lib.hid (HB37.out.trans (grown_below hg38 HB37.out.size fun k hk => (HO37.out.below hk).1))
                    have HZ38 : Hid (ClsAt W38 gz fun _ => 0) := Lib.hid (grown_obj hg38 HZ37.out (own_ne HO37.out HZ37.out))
                    clear ho38 hg38
                    refine wpAnyC_ready (CW.of (HB38.out)) (rs := [11]) (by kernel_rfl) (by simp) ?_
                    refine (AllReadyC.cons rfl (fun K hK => ?_) AllReadyC.nil)
                    go_simp
                    refine Calls.mono (set_Not pj _) ?_
                    rintro _ W39 ⟨rfl, hb39⟩
                    dsimp only
                    refine hK _ _ ?_
                    clear hK K
                    have HB39 := Lib.hid (HB38.out.trans (hb39.mono HB38.out.size))
                    have HO39 := Lib.hid (HO38.out.keep hb39 (Nat.le_refl _))
                    have HZ39 := Lib.hid (HZ38.out.keep hb39)
                    clear hb39
                    refine wpAnyC_ready (CW.of (HB39.out)) (rs := [12]) (by kernel_rfl) (by simp) ?_
                    refine (AllReadyC.cons rfl (fun K hK => ?_) AllReadyC.nil)
                    go_simp
                    refine Calls.mono (set_Join pi (fun b => !pj b) _) ?_
                    rintro _ W40 ⟨rfl, hb40⟩
                    dsimp only
                    refine hK _ _ ?_
                    clear hK K
                    have HB40 := Lib.hid (HB39.out.trans (hb40.mono HB39.out.size))
                    have HO40 := Lib.hid (HO39.out.keep hb40 (Nat.le_refl _))
                    have HZ40 := Lib.hid (HZ39.out.keep hb40)
                    clear hb40
                    refine wpAnyC_ready (CW.of (HB40.out)) (rs := [13]) (by kernel_rfl) (by simp) ?_
                    refine (AllReadyC.cons rfl (fun K hK => ?_) AllReadyC.nil)
                    go_simp
                    refine hK _ _ ?_
                    clear hK K
                    refine genC (fun W => Below wr.heap.size wr W ∧ OwnR setC 4 wr.heap.size 25 W v38 l ∧ RowOf setC 4 W (.slice (some ⟨W40.heap.size, 0, none⟩) 1 1) [fun b => pi b || !pj b] ∧ ClsAt W gz fun _ => 0) ⟨HB40.out.alloc HB40.out.size _, HO40.out.keep ((Below.refl _ _).alloc (Nat.le_refl _) _) (Nat.le_refl _), row_new _ _, HZ40.out.keep ((Below.refl _ _).alloc (Nat.le_refl _) _)⟩ ?_
                    rintro W41 ⟨hb41, ho41, hr41, hz41⟩
                    have HB41 := Lib.hid hb41
                    have HO41 := Lib.hid ho41
                    have HR41 := Lib.hid hr41
                    have HZ41 := Lib.hid hz41
                    clear hz41
                    clear hb41 ho41 hr41
                    refine wpAnyC_ready (CW.of (HB41.out)) (rs := [14]) (by kernel_rfl) (by simp) ?_
                    refine (AllReadyC.cons rfl (fun K hK => ?_) AllReadyC.nil)
                    refine step_of rfl (app_rowW 32 setC_len setC_one Try.underlying29 info_aset rfl (.tmp 151) (.tmp 162) rfl rfl HR41.out HO41.out HB41.out.size hbig1.1 hbig1.2 ?_)
                    intro v42 W42 ho42 hg42
                    refine hK _ _ ?_
                    clear hK K
                    have HO42 := Lib.hid ho42
                    have HB42 := Lib.hid (HB41.out.trans (grown_below hg42 HB41.out.size fun k hk => (HO41.out.below hk).1))
                    have HZ42 : Hid (ClsAt W42 gz fun _ => 0) := Lib.hid (grown_obj hg42 HZ41.out (own_ne HO41.out HZ41.out))
                    clear ho42 hg42
                    refine wpAnyC_ready (CW.of (HB42.out)) (rs := [15]) (by kernel_rfl) (by simp) ?_
                    refine (AllReadyC.cons rfl (fun K hK => ?_) AllReadyC.nil)
                    go_simp
                    refine Calls.mono (HCl.out _ _ HO42.out.row) ?_
                    rintro _ W43 ⟨rfl, hb43⟩
                    dsimp only
                    refine hK _ _ ?_
                    clear hK K
                    have HB43 := Lib.hid (HB42.out.trans (hb43.mono HB42.out.size))
                    have HZ43 := Lib.hid (HZ42.out.keep hb43)
                    clear hb43
                    refine wpAnyC_take (i := 16) (v := _) rfl (by kernel_rfl) (by kernel_rfl) (by kernel_rfl) (fun _ _ _ h => h) (Or.inl ⟨by rfl, fun w ⟨nq, hw⟩ => by (subst hw; go_simp <;> with_reducible rfl)⟩) (by go_simp <;> with_reducible rfl) ?_
                    refine wpAnyC_take (i := 17) (v := _) rfl (by kernel_rfl) (by kernel_rfl) (by kernel_rfl) (fun _ _ _ h => h) (Or.inl ⟨by rfl, fun w ⟨nq, hw⟩ => by (subst hw; go_simp <;> with_reducible rfl)⟩) (by go_simp <;> with_reducible rfl) ?_
                    refine wpAnyC_take (i := 18) (v := _) rfl (by kernel_rfl) (by kernel_rfl) (by kernel_rfl) (fun _ _ _ h => h) (Or.inl ⟨by rfl, fun w ⟨nq, hw⟩ => by (subst hw; go_simp <;> with_reducible rfl)⟩) (by go_simp <;> with_reducible rfl) ?_
                    refine wpAnyC_ready (CW.of (HB43.out)) (rs := [20]) (by kernel_rfl) (by simp) ?_
                    refine (AllReadyC.cons rfl (fun K hK => ?_) AllReadyC.nil)
                    refine step_of rfl (store_cls HZ43.out C _ _ rfl rfl rfl ?_)
                    refine hK _ _ ?_
                    clear hK K
                    refine genC (fun W => Below wr.heap.size wr W ∧ ClsAt W g1 C ∧ ClsAt W gz C) (parts_end H.out HB43.out HZ43.out hle36) ?_
                    rintro We ⟨hbe, hc1, hc2⟩
                    have Hc1 := Lib.hid hc1
                    have Hc2 := Lib.hid hc2
                    have Hbe := Lib.hid hbe
                    clear hc1 hc2 hbe
                    refine wpAnyC_take (i := 21) (v := _) rfl (by kernel_rfl) (by kernel_rfl) (by kernel_rfl) (fun _ _ _ h => h) (Or.inl ⟨by rfl, fun w ⟨nq, hw⟩ => by (subst hw; go_simp <;> with_reducible rfl)⟩) (by go_simp <;> with_reducible rfl) ?_
                    refine wpAnyC_done (by kernel_rfl) (CW.of (Hbe.out)) (by go_simp <;> with_reducible rfl) ?_
                    repeat' (first | (with_reducible refine load_cls Hc1.out _ rfl rfl ?_) | (with_reducible refine load_cls Hc2.out _ rfl rfl ?_) | go_values | go_skip | go_guarded | go_step | go_upon)
                    go_ret
                    exact ⟨rfl, H.out.bel.trans (Hbe.out.mono H.out.bel.size)⟩
                  -- REGION42 END
theorem law_SetParts (w : World) (v : Value) (n : Nat) (xs : List Value) (h : RdC w.heap.size 4 w v n xs) (_ : n * 32 ≤ 140737488351232) (hf : ∀ i, i < n → FlatOk [.int .u64, .int .u64, .int .u64, .int .u64] ((xs.drop (i * 4)).take 4)) (a : Int) (_ : I64 a) (b : Int) (_ : I64 b) :
    Calls Try.prog 5 #[v, .int .i64 a, .int .i64 b] w fun e w' => e = .returned (.bool true) ∧ Below w.heap.size w w' := by
  have hx : xs.length = n * 4 := by obtain ⟨_, _, _, _, _, h, _⟩ := h; exact h
  obtain ⟨l, rfl, rfl⟩ := sets_of hx hf
  exact walk_SetParts v l a b w h
end Go.Proofs.Ytapanlchnmgkmaa
