/- Walk: where a node's kids' places are free (base). Conditions: the maker lies so; lengths. -/
import Derived.Test.YtndekogkfbhabaaTriMem
import Derived.Test.YtndekogkfbhabaaTriPut
import Derived.Test.YtndekogkfbhabaaTrieFind
import Derived.Test.YtndekogkfbhabaaAnyC
import Derived.Deep.LoopGhost
import Derived.Deep.Cut
import Derived.WalkMore
namespace Go.Proofs.Ytndekogkfbhabaa
open Go.RowKit
theorem own_some {B : Nat} {e : TypeId} {k : IntKind} {w : World} {v : Value} {l : List Int} (h : OwnI B e k w v l) (h0 : 0 < l.length) : ∃ q cap, v = .slice (some ⟨q, 0, none⟩) l.length cap := by
  rcases h.2 with ⟨_, h'⟩ | ⟨g, cap, cur, fz, rfl, _⟩
  · omega
  · exact ⟨g, cap, rfl⟩
theorem own_at {B : Nat} {e : TypeId} {k : IntKind} {w : World} {q cap : Nat} {l : List Int} (h : OwnI B e k w (.slice (some ⟨q, 0, none⟩) l.length cap) l) {i : Nat} (hi : i < l.length) (d : Int) : w.cell? ⟨q, i, none⟩ = some (.int k (l.getD i d)) := by
  rw [OwnC.cell h i (by omega), List.getElem?_map, List.getElem?_eq_getElem hi, List.getD_eq_getElem?_getD, List.getElem?_eq_getElem hi]; rfl
/-- bytes as numbers -/
def bI' (l : List UInt8) : List Int := l.map fun b => (b.toNat : Int)
theorem bI'_len (l : List UInt8) : (bI' l).length = l.length := List.length_map ..
theorem bI'_at (l : List UInt8) {i : Nat} (hi : i < l.length) : (bI' l).getD i 0 = ((l.getD i 0).toNat : Int) := by
  unfold bI'
  rw [List.getD_eq_getElem?_getD, List.getElem?_map, List.getElem?_eq_getElem hi, List.getD_eq_getElem?_getD, List.getElem?_eq_getElem hi]; rfl
theorem own_ne_ty {B B' : Nat} {e e' : TypeId} {k k' : IntKind} {w : World} {x y : Value} {l l' : List Int} (h : OwnI B e k w x l) (h' : OwnI B' e' k' w y l') (hne : e ≠ e') : ∀ q, x.ownBlock = some q → y.ownBlock ≠ some q := fun q h1 h2 => by
  obtain ⟨cs, fz, hc⟩ := own_typedV h h1
  obtain ⟨cs', fz', hc'⟩ := own_typedV h' h2
  exact ty_ne hc hc' hne rfl
theorem own_ne_box {B g : Nat} {e : TypeId} {k : IntKind} {w : World} {x : Value} {l : List Int} {v : MV} {n : Nat} (h : OwnI B e k w x l) (hb : MkB w g v n) (hne : 45 ≠ e) : x.ownBlock ≠ some g := fun h1 => by
  obtain ⟨cs, fz, hc⟩ := own_typedV h h1
  exact ty_ne hb hc hne rfl
theorem seekF_ge (c : List Int) (l : List UInt8) : ∀ (f : Nat) (a : Int), a ≤ seekF c l f a
  | 0, a => Int.le_refl _
  | f + 1, a => by
    have := seekF_ge c l f (a + 1)
    unfold seekF
    split <;> omega
theorem getD_mem (l : List UInt8) (t : Nat) (h : t < l.length) : l.getD t 0 ∈ l := by
  rw [List.getD_eq_getElem?_getD, List.getElem?_eq_getElem h]
  exact List.getElem_mem h
theorem seek_no {c : List Int} {l : List UInt8} {a A : Int} {f : Nat} {b : UInt8} (hb : b ∈ l) (hn : ¬ (1 ≤ a + b.toNat + 1 ∧ c.getD (a + b.toNat + 1).toNat (-1) < 0)) (h : seekF c l (f + 1) a = A) (hA : fitsF c l A = true) (ha : a ≤ A) : seekF c l f (a + 1) = A ∧ a + 1 ≤ A := by
  have hf : ¬ fitsF c l a = true := fun e => hn ((fits_iff _ _ _).1 e b hb)
  unfold seekF at h
  rw [if_neg hf] at h
  refine ⟨h, ?_⟩
  by_cases e : a = A
  · subst e
    exact absurd hA hf
  · omega
set_option maxRecDepth 100000 in
set_option maxHeartbeats 4000000 in
theorem mk_base (B B1 g : Nat) (M : TM) (v : MV) (k : UInt8) (ks : List UInt8) (x : Value) (w : World) (hM : MkAt B g w M v) (hf : 1 ≤ M.free ∧ M.free ≤ M.c.length) (hL : M.c.length ≤ 1000000000) (hk : ∀ b ∈ ks, k.toNat < b.toNat)
    (hks : ks.length ≤ 255) (hx : OwnI B1 5 .u8 w x (bI' (k :: ks))) :
    Calls Try.prog 23 #[.pointer (some ⟨g, 0, none⟩), x] w fun e w' => e = .returned (.int .i64 (baseF M k ks)) ∧ MkAt B g w' { M with free := freeF M.c (M.c.length + 1) M.free } v ∧ MSt B g v v w w' := by
  obtain ⟨F, hF⟩ : ∃ F, freeF M.c (M.c.length + 1) M.free = F := ⟨_, rfl⟩
  have hF1 := freeF_at M.c (M.c.length + 1) M.free (by omega) hf.2
  have hB := base_at (k := k) hf hk
  have hA : baseF M k ks = seekF M.c (k :: ks) (M.c.length + 300) (max ((F : Nat) - (k.toNat : Int) - 1) (-(k.toNat : Int))) := by unfold baseF; rw [hF]
  obtain ⟨A, hAA⟩ : ∃ A, baseF M k ks = A := ⟨_, rfl⟩
  rw [hAA] at hA hB ⊢
  obtain ⟨len, hlen⟩ : ∃ len, M.c.length = len := ⟨_, rfl⟩
  obtain ⟨q, cc, hvc⟩ := own_some hM.row.oc (by omega)
  obtain ⟨qx, cx, rfl⟩ := own_some hx (by rw [bI'_len]; simp)
  obtain ⟨nx, hnx⟩ : ∃ nx, (bI' (k :: ks)).length = nx := ⟨_, rfl⟩
  have hnx1 : nx = ks.length + 1 := by rw [← hnx, bI'_len]; rfl
  rw [hnx]
  rw [hF] at hF1 ⊢
  rw [hlen] at hvc hF hf hF1 hL hA hB
  have Hlen := Lib.hid hlen
  have HF := Lib.hid hF
  have HF1 := Lib.hid hF1
  have Hvc := Lib.hid hvc
  have HM := Lib.hid hM
  have HA := Lib.hid hA
  have HB := Lib.hid hB
  have Hnx := Lib.hid hnx
  have hnx2 : nx ≤ 256 := by omega
  have hnx3 : 0 < nx := by omega
  have HX := Lib.hid hx
  have Hk := Lib.hid hk
  obtain ⟨f1, f2⟩ := hf
  clear hnx1 hAA hlen hF hvc hM hA hB hnx hF1 hx hk
  go_enter Try.func23, Try.ntmps23
  repeat' (first | go_values | go_skip | go_guarded | go_step | go_upon)
  go_step3
  repeat' (first | go_values | go_skip | go_guarded | go_step | go_upon)
  go_loopg [] (len + 1) (fun gk wr => ∃ i : Nat, len < gk + i ∧ i ≤ len ∧ Hid (freeF M.c gk i = F) ∧ Hid (MkAt B g wr { M with free := i } v) ∧ Hid (MSt B g v v w wr) ∧ Hid (OwnI B1 5 .u8 wr (.slice (some ⟨qx, 0, none⟩) nx cx) (bI' (k :: ks))))
  case atStart => exact ⟨M.free, by omega, f2, HF, HM, Lib.hid (MSt.refl _ _ _ _), Lib.hid (by rw [← Hnx.out]; exact HX.out)⟩
  case round =>
    obtain ⟨i, hgi, hi, HFi, HMi, HSi, HXi⟩ := hrel
    obtain ⟨f, rfl⟩ : ∃ f, gk = f + 1 := ⟨gk - 1, by omega⟩
    obtain ⟨d0, d1, d2, d3, fr⟩ := HMi.out.box.cells
    rw [Hvc.out] at d1
    have fr3 := fr 3
    dsimp only at d3
    clear d0 d2 fr
    have q1 : ∀ nq : WB wr, nq.1.cell? ⟨g, 1, none⟩ = some (.slice (some ⟨q, 0, none⟩) len cc) := fun nq => by rw [nq.cell HMi.out.box.lt]; exact d1
    have q3 : ∀ nq : WB wr, nq.1.cell? ⟨g, 3, none⟩ = some (.int .i64 (i : Nat)) := fun nq => by rw [nq.cell HMi.out.box.lt]; exact d3
    clear d1 d3
    by_cases hlt : i < len
    · have hoc := HMi.out.row.oc
      dsimp only at hoc
      rw [Hvc.out, ← Hlen.out] at hoc
      have hci := own_at hoc (i := i) (by rw [Hlen.out]; exact hlt) (-1)
      have qc : ∀ nq : WB wr, nq.1.cell? ⟨q, i, none⟩ = some (.int .i64 (M.c.getD i (-1))) := fun nq => by
        rw [nq.cell (OwnC.lt hoc q rfl).2]; exact hci
      have HFj := HFi.out
      unfold freeF at HFj
      generalize hz : M.c.getD i (-1) = z at qc HFj
      clear hci hoc
      by_cases hz0 : 0 ≤ z
      · rw [if_pos hz0] at HFj
        have HFj := Lib.hid HFj
        have e1 : decide (z ≥ 0) = true := by simpa using hz0
        have e2 : decide ((i : Int) < len) = true := by simpa using hlt
        have HMd := Lib.hid (show MkAt B g wr { M with free := i } v from HMi.out)
        clear hz HFi
        repeat' (go_not_at_region 1; first | go_values | go_skip | go_guarded | go_step | go_upon)
        refine wp_region_wb (by kernel_rfl) (by kernel_rfl) wr (Below.refl _ _) ?_
        repeat (go_big_quiet_step ((fail)))
        refine wpQuiet_nil ?_
        rintro _ ⟨nq, rfl⟩
        have hnq := nq.2
        have HM2 := Lib.hid (HMi.out.keep hnq)
        have HS2 := Lib.hid (HSi.out.trans (MSt.of_below (B := B) hnq HMi.out.size))
        have HX2 := Lib.hid (HXi.out.keep hnq (Nat.le_refl _))
        have d3 := HM2.out.box.cells.2.2.2.1
        have fr3 := HM2.out.box.cells.2.2.2.2 3
        dsimp only at d3
        clear q1 q3 qc hnq
        repeat' (first | go_values | go_skip | go_guarded | go_step | go_upon)
        go_roundg f
        case measure => omega
        case rel =>
          have hgB := HM2.out.gB
          exact ⟨i + 1, by omega, by omega, HFj, Lib.hid ⟨by have := HM2.out.box.set 3 (.int .i64 ((i : Int) + 1)) (v' := v) (n' := i + 1) rfl; exact this, HM2.out.row.other (HM2.out.row.ne_box HM2.out.box), hgB⟩, Lib.hid (HS2.out.trans (MSt.cell (.inl rfl) hgB)), Lib.hid (own_ne HX2.out (own_ne_box HX2.out HM2.out.box (by decide)))⟩
      · rw [if_neg hz0] at HFj
        subst HFj
        have e1 : decide (z ≥ 0) = false := by simpa using hz0
        have e2 : decide ((i : Int) < len) = true := by simpa using hlt
        clear hz HFi
        repeat' (go_not_at_region 1; first | go_values | go_skip | go_guarded | go_step | go_upon)
        refine wp_region_wb (by kernel_rfl) (by kernel_rfl) wr (Below.refl _ _) ?_
        repeat (go_big_quiet_step ((fail)))
        refine wpQuiet_nil ?_
        rintro _ ⟨nq, rfl⟩
        have hnq := nq.2
        have HM2 := Lib.hid (HMi.out.keep hnq)
        have HS2 := Lib.hid (HSi.out.trans (MSt.of_below (B := B) hnq HMi.out.size))
        have HX2 := Lib.hid (HXi.out.keep hnq (Nat.le_refl _))
        clear q1 q3 qc hnq
        have hk0 := HX2.out
        have Lx := Lib.hid (bI'_len (k :: ks))
        have g3 : ∀ nz : WB nq.1, nz.1.cell? ⟨g, 3, none⟩ = some (.int .i64 (i : Nat)) := fun nz => by rw [nz.cell HM2.out.box.lt]; exact HM2.out.box.cells.2.2.2.1
        have gx : ∀ nz : WB nq.1, nz.1.cell? ⟨qx, 0, none⟩ = some (.int .u8 (k.toNat : Nat)) := fun nz => by
          rw [nz.cell (OwnC.lt hk0 qx rfl).2]
          have h := own_at (i := 0) (by rw [← Hnx.out] at hk0; exact hk0) (by rw [bI'_len]; simp) 0
          rw [bI'_at _ (by simp)] at h
          exact h
        have hk8 := k.toNat_lt
        obtain ⟨kn, hkn⟩ : ∃ kn, k.toNat = kn := ⟨_, rfl⟩
        rw [hkn] at gx hk8
        have Hkn := Lib.hid hkn
        clear hkn hk0
        have hi1 : 1 ≤ i := by have := HF1.out; omega
        repeat' (go_not_at_region 3; first | go_values | go_skip | go_guarded | go_step | go_upon)
        refine wp_region_wb (by kernel_rfl) (by kernel_rfl) nq.1 (Below.refl _ _) ?_
        repeat (go_big_quiet_step ((fail)))
        refine wpQuiet_nil ?_
        rintro _ ⟨nq, rfl⟩
        have hnq := nq.2
        generalize hmx : (i : Int) - kn - 1 = a0
        have hmax : max ((i : Nat) - (kn : Int) - 1) (-(kn : Int)) = a0 := by omega
        have hA1 := HA.out
        have hB1 := HB.out
        rw [Hkn.out] at hA1
        rw [hmax] at hA1
        rw [Hkn.out] at hB1
        have hge := seekF_ge M.c (k :: ks) (len + 300) a0
        rw [← hA1] at hge
        have ha0 : -255 ≤ a0 := by omega
        have ha1 : A < a0 + ((len + 300 : Nat) : Int) := by omega
        have HfA : Hid (fitsF M.c (k :: ks) A = true) := Lib.hid ((fits_iff _ _ _).2 hB1.1)
        have hA9 : A ≤ 1000000000 := by omega
        have Hsk := Lib.hid hA1.symm
        have HM3 := Lib.hid (HM2.out.keep hnq)
        have HS3 := Lib.hid (HS2.out.trans (MSt.of_below (B := B) hnq HM2.out.size))
        have HX3 := Lib.hid (HX2.out.keep hnq (Nat.le_refl _))
        clear hmax hmx hA1 hB1 HA HB HM HX HM2 HS2 HX2 g3 gx hnq
        repeat' (first | go_values | go_skip | go_guarded | go_step | go_upon)
        go_step3
        repeat' (first | go_values | go_skip | go_guarded | go_step | go_upon)
        go_loopg [5] (len + 300) (fun gk s5 wr => ∃ a : Int, s5 = .int .i64 a ∧ -255 ≤ a ∧ a ≤ A ∧ A < a + gk ∧ Hid (seekF M.c (k :: ks) gk a = A) ∧ Hid (Below nq.1.heap.size nq.1 wr))
        case atStart => exact ⟨a0, rfl, ha0, hge, ha1, Hsk, Lib.hid (Below.refl _ _)⟩
        case round =>
          obtain ⟨a, rfl, ha2, ha3, ha4, Hska, HBa⟩ := hrel
          obtain ⟨f, hgf⟩ : ∃ f, gk = f + 1 := ⟨gk - 1, by omega⟩
          have ha9 : a ≤ 1000000000 := by omega
          repeat' (first | go_values | go_skip | go_guarded | go_step | go_upon)
          go_loopg [61] nx (fun gk2 s61 wr2 => ∃ t : Nat, s61 = .int .i64 t ∧ t + gk2 = nx ∧ Hid (∀ j, j < t → 1 ≤ a + ((k :: ks).getD j 0).toNat + 1 ∧ M.c.getD (a + ((k :: ks).getD j 0).toNat + 1).toNat (-1) < 0) ∧ Hid (Below nq.1.heap.size nq.1 wr2))
          case atStart => exact ⟨0, rfl, by omega, Lib.hid (fun j hj => absurd hj (Nat.not_lt_zero _)), HBa⟩
          case round =>
            obtain ⟨t, rfl, ht, HT, HBt⟩ := hrel
            by_cases hlt2 : t < nx
            · obtain ⟨bn, hbn⟩ : ∃ bn, ((k :: ks).getD t 0).toNat = bn := ⟨_, rfl⟩
              have hb8 : bn < 256 := by rw [← hbn]; exact UInt8.toNat_lt _
              have hk1 := HX3.out
              have gx : wr.cell? ⟨qx, t, none⟩ = some (.int .u8 (bn : Nat)) := by
                rw [HBt.out.cell (OwnC.lt hk1 qx rfl).2]
                have h := own_at (i := t) (by rw [← Hnx.out] at hk1; exact hk1) (by rw [Hnx.out]; exact hlt2) 0
                rw [bI'_at _ (by have := Lx.out; have := Hnx.out; omega)] at h
                rw [← hbn]
                exact h
              have Hbn := Lib.hid hbn
              have hlt3 : (t : Int) < nx := by omega
              have hg1 : 0 < gk := by omega
              clear hbn hk1
              have HMw := Lib.hid (HM3.out.keep HBt.out)
              have d1 := HMw.out.box.cells.2.1
              rw [Hvc.out] at d1
              have hmem := Lib.hid (getD_mem (k :: ks) t (by have := Lx.out; have := Hnx.out; omega))
              by_cases h1 : a + bn + 1 < 1
              · have hno := seek_no (b := (k :: ks).getD t 0) hmem.out (by rw [Hbn.out]; omega) (by rw [← hgf]; exact Hska.out) HfA.out ha3
                have Hno := Lib.hid hno.1
                have hno2 := hno.2
                clear hno
                repeat' (first | go_values | go_skip | go_guarded | go_step | go_upon)
                go_roundg f
                case measure => omega
                case rel => exact ⟨a + 1, by go_num, by omega, hno2, by omega, Hno, HBt⟩
              · by_cases h2 : a + bn + 1 < len
                · obtain ⟨pn, hpn⟩ : ∃ pn : Nat, a + bn + 1 = pn := ⟨(a + bn + 1).toNat, by omega⟩
                  have hoc := HMw.out.row.oc
                  dsimp only at hoc
                  rw [Hvc.out, ← Hlen.out] at hoc
                  have hpl : pn < len := by omega
                  have hc := own_at hoc (i := pn) (by rw [Hlen.out]; exact hpl) (-1)
                  obtain ⟨y, hy⟩ : ∃ y, M.c.getD pn (-1) = y := ⟨_, rfl⟩
                  rw [hy] at hc
                  have Hy := Lib.hid hy
                  have Hpn := Lib.hid hpn
                  have hp0 : 1 ≤ pn := by omega
                  have hwp : a + (bn : Int) + 1 = (pn : Int) := hpn
                  clear hoc hy hpn h2
                  by_cases hy0 : 0 ≤ y
                  · have hno := seek_no (b := (k :: ks).getD t 0) hmem.out (by rw [Hbn.out, Hpn.out, Int.toNat_natCast, Hy.out]; omega) (by rw [← hgf]; exact Hska.out) HfA.out ha3
                    have Hno := Lib.hid hno.1
                    have hno2 := hno.2
                    clear hno
                    repeat' (first | go_values | go_skip | go_guarded | go_step | go_upon)
                    go_roundg f
                    case measure => omega
                    case rel => exact ⟨a + 1, by go_num, by omega, hno2, by omega, Hno, HBt⟩
                  · have hy1 : y < 0 := by omega
                    clear hy0
                    repeat' (first | go_values | go_skip | go_guarded | go_step | go_upon)
                    go_roundg (gk - 1)
                    case measure => omega
                    case rel =>
                      refine ⟨t + 1, by go_num, by omega, Lib.hid fun j hj => ?_, HBt⟩
                      by_cases e : j = t
                      · subst e
                        rw [Hbn.out, Hpn.out, Int.toNat_natCast, Hy.out]
                        exact ⟨by omega, hy1⟩
                      · exact HT.out j (by omega)
                · have h3 : (len : Int) ≤ a + bn + 1 := by omega
                  have h1' : 1 ≤ a + bn + 1 := by omega
                  clear h1 h2
                  repeat' (first | go_values | go_skip | go_guarded | go_step | go_upon)
                  go_roundg (gk - 1)
                  case measure => omega
                  case rel =>
                    refine ⟨t + 1, by go_num, by omega, Lib.hid fun j hj => ?_, HBt⟩
                    by_cases e : j = t
                    · subst e
                      rw [Hbn.out]
                      refine ⟨h1', ?_⟩
                      rw [List.getD_eq_getElem?_getD, List.getElem?_eq_none (by rw [Hlen.out]; omega)]
                      decide
                    · exact HT.out j (by omega)
            · have ht1 : t = nx := by omega
              have hlt3 : (nx : Int) ≤ t := by omega
              have hfit : fitsF M.c (k :: ks) a = true := by
                rw [fits_iff]
                intro b hb
                obtain ⟨j, hj⟩ := List.getElem?_of_mem hb
                have := HT.out j (by have := (List.getElem?_eq_some_iff.1 hj).1; have := Lx.out; have := Hnx.out; omega)
                rw [List.getD_eq_getElem?_getD, hj] at this
                exact this
              have hAa : a = A := by
                have := Hska.out
                rw [hgf] at this
                unfold seekF at this
                rw [if_pos hfit] at this
                exact this
              have HAa := Lib.hid hAa
              clear hAa hfit ht1 hlt2
              repeat' (first | go_values | go_skip | go_guarded | go_step | go_upon)
              rw [Exit.noGoto_ret]
              go_ret
              refine ⟨by rw [HAa.out]; rfl, HM3.out.keep HBt.out, HS3.out.trans (MSt.of_below HBt.out HM3.out.size)⟩
    · have HFj := HFi.out
      unfold freeF at HFj
      rw [if_neg (by rw [List.getD_eq_getElem?_getD, List.getElem?_eq_none (by rw [Hlen.out]; omega)]; decide)] at HFj
      subst HFj
      have e2 : decide ((i : Int) < len) = false := by simpa using hlt
      have hlt9 : (len : Int) ≤ i := by omega
      clear HFi
      repeat' (go_not_at_region 1; first | go_values | go_skip | go_guarded | go_step | go_upon)
      refine wp_region_wb (by kernel_rfl) (by kernel_rfl) wr (Below.refl _ _) ?_
      repeat (go_big_quiet_step ((fail)))
      refine wpQuiet_nil ?_
      rintro _ ⟨nq, rfl⟩
      have hnq := nq.2
      have HM2 := Lib.hid (HMi.out.keep hnq)
      have HS2 := Lib.hid (HSi.out.trans (MSt.of_below (B := B) hnq HMi.out.size))
      have HX2 := Lib.hid (HXi.out.keep hnq (Nat.le_refl _))
      clear q1 q3 hnq
      have hk0 := HX2.out
      have Lx := Lib.hid (bI'_len (k :: ks))
      have g3 : ∀ nz : WB nq.1, nz.1.cell? ⟨g, 3, none⟩ = some (.int .i64 (i : Nat)) := fun nz => by rw [nz.cell HM2.out.box.lt]; exact HM2.out.box.cells.2.2.2.1
      have gx : ∀ nz : WB nq.1, nz.1.cell? ⟨qx, 0, none⟩ = some (.int .u8 (k.toNat : Nat)) := fun nz => by
        rw [nz.cell (OwnC.lt hk0 qx rfl).2]
        have h := own_at (i := 0) (by rw [← Hnx.out] at hk0; exact hk0) (by rw [bI'_len]; simp) 0
        rw [bI'_at _ (by simp)] at h
        exact h
      have hk8 := k.toNat_lt
      obtain ⟨kn, hkn⟩ : ∃ kn, k.toNat = kn := ⟨_, rfl⟩
      rw [hkn] at gx hk8
      have Hkn := Lib.hid hkn
      clear hkn hk0
      have hi1 : 1 ≤ i := by have := HF1.out; omega
      repeat' (go_not_at_region 3; first | go_values | go_skip | go_guarded | go_step | go_upon)
      refine wp_region_wb (by kernel_rfl) (by kernel_rfl) nq.1 (Below.refl _ _) ?_
      repeat (go_big_quiet_step ((fail)))
      refine wpQuiet_nil ?_
      rintro _ ⟨nq, rfl⟩
      have hnq := nq.2
      generalize hmx : (i : Int) - kn - 1 = a0
      have hmax : max ((i : Nat) - (kn : Int) - 1) (-(kn : Int)) = a0 := by omega
      have hA1 := HA.out
      have hB1 := HB.out
      rw [Hkn.out] at hA1
      rw [hmax] at hA1
      rw [Hkn.out] at hB1
      have hge := seekF_ge M.c (k :: ks) (len + 300) a0
      rw [← hA1] at hge
      have ha0 : -255 ≤ a0 := by omega
      have ha1 : A < a0 + ((len + 300 : Nat) : Int) := by omega
      have HfA : Hid (fitsF M.c (k :: ks) A = true) := Lib.hid ((fits_iff _ _ _).2 hB1.1)
      have hA9 : A ≤ 1000000000 := by omega
      have Hsk := Lib.hid hA1.symm
      have HM3 := Lib.hid (HM2.out.keep hnq)
      have HS3 := Lib.hid (HS2.out.trans (MSt.of_below (B := B) hnq HM2.out.size))
      have HX3 := Lib.hid (HX2.out.keep hnq (Nat.le_refl _))
      clear hmax hmx hA1 hB1 HA HB HM HX HM2 HS2 HX2 g3 gx hnq
      repeat' (first | go_values | go_skip | go_guarded | go_step | go_upon)
      go_step3
      repeat' (first | go_values | go_skip | go_guarded | go_step | go_upon)
      go_loopg [5] (len + 300) (fun gk s5 wr => ∃ a : Int, s5 = .int .i64 a ∧ -255 ≤ a ∧ a ≤ A ∧ A < a + gk ∧ Hid (seekF M.c (k :: ks) gk a = A) ∧ Hid (Below nq.1.heap.size nq.1 wr))
      case atStart => exact ⟨a0, rfl, ha0, hge, ha1, Hsk, Lib.hid (Below.refl _ _)⟩
      case round =>
        obtain ⟨a, rfl, ha2, ha3, ha4, Hska, HBa⟩ := hrel
        obtain ⟨f, hgf⟩ : ∃ f, gk = f + 1 := ⟨gk - 1, by omega⟩
        have ha9 : a ≤ 1000000000 := by omega
        repeat' (first | go_values | go_skip | go_guarded | go_step | go_upon)
        go_loopg [61] nx (fun gk2 s61 wr2 => ∃ t : Nat, s61 = .int .i64 t ∧ t + gk2 = nx ∧ Hid (∀ j, j < t → 1 ≤ a + ((k :: ks).getD j 0).toNat + 1 ∧ M.c.getD (a + ((k :: ks).getD j 0).toNat + 1).toNat (-1) < 0) ∧ Hid (Below nq.1.heap.size nq.1 wr2))
        case atStart => exact ⟨0, rfl, by omega, Lib.hid (fun j hj => absurd hj (Nat.not_lt_zero _)), HBa⟩
        case round =>
          obtain ⟨t, rfl, ht, HT, HBt⟩ := hrel
          by_cases hlt2 : t < nx
          · obtain ⟨bn, hbn⟩ : ∃ bn, ((k :: ks).getD t 0).toNat = bn := ⟨_, rfl⟩
            have hb8 : bn < 256 := by rw [← hbn]; exact UInt8.toNat_lt _
            have hk1 := HX3.out
            have gx : wr.cell? ⟨qx, t, none⟩ = some (.int .u8 (bn : Nat)) := by
              rw [HBt.out.cell (OwnC.lt hk1 qx rfl).2]
              have h := own_at (i := t) (by rw [← Hnx.out] at hk1; exact hk1) (by rw [Hnx.out]; exact hlt2) 0
              rw [bI'_at _ (by have := Lx.out; have := Hnx.out; omega)] at h
              rw [← hbn]
              exact h
            have Hbn := Lib.hid hbn
            have hlt3 : (t : Int) < nx := by omega
            have hg1 : 0 < gk := by omega
            clear hbn hk1
            have HMw := Lib.hid (HM3.out.keep HBt.out)
            have d1 := HMw.out.box.cells.2.1
            rw [Hvc.out] at d1
            have hmem := Lib.hid (getD_mem (k :: ks) t (by have := Lx.out; have := Hnx.out; omega))
            by_cases h1 : a + bn + 1 < 1
            · have hno := seek_no (b := (k :: ks).getD t 0) hmem.out (by rw [Hbn.out]; omega) (by rw [← hgf]; exact Hska.out) HfA.out ha3
              have Hno := Lib.hid hno.1
              have hno2 := hno.2
              clear hno
              repeat' (first | go_values | go_skip | go_guarded | go_step | go_upon)
              go_roundg f
              case measure => omega
              case rel => exact ⟨a + 1, by go_num, by omega, hno2, by omega, Hno, HBt⟩
            · by_cases h2 : a + bn + 1 < len
              · obtain ⟨pn, hpn⟩ : ∃ pn : Nat, a + bn + 1 = pn := ⟨(a + bn + 1).toNat, by omega⟩
                have hoc := HMw.out.row.oc
                dsimp only at hoc
                rw [Hvc.out, ← Hlen.out] at hoc
                have hpl : pn < len := by omega
                have hc := own_at hoc (i := pn) (by rw [Hlen.out]; exact hpl) (-1)
                obtain ⟨y, hy⟩ : ∃ y, M.c.getD pn (-1) = y := ⟨_, rfl⟩
                rw [hy] at hc
                have Hy := Lib.hid hy
                have Hpn := Lib.hid hpn
                have hp0 : 1 ≤ pn := by omega
                have hwp : a + (bn : Int) + 1 = (pn : Int) := hpn
                clear hoc hy hpn h2
                by_cases hy0 : 0 ≤ y
                · have hno := seek_no (b := (k :: ks).getD t 0) hmem.out (by rw [Hbn.out, Hpn.out, Int.toNat_natCast, Hy.out]; omega) (by rw [← hgf]; exact Hska.out) HfA.out ha3
                  have Hno := Lib.hid hno.1
                  have hno2 := hno.2
                  clear hno
                  repeat' (first | go_values | go_skip | go_guarded | go_step | go_upon)
                  go_roundg f
                  case measure => omega
                  case rel => exact ⟨a + 1, by go_num, by omega, hno2, by omega, Hno, HBt⟩
                · have hy1 : y < 0 := by omega
                  clear hy0
                  repeat' (first | go_values | go_skip | go_guarded | go_step | go_upon)
                  go_roundg (gk - 1)
                  case measure => omega
                  case rel =>
                    refine ⟨t + 1, by go_num, by omega, Lib.hid fun j hj => ?_, HBt⟩
                    by_cases e : j = t
                    · subst e
                      rw [Hbn.out, Hpn.out, Int.toNat_natCast, Hy.out]
                      exact ⟨by omega, hy1⟩
                    · exact HT.out j (by omega)
              · have h3 : (len : Int) ≤ a + bn + 1 := by omega
                have h1' : 1 ≤ a + bn + 1 := by omega
                clear h1 h2
                repeat' (first | go_values | go_skip | go_guarded | go_step | go_upon)
                go_roundg (gk - 1)
                case measure => omega
                case rel =>
                  refine ⟨t + 1, by go_num, by omega, Lib.hid fun j hj => ?_, HBt⟩
                  by_cases e : j = t
                  · subst e
                    rw [Hbn.out]
                    refine ⟨h1', ?_⟩
                    rw [List.getD_eq_getElem?_getD, List.getElem?_eq_none (by rw [Hlen.out]; omega)]
                    decide
                  · exact HT.out j (by omega)
          · have ht1 : t = nx := by omega
            have hlt3 : (nx : Int) ≤ t := by omega
            have hfit : fitsF M.c (k :: ks) a = true := by
              rw [fits_iff]
              intro b hb
              obtain ⟨j, hj⟩ := List.getElem?_of_mem hb
              have := HT.out j (by have := (List.getElem?_eq_some_iff.1 hj).1; have := Lx.out; have := Hnx.out; omega)
              rw [List.getD_eq_getElem?_getD, hj] at this
              exact this
            have hAa : a = A := by
              have := Hska.out
              rw [hgf] at this
              unfold seekF at this
              rw [if_pos hfit] at this
              exact this
            have HAa := Lib.hid hAa
            clear hAa hfit ht1 hlt2
            repeat' (first | go_values | go_skip | go_guarded | go_step | go_upon)
            rw [Exit.noGoto_ret]
            go_ret
            refine ⟨by rw [HAa.out]; rfl, HM3.out.keep HBt.out, HS3.out.trans (MSt.of_below HBt.out HM3.out.size)⟩
end Go.Proofs.Ytndekogkfbhabaa
