/- Walk: a plain tree is built of words (tree). Conditions: the list can be read. -/
import Derived.Test.YtndekogkfbhabaaTriWd
import Derived.Test.YtndekogkfbhabaaTriLong
import Derived.Test.YtndekogkfbhabaaTail
import Derived.Deep.LoopGhost
import Derived.Deep.Cut
namespace Go.Proofs.Ytndekogkfbhabaa
open Go.RowKit
/-- what tree tells -/
def TreeP (words : List (List UInt8)) (w : World) (e : Ending) (w' : World) : Prop :=
  Below w.heap.size w w' ∧
  if 2048 < words.length ∨ words.any (fun x => decide (64 < x.length)) = true then e = .returned (.tuple #[.pointer none, .int .i64 2])
  else if ¬ words.Nodup then e = .returned (.tuple #[.pointer none, .int .i64 151])
  else ∃ A Mp, e = .returned (.tuple #[ptrV (A []), .int .i64 0]) ∧ TrAt w' (numbered words) A Mp ∧ w.heap.size ≤ A []
set_option maxRecDepth 100000 in
set_option maxHeartbeats 4000000 in
theorem tree_walk (words : List (List UInt8)) (v : Value) (w : World) (hrow : RowOf strC 1 w v words) : Calls Try.prog 14 #[v] w (TreeP words w) := by
  have hrow2 := hrow
  obtain ⟨a, cap, rfl, hcap, hmx, hc⟩ := hrow.open strC_lenT
  obtain ⟨n, hn⟩ : ∃ n, n = words.length := ⟨_, rfl⟩
  have Hn := Lib.hid hn
  have hmm := @run_makeMap Try.prog
  rw [← hn] at hc hcap hrow2 ⊢
  unfold maxLen at hmx
  have Hrow := Lib.hid hrow2
  have Hc := Lib.hid hc
  clear hn hrow hrow2 hc
  have hb0 : Below w.heap.size w ((w.alloc (.map #[] 0)).alloc (.cells #[.int .i64 (-1), .map (some w.heap.size)] 51)) := ((Below.refl _ _).alloc (Nat.le_refl _) _).alloc (by simp) _
  have HB0 := Lib.hid hb0
  by_cases h1 : 2048 < n
  · have h1' : (2048 : Int) < n := by omega
    clear hb0 hcap
    go_enter Try.func14, Try.ntmps14
    repeat' (first | go_values | go_skip | go_guarded | go_step | go_upon)
    refine bodyPost_ret (results_tmp2 rfl _ _ _) rfl ?_
    exact ⟨HB0.out, by rw [if_pos (.inl (by rw [← Hn.out]; exact h1))]; rfl⟩
  have h1' : (n : Int) ≤ 2048 := by omega
  have hlong := contains_long words (.slice a n cap) ((w.alloc (.map #[] 0)).alloc (.cells #[.int .i64 (-1), .map (some w.heap.size)] 51)) (Hrow.out.keep hb0)
  have hBT : BT w.heap.size ((w.alloc (.map #[] 0)).alloc (.cells #[.int .i64 (-1), .map (some w.heap.size)] 51)) [[]] (fun p => atW (words.take 0) p) (fun _ => w.heap.size + 1) (fun _ => w.heap.size) := by
    refine ⟨by simp, fun p c h => by simp at h, fun p hp => ⟨[], ⟨?_, ?_⟩, fun c => ?_⟩, fun p _ => ⟨by omega, by omega⟩, fun p hp q hq _ => ?_, fun p hp q hq _ => ?_⟩
    · have := Go.heap_alloc_new (w.alloc (.map #[] 0)) (.cells #[.int .i64 (-1), .map (some w.heap.size)] 51)
      rw [World.size_alloc] at this
      exact this
    · have h1 := BpAt.new w
      exact h1.keep ((Below.refl _ _).alloc (Nat.le_refl _) _)
    · rw [if_neg (by simp)]; rfl
    · rw [List.mem_singleton.1 hp, List.mem_singleton.1 hq]
    · rw [List.mem_singleton.1 hp, List.mem_singleton.1 hq]
  obtain ⟨w1, hw1⟩ : ∃ w1, (w.alloc (.map #[] 0)).alloc (.cells #[.int .i64 (-1), .map (some w.heap.size)] 51) = w1 := ⟨_, rfl⟩
  obtain ⟨r, hr⟩ : ∃ r, w.heap.size + 1 = r := ⟨_, rfl⟩
  have hrw : w.heap.size ≤ r := by omega
  have HBT := Lib.hid hBT
  have Hw1 := Lib.hid hw1
  have Hr := Lib.hid hr
  clear hb0 hBT hw1 hr h1 hcap
  go_enter Try.func14, Try.ntmps14
  repeat' (first | go_values | go_skip | go_guarded | go_step | go_upon)
  refine Calls.mono hlong ?_
  rintro _ w2 ⟨rfl, hb2⟩
  dsimp only
  rw [Hw1.out] at HBT HB0 hb2
  rw [Hr.out] at HBT ⊢
  have HBT2 := Lib.hid (HBT.out.keep hb2)
  have HB2 := Lib.hid (HB0.out.trans (hb2.mono HB0.out.size))
  clear hb2 hlong
  cases hany : words.any fun x => decide (64 < x.length) with
  | true =>
    have Hany := Lib.hid hany
    clear hany
    repeat' (first | go_values | go_skip | go_guarded | go_step | go_upon)
    refine bodyPost_ret (results_tmp2 rfl _ _ _) rfl ?_
    exact ⟨HB2.out, by rw [if_pos (.inr Hany.out)]; rfl⟩
  | false =>
    have Hany := Lib.hid hany
    have hsm : ∀ x ∈ words, x.length ≤ 64 := fun x hx => by
      have := List.any_eq_false.1 hany x hx
      simp at this
      omega
    have Hsm := Lib.hid hsm
    clear hany hsm
    repeat' (first | go_values | go_skip | go_guarded | go_step | go_upon)
    go_loopg [21] n (fun gk s21 wr => ∃ (i : Nat) (S : List (List UInt8)) (A Mp : List UInt8 → Nat), s21 = .int .i64 i ∧ i + gk = n ∧ Hid (BT w.heap.size wr S (fun p => atW (words.take i) p) A Mp ∧ PathsB (words.take i) [] S ∧ (words.take i).Nodup ∧ A [] = r) ∧ Hid (Below w.heap.size w wr))
    case atStart => exact ⟨0, [[]], fun _ => r, fun _ => w.heap.size, rfl, by omega, Lib.hid ⟨HBT2.out, fun p => by simp, by simp, rfl⟩, HB2⟩
    case round =>
      obtain ⟨i, S, A, Mp, rfl, hi, HI, HB⟩ := hrel
      by_cases hlt : i < n
      · have hlt' : (i : Int) < n := by omega
        obtain ⟨x, hx⟩ : ∃ x, words[i]? = some x := ⟨_, List.getElem?_eq_getElem (by rw [← Hn.out]; exact hlt)⟩
        obtain ⟨b, off, rfl, hb, hcc⟩ := Hc.out.resolve_left (by omega)
        have c0 := str_cellT hcc hx
        rw [← HB.out.cell (show b < w.heap.size from hb)] at c0
        obtain ⟨X, hX⟩ : ∃ X : ByteArray, X = ⟨x.toArray⟩ := ⟨_, rfl⟩
        rw [← hX] at c0
        have hXs : X.size = x.length := by rw [hX]; rfl
        have hXl : X.data.toList = x := by rw [hX]
        have hx64 := Hsm.out x (List.mem_of_getElem? hx)
        have hX64 : X.size ≤ 64 := by omega
        obtain ⟨hbt, hpb, hnd, har⟩ := HI.out
        have Hx := Lib.hid hx
        have HX := Lib.hid hX
        have HXs := Lib.hid hXs
        have HXl := Lib.hid hXl
        have Hbt := Lib.hid hbt
        have Hpb := Lib.hid hpb
        have Hnd := Lib.hid hnd
        have Har := Lib.hid har
        clear hx hX hXs hXl hbt hpb hnd har hcc HI
        obtain ⟨gz, hgz⟩ : ∃ gz, gk = gz := ⟨_, rfl⟩
        rw [hgz] at hi
        repeat' (first | go_values | go_skip | go_guarded | go_step | go_upon)
        go_loopg [29, 7] X.size (fun gk s29 s7 wr => ∃ (k : Nat) (S : List (List UInt8)) (A Mp : List UInt8 → Nat), s29 = .int .i64 k ∧ s7 = ptrV (A (x.take k)) ∧ k + gk = X.size ∧ Hid (BT w.heap.size wr S (fun p => atW (words.take i) p) A Mp ∧ PathsB (words.take i) (x.take k) S ∧ A [] = r) ∧ Hid (Below w.heap.size w wr))
        case atStart => exact ⟨0, S, A, Mp, rfl, by rw [List.take_zero, Har.out], by omega, Lib.hid ⟨Hbt.out, by rw [List.take_zero]; exact Hpb.out, Har.out⟩, HB⟩
        case round =>
          clear Hbt Hpb Har HB
          obtain ⟨k, S, A, Mp, rfl, rfl, hk, HI, HB⟩ := hrel
          by_cases hlk : k < X.size
          · have hlk' : (k : Int) < X.size := by omega
            obtain ⟨hbt, hpb, har⟩ := HI.out
            have hpS : x.take k ∈ S := (hpb _).2 (.inr (.inr (List.prefix_refl _)))
            obtain ⟨l, hnd, hl⟩ := hbt.nd _ hpS
            have hkx : k < x.length := by rw [← HXs.out]; exact hlk
            obtain ⟨c, hc⟩ : ∃ c, x[k]? = some c := ⟨_, List.getElem?_eq_getElem hkx⟩
            have htk : x.take (k + 1) = x.take k ++ [c] := by rw [List.take_add_one, hc]; rfl
            have hbx : at8 X.data.toList k = c.toNat := by
              unfold at8
              rw [HXl.out, List.getD_eq_getElem?_getD, hc]; rfl
            have hcb := UInt8.toNat_lt c
            obtain ⟨cn, hcn⟩ : ∃ cn, c.toNat = cn := ⟨_, rfl⟩
            rw [hcn] at hbx hcb
            obtain ⟨p, hp⟩ : ∃ p, x.take k = p := ⟨_, rfl⟩
            rw [hp] at hpb hpS hnd hl htk
            rw [hp]
            obtain ⟨nd, hndA⟩ : ∃ nd, A p = nd := ⟨_, rfl⟩
            obtain ⟨mp, hmp⟩ : ∃ mp, Mp p = mp := ⟨_, rfl⟩
            rw [hndA, hmp] at hnd
            rw [hndA]
            have hlk1 := fun nq : WB wr => run_lookBp (P := Try.prog) Try.underlying5 Try.underlying49 (z := .pointer none) (fun _ => Try.zeroValue40 _) c (hnd.keep nq.2).map
            unfold encB at hlk1
            rw [hcn] at hlk1
            have q1 : ∀ nq : WB wr, nq.1.cell? ⟨nd, 1, none⟩ = some (.map (some mp)) := fun nq => by
              rw [cell_of_row nq.1 nd 1 _ _ _ (hnd.keep nq.2).box]; rfl
            have Hbt := Lib.hid hbt
            have Hpb := Lib.hid hpb
            have Har := Lib.hid har
            have HpS := Lib.hid hpS
            have Hnd' := Lib.hid hnd
            have Hl := Lib.hid hl
            have Htk := Lib.hid htk
            have Hcn := Lib.hid hcn
            have Hp := Lib.hid hp
            have HndA := Lib.hid hndA
            have Hmp := Lib.hid hmp
            clear HI hbt hpb har hpS hnd hc htk hcn hp hndA hmp hkx
            by_cases hin : p ++ [c] ∈ S
            · have hlc := hl c
              rw [if_pos hin] at hlc
              rw [hlc] at hlk1
              simp only [Option.map_some, Option.getD_some, Option.isSome_some] at hlk1
              have Hin := Lib.hid hin
              clear hlc hin hl
              repeat' (go_not_at_region 13; first | go_values | go_skip | go_guarded | go_step | go_upon)
              refine wp_region_wb (by kernel_rfl) (by kernel_rfl) wr (Below.refl _ _) ?_
              repeat (go_big_quiet_step ((fail)))
              refine wpQuiet_nil ?_
              rintro _ ⟨nq, rfl⟩
              have hnq := nq.2
              clear hlk1 q1
              have HB2 := Lib.hid (HB.out.trans (hnq.mono HB.out.size))
              have hbt2 := Lib.hid (Hbt.out.keep hnq)
              clear hnq
              repeat' (first | go_values | go_skip | go_guarded | go_step | go_upon)
              go_roundg (gk - 1)
              case measure => omega
              case rel =>
                refine ⟨k + 1, S, A, Mp, by go_num, by rw [Htk.out], by omega, Lib.hid ⟨hbt2.out, ?_, Har.out⟩, HB2⟩
                rw [Htk.out]
                exact Hpb.out.in Hin.out
            · have hlc := hl c
              rw [if_neg hin] at hlc
              rw [hlc] at hlk1
              simp only [Option.map_none, Option.getD_none, Option.isSome_none] at hlk1
              have Hin := Lib.hid hin
              clear hlc hin hl
              repeat' (go_not_at_region 13; first | go_values | go_skip | go_guarded | go_step | go_upon)
              refine wp_region_wb (by kernel_rfl) (by kernel_rfl) wr (Below.refl _ _) ?_
              repeat (go_big_quiet_step ((fail)))
              refine wpQuiet_nil ?_
              rintro _ ⟨nq, rfl⟩
              have hnq := nq.2
              clear hlk1 q1
              repeat' (go_not_at_region 16; first | go_values | go_skip | go_guarded | go_step | go_upon)
              have hbt2 := Hbt.out.keep hnq
              have hnd2 := Hnd'.out.keep hnq
              have HB2 := Lib.hid (HB.out.trans (hnq.mono HB.out.size))
              obtain ⟨ws, hws⟩ : ∃ ws, nq.1 = ws := ⟨_, rfl⟩
              rw [hws] at hbt2 hnd2 HB2 ⊢
              have hwB : w.heap.size ≤ ws.heap.size := HB2.out.size
              have hb6 : Below ws.heap.size ws ((ws.alloc (.map #[] 0)).alloc (.cells #[.int .i64 (-1), .map (some ws.heap.size)] 51)) := ((Below.refl _ _).alloc (Nat.le_refl _) _).alloc (by simp) _
              have ha6 : ((ws.alloc (.map #[] 0)).alloc (.cells #[.int .i64 (-1), .map (some ws.heap.size)] 51)).heap[ws.heap.size + 1]? = some (.cells #[.int .i64 (-1), .map (some ws.heap.size)] 51 (0, 0)) := by
                have := Go.heap_alloc_new (ws.alloc (.map #[] 0)) (.cells #[.int .i64 (-1), .map (some ws.heap.size)] 51)
                rw [World.size_alloc] at this
                exact this
              have hm6 : BpAt ((ws.alloc (.map #[] 0)).alloc (.cells #[.int .i64 (-1), .map (some ws.heap.size)] 51)) ws.heap.size [] := (BpAt.new ws).keep ((Below.refl _ _).alloc (Nat.le_refl _) _)
              obtain ⟨w6, hw6⟩ : ∃ w6, (ws.alloc (.map #[] 0)).alloc (.cells #[.int .i64 (-1), .map (some ws.heap.size)] 51) = w6 := ⟨_, rfl⟩
              obtain ⟨a, ha⟩ : ∃ a, ws.heap.size + 1 = a := ⟨_, rfl⟩
              rw [hw6] at hb6 ha6 hm6 ⊢
              rw [ha] at ha6 ⊢
              have hput := fun nz : WB w6 => run_putBp (P := Try.prog) Try.underlying5 Try.underlying49 c a ((hnd2.keep hb6).map.keep nz.2) (by rw [Hl.out c, if_neg Hin.out])
              unfold encB at hput
              rw [Hcn.out] at hput
              have q1 : ∀ nz : WB w6, nz.1.cell? ⟨nd, 1, none⟩ = some (.map (some mp)) := fun nz => by
                rw [cell_of_row nz.1 nd 1 _ _ _ ((hnd2.keep hb6).keep nz.2).box]; rfl
              have Hb6 := Lib.hid hb6
              have Ha6 := Lib.hid ha6
              have Hm6 := Lib.hid hm6
              have Hbt2 := Lib.hid hbt2
              have Hnd2 := Lib.hid hnd2
              have Ha := Lib.hid ha
              clear hnq hws hbt2 hnd2 hb6 ha6 hm6 hw6 ha
              refine wp_region_tail 8 (by kernel_rfl) (by kernel_rfl) w6 (Below.refl _ _) ?_
              simp only [List.take_succ_cons, List.take_zero, List.drop_succ_cons, List.drop_zero]
              repeat (go_big_quiet_step ((fail)))
              refine wpQuiet_nil ?_
              rintro _ ⟨nq, rfl⟩
              have hnq := nq.2
              repeat' (go_not_at_region 17; first | go_values | go_skip | go_guarded | go_step | go_upon)
              have hadd := Hbt2.out.add (c := c) HpS.out Hin.out (by
                refine atW_not fun hm => Hin.out ((Hpb.out _).2 (.inr (.inl ⟨_, hm, List.prefix_refl _⟩)))) hwB (Hb6.out.trans (hnq.mono Hb6.out.size)) (Hm6.out.keep hnq) (Nat.le_refl _) (a := a) (by
                rw [hnq.block _ (Array.getElem?_eq_some_iff.1 Ha6.out).1]; exact Ha6.out) (by have := Ha.out; omega) (l := l) (by
                rw [Hmp.out]; exact (Hnd2.out.keep (Hb6.out.trans (hnq.mono Hb6.out.size))).map) Hl.out
              rw [Hmp.out] at hadd
              have hbw : Below w.heap.size w (Go.ChangeMaps.setBlock nq.1 mp (.map (bpFrom 0 (l ++ [(c, a)])).toArray (l.length + 1))) := below_block (HB2.out.trans ((Hb6.out.trans (hnq.mono Hb6.out.size)).mono hwB)) (by
                have := (Hbt2.out.lo _ HpS.out).2
                rw [Hmp.out] at this
                exact this) ⟨_, _, (Hnd2.out.keep (Hb6.out.trans (hnq.mono Hb6.out.size))).map⟩
              refine gen_wd (fun W => BT w.heap.size W (S ++ [p ++ [c]]) (fun p => atW (words.take i) p) (upd A (p ++ [c]) a) (upd Mp (p ++ [c]) ws.heap.size) ∧ Below w.heap.size w W) ⟨hadd, hbw⟩ ?_
              clear hadd hbw hput q1 hnq
              rintro w7 ⟨h7, hb7⟩
              have H7 := Lib.hid h7
              have HB7 := Lib.hid hb7
              clear h7 hb7
              repeat' (first | go_values | go_skip | go_guarded | go_step | go_upon)
              go_roundg (gk - 1)
              case measure => omega
              case rel =>
                refine ⟨k + 1, S ++ [p ++ [c]], upd A (p ++ [c]) a, upd Mp (p ++ [c]) ws.heap.size, by go_num, by rw [Htk.out, upd_at], by omega, Lib.hid ⟨H7.out, ?_, ?_⟩, HB7⟩
                · rw [Htk.out]
                  exact Hpb.out.out c
                · rw [upd_ne _ _ (by simp)]
                  exact Har.out
          · have hlk' : (X.size : Int) ≤ k := by omega
            obtain ⟨hbt, hpb, har⟩ := HI.out
            have htx : x.take k = x := List.take_of_length_le (by rw [← HXs.out]; omega)
            rw [htx] at hpb ⊢
            have hxS : x ∈ S := (hpb _).2 (.inr (.inr (List.prefix_refl _)))
            obtain ⟨l, hnd, _⟩ := hbt.nd _ hxS
            obtain ⟨nd, hndA⟩ : ∃ nd, A x = nd := ⟨_, rfl⟩
            obtain ⟨z, hz⟩ : ∃ z, atW (words.take i) x = z := ⟨_, rfl⟩
            rw [hndA] at hnd ⊢
            rw [hz] at hnd
            have c5 : wr.cell? ⟨nd, 0, none⟩ = some (.int .i64 z) := by rw [cell_of_row wr nd 0 _ _ _ hnd.box]; rfl
            have f5 : wr.frozen? ⟨nd, 0, none⟩ = false := frozen_of_row _ _ _ _ _ hnd.box
            have Hbt := Lib.hid hbt
            have Hpb := Lib.hid hpb
            have Har := Lib.hid har
            have HxS := Lib.hid hxS
            have HndA := Lib.hid hndA
            have Hz := Lib.hid hz
            clear HI hbt hpb har hxS hnd hndA hz htx
            by_cases hz0 : 0 ≤ z
            · have hdup : ¬ words.Nodup := fun hn => by
                have hin : x ∈ words.take i := Classical.byContradiction fun hx => by
                  have := atW_neg.2 hx
                  rw [Hz.out] at this
                  omega
                rw [← List.take_append_drop i words, List.nodup_append] at hn
                have hxd : x ∈ words.drop i := by
                  rw [List.drop_eq_getElem_cons (List.getElem?_eq_some_iff.1 Hx.out).1, (List.getElem?_eq_some_iff.1 Hx.out).2]
                  simp
                exact hn.2.2 _ hin _ hxd rfl
              have Hdup := Lib.hid hdup
              clear hdup
              repeat' (first | go_values | go_skip | go_guarded | go_step | go_upon)
              refine bodyPost_ret (results_tmp2 rfl _ _ _) rfl ?_
              refine ⟨HB.out, ?_⟩
              rw [if_neg (by rw [Hany.out, ← Hn.out]; simp; omega), if_pos Hdup.out]
              rfl
            · have hz1 : z < 0 := by omega
              have hxn : x ∉ words.take i := atW_neg.1 (by rw [Hz.out]; exact hz1)
              have hnum := Hbt.out.num HxS.out (i : Int)
              rw [HndA.out] at hnum
              have htk : words.take (i + 1) = words.take i ++ [x] := by rw [List.take_add_one, Hx.out]; rfl
              have hln : (words.take i).length = i := by rw [List.length_take]; have := (List.getElem?_eq_some_iff.1 Hx.out).1; omega
              have hsn := atW_snoc hxn
              rw [← htk, hln] at hsn
              rw [← hsn] at hnum
              have Hnum := Lib.hid hnum
              have Htk := Lib.hid htk
              have Hxn := Lib.hid hxn
              clear hz0 hxn hnum htk hln hsn
              repeat' (first | go_values | go_skip | go_guarded | go_step | go_upon)
              go_roundg (gz - 1)
              case measure => omega
              case rel =>
                refine ⟨i + 1, S, A, Mp, by go_num, by omega, Lib.hid ⟨Hnum.out, ?_, ?_, Har.out⟩, Lib.hid (HB.out.setCell (p := ⟨nd, 0, none⟩) (by
                  have := (Hbt.out.lo _ HxS.out).1
                  rw [HndA.out] at this
                  exact this) _)⟩
                · rw [Htk.out]
                  exact Hpb.out.next
                · rw [Htk.out, List.nodup_append]
                  exact ⟨Hnd.out, by simp, fun y hy z hz e => Hxn.out (by rw [List.mem_singleton.1 hz] at e; exact e ▸ hy)⟩
      · have hlt' : (n : Int) ≤ i := by omega
        have hti : words.take i = words := List.take_of_length_le (by rw [← Hn.out]; omega)
        have HI2 := HI.out
        rw [hti] at HI2
        obtain ⟨hbt, hpb, hnd, har⟩ := HI2
        have HT := Lib.hid (hbt.tr hpb)
        have Hnd := Lib.hid hnd
        have Har := Lib.hid har
        clear HI hbt hpb hnd har hti
        repeat' (first | go_values | go_skip | go_guarded | go_step | go_upon)
        refine bodyPost_ret (results_tmp2 rfl _ _ _) rfl ?_
        refine ⟨HB.out, ?_⟩
        rw [if_neg (by rw [Hany.out, ← Hn.out]; simp; omega), if_neg (fun h => h Hnd.out)]
        refine ⟨A, Mp, ?_, HT.out, by rw [Har.out]; exact hrw⟩
        rw [Har.out]
        rfl
end Go.Proofs.Ytndekogkfbhabaa
