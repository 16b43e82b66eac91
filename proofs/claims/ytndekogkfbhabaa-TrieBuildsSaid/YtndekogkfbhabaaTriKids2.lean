/- Walk: a node's iterator hands out its kids, bytes rising. Conditions: the node lies so. -/
import Derived.Test.YtndekogkfbhabaaTriMap
import Derived.Test.YtndekogkfbhabaaTriSpec
import Derived.Test.YtndekogkfbhabaaRangeEach
import Derived.Test.YtndekogkfbhabaaTriKids
import Derived.RangeFuncNested
import Derived.RangeFuncBound
import Derived.Shelf.Abstract
import Derived.Shelf.RegionOpen
import Derived.WalkKit
import Derived.OwnWalkIn
import Derived.TacticsInMore
import Derived.LoopNIn
import Derived.LoopIn
namespace Go.Proofs.Ytndekogkfbhabaa
open Go.RowKit Go.Shelf
/-- nodes, maps, and variables that hold nodes -/
def keptO (o : Obj) : Prop := o.isWalk = true ∨ ∃ cs t fz, o = .cells cs t fz ∧ (t = 51 ∨ t = 40)
/-- these stand -/
def KN (W W' : World) : Prop := ∀ (k : Nat) (o : Obj), keptO o → W.heap[k]? = some o → W'.heap[k]? = some o
theorem KN.refl (W : World) : KN W W := fun _ _ _ h => h
theorem KN.trans {A B C : World} (h : KN A B) (h' : KN B C) : KN A C := fun k o ho hk => h' k o ho (h k o ho hk)
theorem KN.put {W : World} {l : Nat} {o o' : Obj} (h : W.heap[l]? = some o) (h1 : o.isCells = false) (h2 : o.isWalk = false) : KN W (W.putObj l o') := fun k p hp hk => by
  by_cases e : k = l
  · subst e
    rw [h] at hk
    obtain rfl := Option.some.inj hk
    rcases hp with hp | ⟨cs, t, fz, rfl, _⟩
    · rw [hp] at h2; cases h2
    · simp [Obj.isCells] at h1
  · rw [World.putObj_heap_other e]; exact hk
theorem KN.of_below {w w' : World} (h : Below w.heap.size w w') : KN w w' := fun k o _ hk => by
  rw [h.block k (Array.getElem?_eq_some_iff.1 hk).1]; exact hk
/-- a node -/
structure NdAt (w : World) (nd : Nat) (n : Int) (mp : Nat) (l : List (UInt8 × Nat)) : Prop where
  box : w.heap[nd]? = some (.cells #[.int .i64 n, .map (some mp)] 51 (0, 0))
  map : BpAt w mp l
theorem NdAt.kn {w w' : World} {nd mp : Nat} {n : Int} {l : List (UInt8 × Nat)} (h : NdAt w nd n mp l) (hk : KN w w') : NdAt w' nd n mp l :=
  ⟨hk _ _ (.inr ⟨_, _, _, rfl, .inl rfl⟩) h.box, hk _ _ (.inl rfl) h.map⟩
/-- a node's kids, bytes rising -/
def kidL (l : List (UInt8 × Nat)) : List (UInt8 × Nat) := bytesU.filterMap fun c => (bpOf l c).map fun q => (c, q)
def kidN (l : List (UInt8 × Nat)) (b : Nat) : Nat := ((bytesU.take b).filterMap fun c => (bpOf l c).map fun q => (c, q)).length
abbrev byN (n : Nat) : UInt8 := u8 n
theorem bytesU_at {b : Nat} (hb : b < 256) : bytesU[b]? = some (byN b) := by
  unfold bytesU
  rw [List.getElem?_map, List.getElem?_range hb]; rfl
theorem bytesU_len : bytesU.length = 256 := by unfold bytesU; rw [List.length_map, List.length_range]
theorem kidN_none {l : List (UInt8 × Nat)} {b : Nat} (hb : b < 256) (h : bpOf l (byN b) = none) : kidN l (b + 1) = kidN l b := by
  unfold kidN
  rw [List.take_add_one, bytesU_at hb, Option.toList_some, List.filterMap_append, List.length_append]
  simp [h]
theorem kidN_some {l : List (UInt8 × Nat)} {b q : Nat} (hb : b < 256) (h : bpOf l (byN b) = some q) : kidN l (b + 1) = kidN l b + 1 ∧ (kidL l)[kidN l b]? = some (u8 b, q) := by
  have h1 : ((bytesU.take (b + 1)).filterMap fun c => (bpOf l c).map fun q => (c, q)) = ((bytesU.take b).filterMap fun c => (bpOf l c).map fun q => (c, q)) ++ [(u8 b, q)] := by
    rw [List.take_add_one, bytesU_at hb, Option.toList_some, List.filterMap_append]
    simp [h]
  refine ⟨by unfold kidN; rw [h1, List.length_append]; rfl, ?_⟩
  have h2 : kidL l = ((bytesU.take (b + 1)).filterMap fun c => (bpOf l c).map fun q => (c, q)) ++ ((bytesU.drop (b + 1)).filterMap fun c => (bpOf l c).map fun q => (c, q)) := by
    unfold kidL
    rw [← List.filterMap_append, List.take_append_drop]
  rw [h2, h1, List.append_assoc, List.getElem?_append_right (by unfold kidN; exact Nat.le_refl _)]
  unfold kidN
  rw [Nat.sub_self]; rfl
theorem kidN_all (l : List (UInt8 × Nat)) : kidN l 256 = (kidL l).length := by
  unfold kidN kidL
  rw [List.take_of_length_le (by rw [bytesU_len]; exact Nat.le_refl _)]
attribute [local go_sem] Oper.semAt_some
set_option maxRecDepth 100000 in
theorem kids_each (bx nd mp : Nat) (n : Int) (l : List (UInt8 × Nat)) (w0 : World) (hb : w0.heap[bx]? = some (.cells #[ptrV nd] 40 (0, 0))) (hn : NdAt w0 nd n mp l) :
    EachIn Try.prog 25 #[.pointer (some ⟨bx, 0, none⟩)] (fun x : UInt8 × Nat => #[encB x.1, ptrV x.2]) KN (kidL l) w0 := by
  intro lp J W hB hY h0
  have hk0 : KN w0 W := KN.of_below hB
  have hbW := hk0 _ _ (.inr ⟨_, _, _, rfl, .inr rfl⟩) hb
  have hnW := hn.kn hk0
  have HbW := Lib.hid hbW
  have HnW := Lib.hid hnW
  have HY := Lib.hid hY
  clear hbW hnW hY hb hn hk0 hB
  refine callsIn_of_wp Try.func25 rfl trivial ?_ rfl
  simp only [Try.ntmps25, List.size_toArray, List.length_cons, List.length_nil, Nat.reduceAdd, Nat.reduceSub, Array.replicate_succ, Array.replicate_zero, List.push_toArray, List.append_toArray, List.nil_append, List.cons_append]
  gi_wp2
  gi_loopw [6] (fun s6 wr => ∃ b : Nat, s6 = .int .i64 b ∧ b ≤ 256 ∧ J (kidN l b) wr ∧ Hid (KN W wr)) (fun s6 _ => 256 - (intOf s6).toNat)
  case atStart => exact ⟨0, rfl, by omega, h0, Lib.hid (KN.refl _)⟩
  case round =>
    obtain ⟨b, rfl, hb, hJ, HK⟩ := hrel
    by_cases hlt : b < 256
    · have hlt' : (b : Int) < 256 := by omega
      have hbw := HK.out _ _ (.inr ⟨_, _, _, rfl, .inr rfl⟩) HbW.out
      have hnw := HnW.out.kn HK.out
      have c1 : wr.cell? ⟨bx, 0, none⟩ = some (ptrV nd) := by rw [cell_of_row wr bx 0 _ _ _ hbw]; rfl
      have c2 : wr.cell? ⟨nd, 1, none⟩ = some (.map (some mp)) := by rw [cell_of_row wr nd 1 _ _ _ hnw.box]; rfl
      have hlk := run_lookBp (P := Try.prog) Try.underlying5 Try.underlying49 (z := .pointer none) (fun _ => Try.zeroValue40 _) (byN b) hnw.map
      have hu : (byN b).toNat = b := u8_toNat_lt hlt
      have hub : IntKind.u8.wrap (b : Int) = b := IntWalk.u8_in b (by omega)
      unfold encB at hlk
      rw [hu] at hlk
      cases hq : bpOf l (byN b) with
      | none =>
        rw [hq] at hlk
        have HJ := Lib.hid (show J (kidN l (b + 1)) wr by rw [kidN_none hlt hq]; exact hJ)
        clear hJ hbw hnw hq hu HY
        simp only [Option.map_none, Option.getD_none, Option.isSome_none] at hlk
        gi_wp2
        refine ⟨fun _ h => (by cases h), ?_⟩
        gi_wp2
        go_roundw
        case rel => exact ⟨b + 1, by go_num, by omega, HJ.out, HK⟩
        case measure => simp [intOf]; omega
      | some q =>
        rw [hq] at hlk
        simp only [Option.map_some, Option.getD_some, Option.isSome_some] at hlk
        obtain ⟨e1, e2⟩ := kidN_some hlt hq
        obtain ⟨fn, tmps, assign, body, hy, hR⟩ := HY.out _ _ _ e2 hJ
        dsimp only [encB] at hy
        rw [hu] at hy
        have He1 := Lib.hid e1
        clear hJ hbw hnw hq hu HY e1 e2
        gi_wp2
        refine hR.mono ?_
        rintro e W' ⟨rfl, hJ', hk⟩
        have HJ := Lib.hid hJ'
        have HK' := Lib.hid (HK.out.trans hk)
        clear hJ' hk hR hy hlk c1 c2
        gi_wp2
        go_roundw
        case rel => exact ⟨b + 1, by go_num, by omega, by rw [He1.out]; exact HJ.out, HK'⟩
        case measure => simp [intOf]; omega
    · obtain rfl : b = 256 := by omega
      have HJ := Lib.hid hJ
      clear hJ HY
      gi_wp2
      go_end0
      exact ⟨⟨_, rfl⟩, by rw [← kidN_all]; exact HJ.out⟩
end Go.Proofs.Ytndekogkfbhabaa
