/- Walk: the statement SetRules. Condition: the table of math/bits.TrailingZeros64 is as it is laid. -/
import Derived.Test.YtapanlchnmgkmaaDoorSetMakes
import Derived.Test.YtapanlchnmgkmaaDoorLex
namespace Go.Proofs.YtapanlchnmgkmaaDoor
open Go.RowKit Bits
/-- three sets in the call's own variables, and the table -/
structure Inv3 (B : Nat) (w0 : World) (p q r : Nat → Bool) (w : World) : Prop where
  bel : Below B w0 w
  h0 : SetAt w B p
  h1 : SetAt w (B + 1) q
  h2 : SetAt w (B + 2) r
  tab : TabAt 0 Lib.deBruijn64tab w
theorem Inv3.step {B : Nat} {w0 w w' : World} {p q r : Nat → Bool} (h : Inv3 B w0 p q r w) (hb : Below w.heap.size w w') : Inv3 B w0 p q r w' :=
  ⟨h.bel.trans (hb.mono (Nat.le_of_lt h.h0.lt)), h.h0.keep hb, h.h1.keep hb, h.h2.keep hb, tab_keep (by decide) h.tab hb⟩
theorem inv_calls {P : Program} {f : FuncId} {args : Array Value} {v : Value} {B : Nat} {w0 w : World} {p q r : Nat → Bool} (h : Inv3 B w0 p q r w) (hc : Calls P f args w fun e w' => e = .returned v ∧ Below w.heap.size w w') :
    Calls P f args w fun e w' => e = .returned v ∧ Inv3 B w0 p q r w' := hc.mono fun _ _ ⟨he, hb⟩ => ⟨he, h.step hb⟩
theorem inv_start (w : World) (p q r : Nat → Bool) (hT : TabAt 0 Lib.deBruijn64tab w) : Inv3 w.heap.size w p q r (((w.alloc (.cells (sc p) 25)).alloc (.cells (sc q) 25)).alloc (.cells (sc r) 25)) := by
  have h0 : SetAt (w.alloc (.cells (sc p) 25)) w.heap.size p := Go.heap_alloc_new _ _
  have h1 : SetAt ((w.alloc (.cells (sc p) 25)).alloc (.cells (sc q) 25)) (w.alloc (.cells (sc p) 25)).heap.size q := Go.heap_alloc_new _ _
  have h2 : SetAt (((w.alloc (.cells (sc p) 25)).alloc (.cells (sc q) 25)).alloc (.cells (sc r) 25)) ((w.alloc (.cells (sc p) 25)).alloc (.cells (sc q) 25)).heap.size r := Go.heap_alloc_new _ _
  rw [World.size_alloc] at h1 h2
  rw [World.size_alloc] at h2
  have hb : Below w.heap.size w (((w.alloc (.cells (sc p) 25)).alloc (.cells (sc q) 25)).alloc (.cells (sc r) 25)) := (((Below.refl _ _).alloc (Nat.le_refl _) _).alloc (by simp) _).alloc (by simp; omega) _
  exact ⟨hb, (h0.keep ((Below.refl _ _).alloc (Nat.le_refl _) _)).keep ((Below.refl _ _).alloc (Nat.le_refl _) _), h1.keep ((Below.refl _ _).alloc (Nat.le_refl _) _), h2, tab_keep (by decide) hT hb⟩
theorem join_as (p q g : Nat → Bool) (h : ∀ b, (p b || q b) = g b) (w : World) : Calls Tryd.prog 14 #[vS p, vS q] w fun e w' => e = .returned (vS g) ∧ Below w.heap.size w w' := by
  have e : (fun b => p b || q b) = g := funext h
  rw [← e]; exact set_Join p q w
theorem meet_as (p q g : Nat → Bool) (h : ∀ b, (p b && q b) = g b) (w : World) : Calls Tryd.prog 15 #[vS p, vS q] w fun e w' => e = .returned (vS g) ∧ Below w.heap.size w w' := by
  have e : (fun b => p b && q b) = g := funext h
  rw [← e]; exact set_Meet p q w
theorem not_as (p g : Nat → Bool) (h : ∀ b, (!p b) = g b) (w : World) : Calls Tryd.prog 16 #[vS p] w fun e w' => e = .returned (vS g) ∧ Below w.heap.size w w' := by
  have e : (fun b => !p b) = g := funext h
  rw [← e]; exact set_Not p w
theorem count_as (p : Nat → Bool) (c : Nat) (h : c = cnt p 256) (w : World) : Calls Tryd.prog 11 #[vS p] w fun e w' => e = .returned (.int .i64 (c : Nat)) ∧ Below w.heap.size w w' := by
  rw [h]; exact set_Count p w
theorem ofL_bytes (p : Nat → Bool) (b : Nat) (hb : b < 256) : ofL ((bytesTo p 256).map u8) b = p b := by
  unfold ofL
  rw [Bool.eq_iff_iff, List.any_eq_true]
  constructor
  · rintro ⟨x, hx, h⟩
    obtain ⟨n, hn, rfl⟩ := List.mem_map.1 hx
    have hn2 := bytesTo_lt hn
    have : b = n := by
      have h' : b = (u8 n).toNat := by simpa using h
      rw [h']; simp [u8]; omega
    subst this
    exact (bytesTo_mem hb).1 hn
  · intro h
    exact ⟨u8 b, List.mem_map.2 ⟨b, (bytesTo_mem hb).2 h, rfl⟩, by simp [u8]; omega⟩
theorem of_set_bytes (p : Nat → Bool) (w : World) : Calls Tryd.prog 5 #[.string ⟨((bytesTo p 256).map u8).toArray⟩] w fun e w' => e = .returned (vS p) ∧ Below w.heap.size w w' := by
  have hl := bytesTo_length p 256
  have h := set_Of ⟨((bytesTo p 256).map u8).toArray⟩ (by rw [size_bytes]; omega) w
  have e : vS (ofL (⟨((bytesTo p 256).map u8).toArray⟩ : ByteArray).data.toList) = vS p := vS_congr fun b hb => by
    have : (⟨((bytesTo p 256).map u8).toArray⟩ : ByteArray).data.toList = (bytesTo p 256).map u8 := by simp
    rw [this]; exact ofL_bytes p b hb
  rw [e] at h
  exact h
theorem cnt_not (p : Nat → Bool) : ∀ n, cnt p n + cnt (fun b => !p b) n = n
  | 0 => rfl
  | n + 1 => by
    have h := cnt_not p n
    have h1 := cnt_add p n 1
    have h2 := cnt_add (fun b => !p b) n 1
    have e : ∀ f : Nat → Bool, cnt f 1 = (f 0).toNat := fun f => by unfold cnt; simp [List.range_succ]; cases f 0 <;> rfl
    rw [e] at h1 h2
    rw [h1, h2]
    cases p (n + 0) <;> simp <;> omega
theorem cnt_both (p q : Nat → Bool) : ∀ n, cnt (fun b => p b || q b) n + cnt (fun b => p b && q b) n = cnt p n + cnt q n
  | 0 => rfl
  | n + 1 => by
    have h := cnt_both p q n
    have h1 := cnt_add p n 1
    have h2 := cnt_add q n 1
    have h3 := cnt_add (fun b => p b || q b) n 1
    have h4 := cnt_add (fun b => p b && q b) n 1
    have e : ∀ f : Nat → Bool, cnt f 1 = (f 0).toNat := fun f => by unfold cnt; simp [List.range_succ]; cases f 0 <;> rfl
    rw [e] at h1 h2 h3 h4
    rw [h1, h2, h3, h4]
    cases p (n + 0) <;> cases q (n + 0) <;> simp <;> omega
set_option maxRecDepth 100000 in
set_option maxHeartbeats 2000000 in
theorem walk_SetRules (p q r : Nat → Bool) (w : World) (hT : TabAt 0 Lib.deBruijn64tab w) :
    Calls Tryd.prog 4 #[vS p, vS q, vS r] w fun e w' => e = .returned (.bool true) ∧ Below w.heap.size w w' := by
  obtain ⟨nj, enj'⟩ : ∃ nj : Nat → Bool, ∀ b, (!(p b || q b)) = nj b := ⟨_, fun _ => rfl⟩
  obtain ⟨mx, emx'⟩ : ∃ mx : Nat → Bool, ∀ b, (p b && (q b || r b)) = mx b := ⟨_, fun _ => rfl⟩
  have enn := fun b => Bool.not_not (p b)
  have e0 := Lib.hid enj'
  have enj := Lib.hid fun b => (show (!p b && !q b) = nj b by rw [← enj' b]; simp)
  have emx := Lib.hid emx'
  have emx2 := Lib.hid fun b => (show ((p b && q b) || (p b && r b)) = mx b by rw [← emx' b]; cases p b <;> simp)
  have e1 := Lib.hid fun b => (show (p b || (p b && q b)) = p b by cases p b <;> simp)
  have e2 := Lib.hid fun b => (show (p b && (p b || q b)) = p b by cases p b <;> simp)
  have ejc := Lib.hid fun b => Bool.or_comm (q b) (p b)
  have Enn := Lib.hid enn
  clear enj' emx' enn
  obtain ⟨c1, ec1⟩ : ∃ c, c = cnt p 256 := ⟨_, rfl⟩
  obtain ⟨c2, ec2⟩ : ∃ c, c = cnt (fun b => !p b) 256 := ⟨_, rfl⟩
  obtain ⟨c3, ec3⟩ : ∃ c, c = cnt (fun b => p b || q b) 256 := ⟨_, rfl⟩
  obtain ⟨c4, ec4⟩ : ∃ c, c = cnt (fun b => p b && q b) 256 := ⟨_, rfl⟩
  obtain ⟨c5, ec5⟩ : ∃ c, c = cnt q 256 := ⟨_, rfl⟩
  have hs1 : c1 + c2 = 256 := by rw [ec1, ec2]; exact cnt_not p 256
  have hs2 : c3 + c4 = c1 + c5 := by rw [ec3, ec4, ec1, ec5]; exact cnt_both p q 256
  have hb1 : ((c1 : Int) + c2 == 256) = true := by simp; omega
  have hb2 : ((c3 : Int) + c4 == (c1 : Int) + c5) = true := by simp; omega
  have l3 : c3 ≤ 256 := by rw [ec3]; exact cnt_le _ _
  have l4 : c4 ≤ 256 := by rw [ec4]; exact cnt_le _ _
  have l5 : c5 ≤ 256 := by rw [ec5]; exact cnt_le _ _
  have l1 : c1 ≤ 256 := by omega
  have l2 : c2 ≤ 256 := by omega
  have Ec1 := Lib.hid ec1; have Ec2 := Lib.hid ec2; have Ec3 := Lib.hid ec3; have Ec4 := Lib.hid ec4; have Ec5 := Lib.hid ec5
  clear ec1 ec2 ec3 ec4 ec5 hs1 hs2
  have H := Lib.hid (inv_start w p q r hT)
  clear hT
  go_enter Tryd.func4, Tryd.ntmps4
  repeat' (first | go_values | go_skip | go_guarded | go_step | go_upon)
  generalize ((w.alloc (.cells (sc p) 25)).alloc (.cells (sc q) 25)).alloc (.cells (sc r) 25) = wr at H ⊢
  have HT := Lib.hid H.out.tab
  have q0 : ∀ nq : WB wr, ∀ k, k < 4 → nq.1.cell? ⟨w.heap.size, k, none⟩ = some (.int .u64 (W p k : Nat)) := fun nq => (H.out.h0.keep nq.2).cell
  have q1 : ∀ nq : WB wr, ∀ k, k < 4 → nq.1.cell? ⟨w.heap.size + 1, k, none⟩ = some (.int .u64 (W q k : Nat)) := fun nq => (H.out.h1.keep nq.2).cell
  have q2 : ∀ nq : WB wr, ∀ k, k < 4 → nq.1.cell? ⟨w.heap.size + 2, k, none⟩ = some (.int .u64 (W r k : Nat)) := fun nq => (H.out.h2.keep nq.2).cell
  simp only [List.append]
  refine wp_region_wb (by kernel_rfl) (lexB_of (by kernel_rfl)) wr (Below.refl _ _) ?_
  iterate 25 (go_big_quiet_step (first | (go_at_call 14; with_reducible exact calls_wb (join_as _ _ p e1.out _)) | (go_at_call 14; with_reducible exact calls_wb (join_as _ _ mx emx2.out _)) | (go_at_call 14; with_reducible exact calls_wb (join_as _ _ (fun b => p b || q b) ejc.out _)) | (go_at_call 14; with_reducible exact calls_wb (set_Join _ _ _)) | (go_at_call 15; with_reducible exact calls_wb (meet_as _ _ nj enj.out _)) | (go_at_call 15; with_reducible exact calls_wb (meet_as _ _ p e2.out _)) | (go_at_call 15; with_reducible exact calls_wb (meet_as _ _ mx emx.out _)) | (go_at_call 15; with_reducible exact calls_wb (set_Meet _ _ _)) | (go_at_call 16; with_reducible exact calls_wb (not_as _ nj e0.out _)) | (go_at_call 16; with_reducible exact calls_wb (not_as _ p Enn.out _)) | (go_at_call 16; with_reducible exact calls_wb (set_Not _ _)) | (go_at_call 9; exact calls_wb (set_Bytes p _ (tab_keep (by decide) HT.out (WB.below _)))) | (go_at_call 5; with_reducible exact calls_wb (of_set_bytes _ _)) | (go_at_call 11; with_reducible exact calls_wb (count_as _ c1 Ec1.out _)) | (go_at_call 11; with_reducible exact calls_wb (count_as _ c2 Ec2.out _)) | (go_at_call 11; with_reducible exact calls_wb (count_as _ c3 Ec3.out _)) | (go_at_call 11; with_reducible exact calls_wb (count_as _ c4 Ec4.out _)) | (go_at_call 11; with_reducible exact calls_wb (count_as _ c5 Ec5.out _))))
  as_aux_lemma =>
    iterate 25 (go_big_quiet_step (first | (go_at_call 14; with_reducible exact calls_wb (join_as _ _ p e1.out _)) | (go_at_call 14; with_reducible exact calls_wb (join_as _ _ mx emx2.out _)) | (go_at_call 14; with_reducible exact calls_wb (join_as _ _ (fun b => p b || q b) ejc.out _)) | (go_at_call 14; with_reducible exact calls_wb (set_Join _ _ _)) | (go_at_call 15; with_reducible exact calls_wb (meet_as _ _ nj enj.out _)) | (go_at_call 15; with_reducible exact calls_wb (meet_as _ _ p e2.out _)) | (go_at_call 15; with_reducible exact calls_wb (meet_as _ _ mx emx.out _)) | (go_at_call 15; with_reducible exact calls_wb (set_Meet _ _ _)) | (go_at_call 16; with_reducible exact calls_wb (not_as _ nj e0.out _)) | (go_at_call 16; with_reducible exact calls_wb (not_as _ p Enn.out _)) | (go_at_call 16; with_reducible exact calls_wb (set_Not _ _)) | (go_at_call 9; exact calls_wb (set_Bytes p _ (tab_keep (by decide) HT.out (WB.below _)))) | (go_at_call 5; with_reducible exact calls_wb (of_set_bytes _ _)) | (go_at_call 11; with_reducible exact calls_wb (count_as _ c1 Ec1.out _)) | (go_at_call 11; with_reducible exact calls_wb (count_as _ c2 Ec2.out _)) | (go_at_call 11; with_reducible exact calls_wb (count_as _ c3 Ec3.out _)) | (go_at_call 11; with_reducible exact calls_wb (count_as _ c4 Ec4.out _)) | (go_at_call 11; with_reducible exact calls_wb (count_as _ c5 Ec5.out _))))
    as_aux_lemma =>
      iterate 20 (go_big_quiet_step (first | (go_at_call 14; with_reducible exact calls_wb (join_as _ _ p e1.out _)) | (go_at_call 14; with_reducible exact calls_wb (join_as _ _ mx emx2.out _)) | (go_at_call 14; with_reducible exact calls_wb (join_as _ _ (fun b => p b || q b) ejc.out _)) | (go_at_call 14; with_reducible exact calls_wb (set_Join _ _ _)) | (go_at_call 15; with_reducible exact calls_wb (meet_as _ _ nj enj.out _)) | (go_at_call 15; with_reducible exact calls_wb (meet_as _ _ p e2.out _)) | (go_at_call 15; with_reducible exact calls_wb (meet_as _ _ mx emx.out _)) | (go_at_call 15; with_reducible exact calls_wb (set_Meet _ _ _)) | (go_at_call 16; with_reducible exact calls_wb (not_as _ nj e0.out _)) | (go_at_call 16; with_reducible exact calls_wb (not_as _ p Enn.out _)) | (go_at_call 16; with_reducible exact calls_wb (set_Not _ _)) | (go_at_call 9; exact calls_wb (set_Bytes p _ (tab_keep (by decide) HT.out (WB.below _)))) | (go_at_call 5; with_reducible exact calls_wb (of_set_bytes _ _)) | (go_at_call 11; with_reducible exact calls_wb (count_as _ c1 Ec1.out _)) | (go_at_call 11; with_reducible exact calls_wb (count_as _ c2 Ec2.out _)) | (go_at_call 11; with_reducible exact calls_wb (count_as _ c3 Ec3.out _)) | (go_at_call 11; with_reducible exact calls_wb (count_as _ c4 Ec4.out _)) | (go_at_call 11; with_reducible exact calls_wb (count_as _ c5 Ec5.out _))))
      as_aux_lemma =>
        iterate 20 (go_big_quiet_step (first | (go_at_call 14; with_reducible exact calls_wb (join_as _ _ p e1.out _)) | (go_at_call 14; with_reducible exact calls_wb (join_as _ _ mx emx2.out _)) | (go_at_call 14; with_reducible exact calls_wb (join_as _ _ (fun b => p b || q b) ejc.out _)) | (go_at_call 14; with_reducible exact calls_wb (set_Join _ _ _)) | (go_at_call 15; with_reducible exact calls_wb (meet_as _ _ nj enj.out _)) | (go_at_call 15; with_reducible exact calls_wb (meet_as _ _ p e2.out _)) | (go_at_call 15; with_reducible exact calls_wb (meet_as _ _ mx emx.out _)) | (go_at_call 15; with_reducible exact calls_wb (set_Meet _ _ _)) | (go_at_call 16; with_reducible exact calls_wb (not_as _ nj e0.out _)) | (go_at_call 16; with_reducible exact calls_wb (not_as _ p Enn.out _)) | (go_at_call 16; with_reducible exact calls_wb (set_Not _ _)) | (go_at_call 9; exact calls_wb (set_Bytes p _ (tab_keep (by decide) HT.out (WB.below _)))) | (go_at_call 5; with_reducible exact calls_wb (of_set_bytes _ _)) | (go_at_call 11; with_reducible exact calls_wb (count_as _ c1 Ec1.out _)) | (go_at_call 11; with_reducible exact calls_wb (count_as _ c2 Ec2.out _)) | (go_at_call 11; with_reducible exact calls_wb (count_as _ c3 Ec3.out _)) | (go_at_call 11; with_reducible exact calls_wb (count_as _ c4 Ec4.out _)) | (go_at_call 11; with_reducible exact calls_wb (count_as _ c5 Ec5.out _))))
        as_aux_lemma =>
          repeat (go_big_quiet_step (first | (go_at_call 14; with_reducible exact calls_wb (join_as _ _ p e1.out _)) | (go_at_call 14; with_reducible exact calls_wb (join_as _ _ mx emx2.out _)) | (go_at_call 14; with_reducible exact calls_wb (join_as _ _ (fun b => p b || q b) ejc.out _)) | (go_at_call 14; with_reducible exact calls_wb (set_Join _ _ _)) | (go_at_call 15; with_reducible exact calls_wb (meet_as _ _ nj enj.out _)) | (go_at_call 15; with_reducible exact calls_wb (meet_as _ _ p e2.out _)) | (go_at_call 15; with_reducible exact calls_wb (meet_as _ _ mx emx.out _)) | (go_at_call 15; with_reducible exact calls_wb (set_Meet _ _ _)) | (go_at_call 16; with_reducible exact calls_wb (not_as _ nj e0.out _)) | (go_at_call 16; with_reducible exact calls_wb (not_as _ p Enn.out _)) | (go_at_call 16; with_reducible exact calls_wb (set_Not _ _)) | (go_at_call 9; exact calls_wb (set_Bytes p _ (tab_keep (by decide) HT.out (WB.below _)))) | (go_at_call 5; with_reducible exact calls_wb (of_set_bytes _ _)) | (go_at_call 11; with_reducible exact calls_wb (count_as _ c1 Ec1.out _)) | (go_at_call 11; with_reducible exact calls_wb (count_as _ c2 Ec2.out _)) | (go_at_call 11; with_reducible exact calls_wb (count_as _ c3 Ec3.out _)) | (go_at_call 11; with_reducible exact calls_wb (count_as _ c4 Ec4.out _)) | (go_at_call 11; with_reducible exact calls_wb (count_as _ c5 Ec5.out _))))
          refine wpQuiet_nil ?_
          rintro _ ⟨nq, rfl⟩
          have hnq := nq.2
          clear q0 q1 q2
          repeat' (first | go_values | go_skip | go_guarded | go_step | go_upon)
          go_ret
          exact ⟨rfl, H.out.bel.trans (hnq.mono H.out.bel.size)⟩
theorem law_SetRules (a0 : Nat) (k0 : U64 a0) (a1 : Nat) (k1 : U64 a1) (a2 : Nat) (k2 : U64 a2) (a3 : Nat) (k3 : U64 a3) (b0 : Nat) (l0 : U64 b0) (b1 : Nat) (l1 : U64 b1) (b2 : Nat) (l2 : U64 b2) (b3 : Nat) (l3 : U64 b3) (c0 : Nat) (m0 : U64 c0) (c1 : Nat) (m1 : U64 c1) (c2 : Nat) (m2 : U64 c2) (c3 : Nat) (m3 : U64 c3) (w : World) (hT : TabAt 0 Lib.deBruijn64tab w) :
    Calls Tryd.prog 4 #[.agg #[.int .u64 a0, .int .u64 a1, .int .u64 a2, .int .u64 a3], .agg #[.int .u64 b0, .int .u64 b1, .int .u64 b2, .int .u64 b3], .agg #[.int .u64 c0, .int .u64 c1, .int .u64 c2, .int .u64 c3]] w fun e w' => e = .returned (.bool true) ∧ Below w.heap.size w w' := by
  have h := walk_SetRules (ofW a0 a1 a2 a3) (ofW b0 b1 b2 b3) (ofW c0 c1 c2 c3) w hT
  unfold vS at h
  rwa [← W_ofW0 a1 a2 a3 k0, ← W_ofW1 a0 a2 a3 k1, ← W_ofW2 a0 a1 a3 k2, ← W_ofW3 a0 a1 a2 k3, ← W_ofW0 b1 b2 b3 l0, ← W_ofW1 b0 b2 b3 l1, ← W_ofW2 b0 b1 b3 l2, ← W_ofW3 b0 b1 b2 l3, ← W_ofW0 c1 c2 c3 m0, ← W_ofW1 c0 c2 c3 m1, ← W_ofW2 c0 c1 c3 m2, ← W_ofW3 c0 c1 c2 m3] at h
end Go.Proofs.YtapanlchnmgkmaaDoor
