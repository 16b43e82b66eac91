/- Walk: the statement LoadBack. Condition: the program lies in memory. -/
import Derived.Test.YtbomloodllddaaaPk50
import Derived.Test.YtbomloodllddaaaPk54
import Derived.Test.YtbomloodllddaaaPk60
namespace Go.Proofs.Ytbomloodllddaaa
open Go.RowKit
theorem wpList_load_pg {ops : Array Oper} {rest : List Oper} {o : Oper} {a : Act} {w : World} {Q : Exit → Act → World → Prop} {g : Nat} {p : Prg} {v : PV} (hs : PBox w g p v) (x : Operand) (ho : o.op = .load 30 x)
    (hx : a.eval x = .pointer (some ⟨g, 0, none⟩)) (hw : Region.wanted o (yielded ops a.tmps) = true) (h : wpList Try.prog ops Q rest (a.put o.dst (pgV p v)) w) : wpList Try.prog ops Q (o :: rest) a w :=
  wpList_step fun K hK => by rw [if_pos hw]; exact load_pg hs x ho hx (hK _ _ h)
theorem PrgO.agr {B : Nat} {w : World} {v : PV} {p : Prg} {c : List (Nat → Int)} (h : PrgO B w v { p with code := c }) (hc : agrL p.code c) : PrgO B w v p := by
  refine ⟨h.num, ?_, h.tabs, h.texts, h.seeds, h.keys, h.vals, h.tl, h.sb, h.kb, h.vb⟩
  have h1 := h.code
  unfold OwnR at h1 ⊢
  rw [agrL_flat _ _ hc, hc.1]
  exact h1
theorem dec_agr {t : List UInt8} {p : Prg} {c : List (Nat → Int)} (ht : t.length ≤ 1000000000000000) (hc : agrL p.code c) (hd : decI t = ({ p with code := c }, 0)) (w : World) :
    Calls Try.prog 13 #[.string ⟨t.toArray⟩] w fun e w' => ∃ v, e = .returned (.tuple #[pgV p v, .int .i64 0]) ∧ PrgO w.heap.size w' v p ∧ Below w.heap.size w w' := by
  refine (load_Decode t ht w).mono ?_
  rintro e w' ⟨v, h1, h2, h3⟩
  rw [hd] at h1 h2
  exact ⟨v, h1, h2.agr hc, h3⟩
theorem seeds_lt {w : World} {vs vk vv : Value} {h : HashP} (H : HashAt w vs vk vv h) : ∀ x ∈ h.seeds, x < 4294967296 := fun x hx => by
  obtain ⟨i, hi, rfl⟩ := List.getElem_of_mem hx
  have := H.sb i
  rwa [List.getD_eq_getElem?_getD, List.getElem?_eq_getElem hi] at this
set_option maxRecDepth 100000 in
set_option maxHeartbeats 2000000 in
theorem law_LoadBack (w : World) (p : Prg) (v : PV) (H : PrgAt w v p) : Calls Try.prog 7 #[pgV p v] w fun e w' => e = .returned (.bool true) ∧ Below w.heap.size w w' := by
  have HH := Lib.hid H
  have HP : Hid (PBox (w.alloc (.cells (pgC p v) 30)) w.heap.size p v) := Lib.hid (PBox.new _ _ _)
  have Hb0 : Hid (Below w.heap.size w (w.alloc (.cells (pgC p v) 30))) := Lib.hid ((Below.refl _ _).alloc (Nat.le_refl _) _)
  have HB := Lib.hid fun w H => load_Encode p v w H
  have Hbad : Hid ((encI p).2 ≠ 0 → (encI p).1 = []) := Lib.hid enc_bad
  have Hlen : Hid ((encI p).2 = 0 → (encI p).1.length ≤ 8500000) := Lib.hid fun h => by obtain ⟨_, _, _, h4⟩ := enc_ok h (hash_u64 H.hash); exact h4
  have Hback : Hid ((encI p).2 = 0 → ∃ c, agrL p.code c ∧ decI (encI p).1 = ({ p with code := c }, 0)) := Lib.hid fun h => enc_back h (hash_u64 H.hash) (seeds_lt H.hash)
  generalize encI p = G at HB Hbad Hlen Hback
  obtain ⟨s, e0⟩ := G
  dsimp only at HB Hbad Hlen Hback
  clear H
  obtain ⟨g1, hg1⟩ : ∃ g, g = w.heap.size := ⟨_, rfl⟩
  by_cases h0 : e0 = 0
  rotate_left
  · have hs := Hbad.out h0
    subst hs
    have e1 : (e0 != 0) = true := by rw [bne_iff_ne]; exact h0
    clear h0 Hbad Hlen Hback hg1
    go_enter Try.func7, Try.ntmps7
    repeat' (first | (with_reducible refine load_pg HP.out _ rfl rfl ?_) | go_values | go_skip | go_guarded | go_step | go_upon)
    refine Calls.mono (HB.out _ (HH.out.keep Hb0.out)) ?_
    rintro _ w2 ⟨rfl, hb2⟩
    dsimp only
    have B2 := Lib.hid (Hb0.out.trans (hb2.mono Hb0.out.size))
    clear hb2 HB
    repeat' (first | go_values | go_skip | go_guarded | go_step | go_upon)
    go_ret
    exact ⟨rfl, B2.out⟩
  subst h0
  obtain ⟨c, hc1, hc2⟩ := Hback.out rfl
  have hsl := Hlen.out rfl
  have HD := Lib.hid fun w => dec_agr (t := s) (p := p) (by omega) hc1 hc2 w
  have HL := Lib.hid fun w => load_LoadD s (p, 0) HD.out (if (checkI p).1 ≠ 0 then (prg0, (checkI p).1) else (p, 0)) (if_neg (c := ((p, (0 : Int)) : Prg × Int).2 ≠ 0) (fun h => h rfl)).symm w
  have HC := Lib.hid fun w H => ver_Check p v w H
  generalize checkI p = ck at HL HC
  obtain ⟨c1, c2⟩ := ck
  dsimp only at HL HC
  clear hc1 hc2 Hbad Hlen Hback
  go_enter Try.func7, Try.ntmps7
  repeat' (first | (with_reducible refine load_pg HP.out _ rfl rfl ?_) | go_values | go_skip | go_guarded | go_step | go_upon)
  refine Calls.mono (HB.out _ (HH.out.keep Hb0.out)) ?_
  rintro _ w2 ⟨rfl, hb2⟩
  dsimp only
  have P2 := Lib.hid (HP.out.keep hb2)
  have B2 := Lib.hid (Hb0.out.trans (hb2.mono Hb0.out.size))
  rw [← hg1] at P2 ⊢
  clear hb2 HB HP Hb0 hg1
  repeat' (first | go_values | go_skip | go_guarded | go_step | go_upon)
  refine Calls.mono (HD.out _) ?_
  rintro _ w3 ⟨v3, rfl, ho3, hb3⟩
  dsimp only
  have hone3 := pgA_one ho3.at'
  have P3 := Lib.hid (P2.out.keep hb3)
  have B3 := Lib.hid (B2.out.trans (hb3.mono B2.out.size))
  have O3 := Lib.hid ho3.at'
  clear ho3 hb3 P2 B2
  repeat' (go_not_at_region 5; first | (with_reducible refine store_new_pg _ _ rfl rfl rfl rfl rfl hone3 ?_) | go_values | go_skip | go_guarded | go_step | go_upon)
  have hb4 : Below w3.heap.size w3 (w3.alloc (.cells (pgC p v3) 30)) := (Below.refl _ _).alloc (Nat.le_refl _) _
  obtain ⟨g3, hg3⟩ : ∃ g, g = w3.heap.size := ⟨_, rfl⟩
  rw [← hg3]
  refine gen_wd (fun W => PBox W g3 p v3 ∧ PrgAt W v3 p ∧ PBox W g1 p v ∧ Below w.heap.size w W) ⟨by rw [hg3]; exact PBox.new _ _ _, O3.out.keep hb4, P3.out.keep hb4, B3.out.trans (hb4.mono B3.out.size)⟩ ?_
  clear O3 P3 B3 hb4 hone3 hg3
  rintro w4 ⟨hq4, hp4, hr4, hb4⟩
  have Q4 := Lib.hid hq4
  have O4 := Lib.hid hp4
  have P4 := Lib.hid hr4
  have B4 := Lib.hid hb4
  clear hq4 hp4 hr4 hb4
  repeat' (first | (with_reducible refine load_pg P4.out _ rfl rfl ?_) | (refine wpList_load_pg Q4.out _ rfl rfl (by rfl) ?_) | go_values | go_skip | go_guarded | go_step | go_upon)
  refine Calls.mono (r25_Like p v v3 _ (HH.out.keep B4.out) O4.out) ?_
  rintro _ w5 ⟨rfl, hb5⟩
  dsimp only
  have P5 := Lib.hid (P4.out.keep hb5)
  have B5 := Lib.hid (B4.out.trans (hb5.mono B4.out.size))
  clear hb5 Q4 O4 P4 B4
  repeat' (first | (with_reducible refine load_pg P5.out _ rfl rfl ?_) | go_values | go_skip | go_guarded | go_step | go_upon)
  refine Calls.mono (HC.out _ (HH.out.keep B5.out)) ?_
  rintro _ w6 ⟨rfl, hb6⟩
  dsimp only
  have P6 := Lib.hid (P5.out.keep hb6)
  have B6 := Lib.hid (B5.out.trans (hb6.mono B5.out.size))
  clear hb6 P5 B5 HC
  repeat' (first | go_values | go_skip | go_guarded | go_step | go_upon)
  by_cases hz : c1 = 0
  · subst hz
    rw [if_neg (by simp)] at HL
    refine Calls.mono (HL.out _) ?_
    rintro _ w7 ⟨v7, rfl, ho7, hb7⟩
    dsimp only
    have hone7 := pgA_one ho7.at'
    have P7 := Lib.hid (P6.out.keep hb7)
    have B7 := Lib.hid (B6.out.trans (hb7.mono B6.out.size))
    have O7 := Lib.hid ho7.at'
    clear ho7 hb7 P6 B6
    repeat' (go_not_at_region 9; first | (with_reducible refine store_new_pg _ _ rfl rfl rfl rfl rfl hone7 ?_) | go_values | go_skip | go_guarded | go_step | go_upon)
    have hb8 : Below w7.heap.size w7 (w7.alloc (.cells (pgC p v7) 30)) := (Below.refl _ _).alloc (Nat.le_refl _) _
    obtain ⟨g7, hg7⟩ : ∃ g, g = w7.heap.size := ⟨_, rfl⟩
    rw [← hg7]
    refine gen_wd (fun W => PBox W g7 p v7 ∧ PrgAt W v7 p ∧ PBox W g1 p v ∧ Below w.heap.size w W) ⟨by rw [hg7]; exact PBox.new _ _ _, O7.out.keep hb8, P7.out.keep hb8, B7.out.trans (hb8.mono B7.out.size)⟩ ?_
    clear O7 P7 B7 hb8 hone7 hg7
    rintro w8 ⟨hq8, hp8, hr8, hb8⟩
    have Q8 := Lib.hid hq8
    have O8 := Lib.hid hp8
    have P8 := Lib.hid hr8
    have B8 := Lib.hid hb8
    clear hq8 hp8 hr8 hb8
    repeat' (first | (with_reducible refine load_pg P8.out _ rfl rfl ?_) | (refine wpList_load_pg Q8.out _ rfl rfl (by rfl) ?_) | go_values | go_skip | go_guarded | go_step | go_upon)
    refine Calls.mono (r25_Like p v v7 _ (HH.out.keep B8.out) O8.out) ?_
    rintro _ w9 ⟨rfl, hb9⟩
    dsimp only
    have B9 := Lib.hid (B8.out.trans (hb9.mono B8.out.size))
    clear hb9 Q8 O8 P8 B8
    repeat' (first | go_values | go_skip | go_guarded | go_step | go_upon)
    go_ret
    exact ⟨rfl, B9.out⟩
  · rw [if_pos hz] at HL
    have e1 : (c1 != 0) = true := by rw [bne_iff_ne]; exact hz
    clear hz
    refine Calls.mono (HL.out _) ?_
    rintro _ w7 ⟨v7, rfl, ho7, hb7⟩
    dsimp only
    have hone7 := pgA_one ho7.at'
    have B7 := Lib.hid (B6.out.trans (hb7.mono B6.out.size))
    obtain ⟨a7, c7, hv7, _, _⟩ := ho7.code.form
    clear ho7 hb7 P6 B6
    repeat' (go_not_at_region 9; first | (with_reducible refine store_new_pg _ _ rfl rfl rfl rfl rfl hone7 ?_) | go_values | go_skip | go_guarded | go_step | go_upon)
    refine gen_wd (fun W => PBox W w7.heap.size prg0 v7 ∧ Below w.heap.size w W) ⟨PBox.new _ _ _, B7.out.trans ((Below.refl _ _).alloc B7.out.size _)⟩ ?_
    clear B7 hone7
    rintro w8 ⟨hq8, hb8⟩
    have B8 := Lib.hid hb8
    have k4 : w8.cell? ⟨w7.heap.size, 4, none⟩ = some (.slice a7 0 c7) := by rw [hq8.cell 4]; exact congrArg some hv7
    clear hq8 hb8 hv7
    repeat' (first | go_values | go_skip | go_guarded | go_step | go_upon)
    go_ret
    exact ⟨rfl, B8.out⟩
end Go.Proofs.Ytbomloodllddaaa
