/- Walk: the statement LoadReads. Condition: a text of at most 2^47 bytes. -/
import Derived.Test.YtbomloodllddaaaPk48
import Derived.Test.YtbomloodllddaaaPk44
import Derived.Test.YtbomloodllddaaaPk33
namespace Go.Proofs.Ytbomloodllddaaa
open Go.RowKit
theorem store_new_pgR {o : Oper} {a : Act} {w : World} {K : Act → World → Prop} {Q : Exit → Act → World → Prop} (x y : Operand) {old : Array Value} {p : Prg} {v : PV} (ho : o.op = .store 30 x y) (hd : o.dst = none)
    (hx : a.eval x = .pointer (some ⟨w.heap.size, 0, none⟩)) (hy : a.eval y = pgV p v) (hold : old.size = 10) (h1 : (pgC p v).all (·.oneCell') = true)
    (h : K a (w.alloc (.cells (pgC p v) 30))) : o.wp Try.prog a (w.alloc (.cells old 30)) K Q :=
  wp_store_row 30 x y ho w.heap.size (pgC p v) hx hy 30 old (Go.heap_alloc_new _ _) info_pg hold h1 (by rw [alloc_setRowD, show a.put o.dst undef = a from by rw [hd]; rfl]; exact h)
theorem pgA_oneR {w : World} {v : PV} {p : Prg} (h : PrgAt w v p) : (pgC p v).all (·.oneCell') = true := by
  obtain ⟨ac, cc, at', ct, ax, cx, as', cs, ak, ck, av, cv, hv⟩ := h.forms
  exact pg_one p v ⟨_, _, _, _, _, _, _, _, _, _, _, _, _, _, _, _, _, _, hv⟩
theorem wpList_load_pgR {ops : Array Oper} {rest : List Oper} {o : Oper} {a : Act} {w : World} {Q : Exit → Act → World → Prop} {g : Nat} {p : Prg} {v : PV} (hs : PBox w g p v) (x : Operand) (ho : o.op = .load 30 x)
    (hx : a.eval x = .pointer (some ⟨g, 0, none⟩)) (hw : Region.wanted o (yielded ops a.tmps) = true) (h : wpList Try.prog ops Q rest (a.put o.dst (pgV p v)) w) : wpList Try.prog ops Q (o :: rest) a w :=
  wpList_step fun K hK => by rw [if_pos hw]; exact load_pg hs x ho hx (hK _ _ h)
set_option maxRecDepth 100000 in
set_option maxHeartbeats 2000000 in
theorem walk_LoadReads (s : List UInt8) (w : World) :
    Calls Try.prog 4 #[.string ⟨s.toArray⟩] w fun e w' => e = .returned (.bool true) ∧ Below w.heap.size w w' := by
  have hsz := arr_size s
  by_cases h1 : 20000 < s.length
  · have h2 : (20000 : Int) < s.length := by omega
    go_enter Try.func4, Try.ntmps4
    repeat' (first | go_values | go_skip | go_guarded | go_step | go_upon)
    go_ret
    exact ⟨rfl, Below.refl _ _⟩
  have h2 : ¬ (20000 : Int) < s.length := by omega
  have HA := Lib.hid (load_Decode s (by omega))
  have HB := Lib.hid (r25_Decode s (by omega))
  clear h1
  generalize decI s = D at HA HB
  obtain ⟨p, f⟩ := D
  dsimp only at HA HB
  go_enter Try.func4, Try.ntmps4
  repeat' (first | go_values | go_skip | go_guarded | go_step | go_upon)
  refine Calls.mono (HA.out _) ?_
  rintro _ w3 ⟨v3, rfl, ho3, hb3⟩
  dsimp only
  have hone3 := pgA_oneR ho3.at'
  have B3 := Lib.hid hb3
  have O3 := Lib.hid ho3.at'
  clear ho3 hb3 HA
  repeat' (go_not_at_region 4; first | (with_reducible refine store_new_pgR _ _ rfl rfl rfl rfl rfl hone3 ?_) | go_values | go_skip | go_guarded | go_step | go_upon)
  have hb4 : Below w3.heap.size w3 (w3.alloc (.cells (pgC p v3) 30)) := (Below.refl _ _).alloc (Nat.le_refl _) _
  obtain ⟨g3, hg3⟩ : ∃ g, g = w3.heap.size := ⟨_, rfl⟩
  rw [← hg3]
  refine gen_wd (fun W => PBox W g3 p v3 ∧ PrgAt W v3 p ∧ Below w.heap.size w W) ⟨by rw [hg3]; exact PBox.new _ _ _, O3.out.keep hb4, B3.out.trans (hb4.mono B3.out.size)⟩ ?_
  clear O3 B3 hb4 hone3 hg3
  rintro w4 ⟨hq4, hp4, hb4⟩
  have Q4 := Lib.hid hq4
  have O4 := Lib.hid hp4
  have B4 := Lib.hid hb4
  clear hq4 hp4 hb4
  repeat' (first | go_values | go_skip | go_guarded | go_step | go_upon)
  refine Calls.mono (HB.out _) ?_
  rintro _ w5 ⟨v5, rfl, ho5, hb5⟩
  dsimp only
  have hone5 := pgA_oneR ho5.at'
  have Q5 := Lib.hid (Q4.out.keep hb5)
  have P5 := Lib.hid (O4.out.keep hb5)
  have B5 := Lib.hid (B4.out.trans (hb5.mono B4.out.size))
  have O5 := Lib.hid ho5.at'
  clear ho5 hb5 HB Q4 O4 B4
  repeat' (go_not_at_region 5; first | (with_reducible refine store_new_pgR _ _ rfl rfl rfl rfl rfl hone5 ?_) | go_values | go_skip | go_guarded | go_step | go_upon)
  have hb6 : Below w5.heap.size w5 (w5.alloc (.cells (pgC p v5) 30)) := (Below.refl _ _).alloc (Nat.le_refl _) _
  obtain ⟨g5, hg5⟩ : ∃ g, g = w5.heap.size := ⟨_, rfl⟩
  rw [← hg5]
  refine gen_wd (fun W => PBox W g5 p v5 ∧ PrgAt W v5 p ∧ PBox W g3 p v3 ∧ PrgAt W v3 p ∧ Below w.heap.size w W) ⟨by rw [hg5]; exact PBox.new _ _ _, O5.out.keep hb6, Q5.out.keep hb6, P5.out.keep hb6, B5.out.trans (hb6.mono B5.out.size)⟩ ?_
  clear O5 Q5 P5 B5 hb6 hone5 hg5
  rintro w6 ⟨hq6, hp6, hq3, hp3, hb6⟩
  have Q6 := Lib.hid hq6
  have O6 := Lib.hid hp6
  have Q3 := Lib.hid hq3
  have O3 := Lib.hid hp3
  have B6 := Lib.hid hb6
  clear hq6 hp6 hq3 hp3 hb6
  repeat' (first | (with_reducible refine load_pg Q3.out _ rfl rfl ?_) | (refine wpList_load_pgR Q3.out _ rfl rfl (by rfl) ?_) | (with_reducible refine load_pg Q6.out _ rfl rfl ?_) | (refine wpList_load_pgR Q6.out _ rfl rfl (by rfl) ?_) | go_values | go_skip | go_guarded | go_step | go_upon)
  refine Calls.mono (r25_Like p v3 v5 _ O3.out O6.out) ?_
  rintro _ w7 ⟨rfl, hb7⟩
  dsimp only
  have B7 := Lib.hid (B6.out.trans (hb7.mono B6.out.size))
  clear hb7 Q3 Q6 O3 O6 B6
  repeat' (first | go_values | go_skip | go_guarded | go_step | go_upon)
  go_ret
  exact ⟨rfl, B7.out⟩
theorem law_LoadReads (w : World) (s : ByteArray) (_ : s.size ≤ 140737488351232) :
    Calls Try.prog 4 #[.string s] w fun e w' => e = .returned (.bool true) ∧ Below w.heap.size w w' := by
  obtain ⟨t, rfl⟩ := ba_list s
  exact walk_LoadReads t w
end Go.Proofs.Ytbomloodllddaaa
