/- Walk: the classes of sets (set.Classes). Condition: a row of sets. -/
import Derived.Test.YtapanlchnmgkmaaClsParted
import Derived.Test.YtapanlchnmgkmaaOpen
namespace Go.Proofs.Ytapanlchnmgkmaa
open Go.RowKit
abbrev K4 : Type := Nat × Nat × Nat × Nat
def enc4 (a : K4) : Value := .agg #[.int .u64 (a.1 : Nat), .int .u64 (a.2.1 : Nat), .int .u64 (a.2.2.1 : Nat), .int .u64 (a.2.2.2 : Nat)]
def val4 (_ : Nat) : Value := .agg #[]
noncomputable def keyS (p : Nat → Bool) : K4 := (W p 0, W p 1, W p 2, W p 3)
theorem key4 : KeyT Try.prog enc4 23 where
  arr := ⟨4, 22, Try.underlying23⟩
  chk em a w := by unfold enc4; cases em <;> kernel_rfl
  eq a b w := by
    have h := run_eq_ints (P := Try.prog) w 9998 Try.underlying23 Try.underlying22 info_w #[.int .u64 (a.1 : Nat), .int .u64 (a.2.1 : Nat), .int .u64 (a.2.2.1 : Nat), .int .u64 (a.2.2.2 : Nat)] #[.int .u64 (b.1 : Nat), .int .u64 (b.2.1 : Nat), .int .u64 (b.2.2.1 : Nat), .int .u64 (b.2.2.2 : Nat)]
      (fun i => [(a.1 : Int), a.2.1, a.2.2.1, a.2.2.2].getD i 0) (fun i => [(b.1 : Int), b.2.1, b.2.2.1, b.2.2.2].getD i 0)
      (fun i hi => by rcases (by omega : i = 0 ∨ i = 1 ∨ i = 2 ∨ i = 3) with rfl | rfl | rfl | rfl <;> rfl) (fun i hi => by rcases (by omega : i = 0 ∨ i = 1 ∨ i = 2 ∨ i = 3) with rfl | rfl | rfl | rfl <;> rfl)
    have e : (Op.equal 23 (enc4 a) (enc4 b)).run Try.prog w = .ok ((List.range 4).all fun i => [(a.1 : Int), a.2.1, a.2.2.1, a.2.2.2].getD i 0 == [(b.1 : Int), b.2.1, b.2.2.1, b.2.2.2].getD i 0) w := h
    rw [e]
    congr 1
    obtain ⟨a1, a2, a3, a4⟩ := a
    obtain ⟨b1, b2, b3, b4⟩ := b
    rw [Bool.eq_iff_iff]
    simp [List.range, List.range.loop]
    omega
/-- classes, how many, what was seen -/
noncomputable def stepC (s : (Nat → Nat) × Nat × List K4) (p : Nat → Bool) : (Nat → Nat) × Nat × List K4 :=
  if keyS p ∈ s.2.2 then s else (cls (pairK s.1 p), clsN (pairK s.1 p), s.2.2 ++ [keyS p])
noncomputable def stOf (ps : List (Nat → Bool)) : (Nat → Nat) × Nat × List K4 := ps.foldl stepC (fun _ => 0, 1, [])
theorem stOf_snoc (ps : List (Nat → Bool)) (p : Nat → Bool) : stOf (ps ++ [p]) = stepC (stOf ps) p := by unfold stOf; rw [List.foldl_append]; rfl
theorem stepC_old {s : (Nat → Nat) × Nat × List K4} {p : Nat → Bool} (h : findIn (keyS p) 0 s.2.2 ≠ none) : stepC s p = s := by
  unfold stepC; rw [if_pos (Classical.byContradiction fun h' => h (findIn_none.2 h'))]
theorem stepC_new {s : (Nat → Nat) × Nat × List K4} {p : Nat → Bool} (h : findIn (keyS p) 0 s.2.2 = none) : stepC s p = (cls (pairK s.1 p), clsN (pairK s.1 p), s.2.2 ++ [keyS p]) := by
  unfold stepC; rw [if_neg (findIn_none.1 h)]
theorem stepC_good {s : (Nat → Nat) × Nat × List K4} (p : Nat → Bool) (h : ∀ b, b < 256 → s.1 b < 256) (b : Nat) (hb : b < 256) : (stepC s p).1 b < 256 := by
  by_cases hm : keyS p ∈ s.2.2
  · have e : stepC s p = s := by unfold stepC; rw [if_pos hm]
    rw [e]; exact h b hb
  · have e : (stepC s p).1 = cls (pairK s.1 p) := by unfold stepC; rw [if_neg hm]
    rw [e]; exact cls_u8 _ hb
def Good8 (c : Nat → Nat) : Prop := ∀ b, b < 256 → c b < 256
theorem good8_zero : Good8 fun _ => 0 := fun _ _ => Nat.zero_lt_succ _
theorem fold_good : ∀ (ps : List (Nat → Bool)) (s : (Nat → Nat) × Nat × List K4), Good8 s.1 → Good8 (ps.foldl stepC s).1
  | [], _, h => h
  | p :: ps, s, h => fold_good ps (stepC s p) (stepC_good p h)
theorem stOf_good (ps : List (Nat → Bool)) : Good8 (stOf ps).1 := fold_good ps _ good8_zero
/-- a set's cells -/
noncomputable def setC (p : Nat → Bool) : List Value := [.int .u64 (W p 0 : Nat), .int .u64 (W p 1 : Nat), .int .u64 (W p 2 : Nat), .int .u64 (W p 3 : Nat)]
theorem setC_len (p : Nat → Bool) : (setC p).length = 4 := rfl
theorem Row4.cells {w : World} {b off : Nat} {l : List (Nat → Bool)} (h : ∀ (i : Nat) (x : Nat → Bool) (j : Nat), l[i]? = some x → j < 4 → w.cell? ⟨b, off + (i * 4 + j), none⟩ = (setC x)[j]?) (k : Nat) (hk : k < l.length) :
    w.cell? ⟨b, off + k * 4, none⟩ = some (.int .u64 (W (l.getD k (fun _ => false)) 0 : Nat)) ∧ w.cell? ⟨b, off + k * 4 + 1, none⟩ = some (.int .u64 (W (l.getD k (fun _ => false)) 1 : Nat)) ∧
      w.cell? ⟨b, off + k * 4 + 2, none⟩ = some (.int .u64 (W (l.getD k (fun _ => false)) 2 : Nat)) ∧ w.cell? ⟨b, off + k * 4 + 3, none⟩ = some (.int .u64 (W (l.getD k (fun _ => false)) 3 : Nat)) := by
  have hx : l[k]? = some (l.getD k (fun _ => false)) := by rw [List.getD_eq_getElem?_getD, List.getElem?_eq_getElem hk]; rfl
  exact ⟨h k _ 0 hx (by decide), h k _ 1 hx (by decide), h k _ 2 hx (by decide), h k _ 3 hx (by decide)⟩
theorem zero_unit (w : World) : (zeroValue 41).run Try.prog w = .ok (.agg #[]) w := by
  have h : (Try.prog.info? 41).map (fun i => (i.zero, i.size)) = some (some (.agg #[]), 0) := by kernel_rfl
  exact (zero_of_info h).1 w
theorem heap_unitOther {w : World} {b i : Nat} {es : Array MapEntry} {cl : Nat} {o o' : Obj} (hb : w.heap[b]? = some (.map es cl)) (h : w.heap[i]? = some o') (hi : i ≠ b) : (Go.ChangeMaps.setBlock w b o).heap[i]? = some o' := heap_blockOther hb h hi
/-- the variables of set.Classes -/
structure ClW (w0 : World) (c : Nat → Nat) (l : List K4) (w : World) : Prop where
  bel : Below w0.heap.size w0 w
  r : ClsAt w w0.heap.size fun _ => 0
  c : ClsAt w (w0.heap.size + 1) c
  m : MapAt enc4 val4 w (w0.heap.size + 2) l
theorem ClW.step {w0 w w' : World} {c : Nat → Nat} {l : List K4} (h : ClW w0 c l w) (hb : Below w.heap.size w w') : ClW w0 c l w' :=
  ⟨h.bel.trans (hb.mono h.bel.size), h.r.keep hb, h.c.keep hb, h.m.keep hb⟩
theorem ClW.put {w0 w : World} {c : Nat → Nat} {l : List K4} (h : ClW w0 c l w) (a : K4) : ClW w0 c (l ++ [a]) (Go.ChangeMaps.setBlock w (w0.heap.size + 2) (.map (entsFrom enc4 val4 0 (l ++ [a])).toArray (l.length + 1))) :=
  ⟨below_block h.bel (by omega) ⟨_, _, h.m⟩, heap_blockOther h.m h.r (by omega), heap_blockOther h.m h.c (by omega), h.m.put a⟩
theorem ClW.row {w0 w : World} {c d : Nat → Nat} {l : List K4} (h : ClW w0 c l w) : ClW w0 d l (w.setRow (w0.heap.size + 1) (tabC d)) :=
  ⟨Below.row h.bel (by omega) _, by unfold ClsAt; rw [setRow_other _ _ _ _ (by omega)]; exact h.r, h.c.row, by unfold MapAt; rw [setRow_other _ _ _ _ (by omega)]; exact h.m⟩
theorem classes_start (w : World) : ClW w (fun _ => 0) [] (((w.alloc (.cells (tabC fun _ => 0) 30)).alloc (.cells (tabC fun _ => 0) 30)).alloc (.map #[] 0)) := by
  obtain ⟨w1, h1⟩ : ∃ w1, w1 = w.alloc (.cells (tabC fun _ => 0) 30) := ⟨_, rfl⟩
  obtain ⟨w2, h2⟩ : ∃ w2, w2 = w1.alloc (.cells (tabC fun _ => 0) 30) := ⟨_, rfl⟩
  obtain ⟨w3, h3⟩ : ∃ w3, w3 = w2.alloc (.map #[] 0) := ⟨_, rfl⟩
  have b1 : Below w.heap.size w w1 := by rw [h1]; exact (Below.refl _ _).alloc (Nat.le_refl _) _
  have b2 : Below w1.heap.size w1 w2 := by rw [h2]; exact (Below.refl _ _).alloc (Nat.le_refl _) _
  have b3 : Below w2.heap.size w2 w3 := by rw [h3]; exact (Below.refl _ _).alloc (Nat.le_refl _) _
  have s1 : w1.heap.size = w.heap.size + 1 := by rw [h1, World.size_alloc]
  have s2 : w2.heap.size = w.heap.size + 2 := by rw [h2, World.size_alloc, s1]
  have o1 : ClsAt w1 w.heap.size fun _ => 0 := by rw [h1]; exact Go.heap_alloc_new _ _
  have o2 : ClsAt w2 (w.heap.size + 1) fun _ => 0 := by rw [← s1, h2]; exact Go.heap_alloc_new _ _
  have o3 : MapAt enc4 val4 w3 (w.heap.size + 2) ([] : List K4) := by rw [← s2, h3]; exact Go.heap_alloc_new _ _
  subst h3 h2 h1
  exact ⟨(b1.trans (b2.mono b1.size)).trans (b3.mono (by omega)), (o1.keep b2).keep b3, o2.keep b3, o3⟩
theorem take_getS {α : Type} (l : List α) (d : α) (k : Nat) (h : k < l.length) : l.take (k + 1) = l.take k ++ [l.getD k d] := by
  rw [List.take_succ_eq_append_getElem h, List.getD_eq_getElem?_getD, List.getElem?_eq_getElem h]; rfl
set_option maxRecDepth 100000 in
set_option maxHeartbeats 4000000 in
theorem set_Classes (v : Value) (l : List (Nat → Bool)) (w : World) (h : RowOf setC 4 w v l) :
    Calls Try.prog 12 #[v] w fun e w' => e = .returned (.tuple #[.agg (tabC (stOf l).1), .int .i64 ((stOf l).2.1 : Nat)]) ∧ Below w.heap.size w w' := by
  obtain ⟨a, cap, rfl, hcap, hmx, hcell⟩ := h.open setC_len
  have hz := run_zero_cls
  have hzu := zero_unit
  have Hst := Lib.hid (classes_start w)
  have hmm := @run_makeMap Try.prog
  obtain ⟨n, hn⟩ : ∃ n, l.length = n := ⟨_, rfl⟩
  rw [hn] at hcap hcell ⊢
  have Hn := Lib.hid hn; clear hn h
  unfold maxLen at hmx
  obtain ⟨r, hr⟩ : ∃ r, stOf l = r := ⟨_, rfl⟩
  rw [hr]
  have Hr := Lib.hid hr
  clear hr
  go_enter Try.func12, Try.ntmps12
  repeat' (first | go_values | go_skip | go_guarded | go_step | go_upon)
  clear hmm
  generalize ((w.alloc (.cells (tabC fun _ => 0) 30)).alloc (.cells (tabC fun _ => 0) 30)).alloc (.map #[] 0) = w3 at Hst ⊢
  go_loopw [5, 14] (fun s5 s14 wr => ∃ k : Nat, s14 = .int .i64 k ∧ k ≤ n ∧ s5 = .int .i64 ((stOf (l.take k)).2.1 : Nat) ∧ Hid (ClW w (stOf (l.take k)).1 (stOf (l.take k)).2.2 wr)) (fun _ s14 _ => n - (intOf s14).toNat)
  case atStart => exact ⟨0, rfl, Nat.zero_le _, rfl, Hst⟩
  case round =>
    clear Hst
    obtain ⟨k, rfl, hk, rfl, H⟩ := hrel
    by_cases hlt : k < n
    · rcases hcell with h0 | ⟨b, off, rfl, hbB, hcell⟩
      · omega
      obtain ⟨c0, c1, c2, c3⟩ := Row4.cells hcell k (by rw [Hn.out]; exact hlt)
      have Hsn : Hid (stOf (l.take (k + 1)) = stepC (stOf (l.take k)) (l.getD k fun _ => false)) := Lib.hid (by rw [take_getS l (fun _ => false) k (by rw [Hn.out]; exact hlt), stOf_snoc])
      have Hgood := Lib.hid (stOf_good (l.take k))
      clear hcell
      rw [← H.out.bel.cell (show b < w.heap.size from hbB)] at c0 c1 c2 c3
      generalize l.getD k (fun _ => false) = p at c0 c1 c2 c3 Hsn
      generalize stOf (l.take k) = s at H Hsn Hgood ⊢
      obtain ⟨c, m, seen⟩ := s
      dsimp only at H Hgood ⊢
      obtain ⟨wx, hwx⟩ : ∃ wx, wx = wr.alloc (.cells (sc p) 25) := ⟨_, rfl⟩
      obtain ⟨wy, hwy⟩ : ∃ wy, wy = wx.alloc (.cells #[] 41) := ⟨_, rfl⟩
      obtain ⟨ga, hga⟩ : ∃ g, g = wr.heap.size := ⟨_, rfl⟩
      have hbx : Below wr.heap.size wr wx := by rw [hwx]; exact (Below.refl _ _).alloc (Nat.le_refl _) _
      have hby : Below wx.heap.size wx wy := by rw [hwy]; exact (Below.refl _ _).alloc (Nat.le_refl _) _
      have HX := Lib.hid (H.out.step hbx)
      have HY := Lib.hid (HX.out.step hby)
      have Hs : Hid (SetAt wy ga p) := Lib.hid (by
        have h : SetAt wx ga p := by rw [hwx, hga]; exact Go.heap_alloc_new _ _
        exact h.keep hby)
      have hg3 : w.heap.size + 3 ≤ ga := by have := H.out.m.lt; omega
      have hlook := run_look key4 Try.underlying40 zero_unit (keyS p) HX.out.m
      unfold enc4 keyS at hlook
      dsimp only at hlook
      rw [hwx] at hlook
      cases hfi : findIn (keyS p) 0 seen with
      | some j =>
        unfold keyS at hfi
        rw [hfi] at hlook
        dsimp only [Option.map_some, Option.getD_some, Option.isSome_some, val4] at hlook
        have Hold : Hid (stepC (c, m, seen) p = (c, m, seen)) := Lib.hid (stepC_old (by unfold keyS; dsimp only; rw [hfi]; simp))
        clear hfi H HX Hs hg3 hga hbx hby
        repeat' (first | go_values | go_skip | go_guarded | go_step | go_upon)
        rw [← hwx, ← hwy]
        clear hwx hwy hlook
        go_roundw
        case rel => exact ⟨k + 1, by go_num, by omega, by rw [Hsn.out, Hold.out], Lib.hid (by rw [Hsn.out, Hold.out]; exact HY.out)⟩
        case measure => simp [intOf]; omega
      | none =>
        have Hnew : Hid (stepC (c, m, seen) p = (cls (pairK c p), clsN (pairK c p), seen ++ [keyS p])) := Lib.hid (stepC_new hfi)
        have hput := run_put key4 Try.underlying40 (keyS p) HY.out.m hfi
        obtain ⟨wp, hwp⟩ : ∃ wp, wp = Go.ChangeMaps.setBlock wy (w.heap.size + 2) (.map (entsFrom enc4 val4 0 (seen ++ [keyS p])).toArray (seen.length + 1)) := ⟨_, rfl⟩
        have HP := Lib.hid (HY.out.put (keyS p))
        have Hsp : Hid (SetAt wp ga p) := Lib.hid (by rw [hwp]; exact heap_blockOther HY.out.m Hs.out (by omega))
        rw [← hwp] at hput HP
        unfold enc4 val4 keyS at hput
        dsimp only at hput
        unfold keyS at hfi
        rw [hfi] at hlook
        dsimp only [Option.map_none, Option.getD_none, Option.isSome_none] at hlook
        have d0 := (show SetAt wy ga p from Hs.out).c0
        have d1 := (show SetAt wy ga p from Hs.out).c1
        have d2 := (show SetAt wy ga p from Hs.out).c2
        have d3 := (show SetAt wy ga p from Hs.out).c3
        rw [hwy, hwx] at hput d0 d1 d2 d3
        rw [hga] at d0 d1 d2 d3
        have HPt := Lib.hid fun w => set_parted c Hgood.out p w
        generalize cls (pairK c p) = c' at HPt Hnew
        generalize clsN (pairK c p) = m' at HPt Hnew
        generalize keyS p = ks at HP Hnew
        clear hfi H HX HY Hs hbx hby hwp
        repeat' (first | (with_reducible refine load_cls HP.out.c _ rfl rfl ?_) | (rw [← hga]; with_reducible refine load_set1 Hsp.out _ rfl rfl ?_) | go_values | go_skip | go_guarded | go_step | go_upon)
        refine Calls.mono (HPt.out _) ?_
        rintro _ w9 ⟨rfl, hb9⟩
        dsimp only
        have HQ := Lib.hid (HP.out.step hb9)
        clear hb9 HP Hsp d0 d1 d2 d3 hput hlook hwx hwy hga HPt
        repeat' (first | (with_reducible refine store_cls HQ.out.c c' _ _ rfl rfl rfl ?_) | go_values | go_skip | go_guarded | go_step | go_upon)
        go_roundw
        case rel =>
          have e := Hsn.out.trans Hnew.out
          refine ⟨k + 1, by go_num, by omega, ?_, Lib.hid ?_⟩
          · rw [e]
          · rw [e]; exact HQ.out.row
        case measure => simp [intOf]; omega
    · obtain rfl : k = n := by omega
      rw [show l.take k = l from by rw [← Hn.out, List.take_length], Hr.out] at H ⊢
      clear Hr
      obtain ⟨c, m, seen⟩ := r
      dsimp only at H ⊢
      repeat' (first | (with_reducible refine load_cls H.out.c _ rfl rfl ?_) | (with_reducible refine store_cls H.out.r c _ _ rfl rfl rfl ?_) | go_values | go_skip | go_guarded | go_step | go_upon)
      refine bodyPost_ret (v := .tuple #[.agg (tabC c), .int .i64 (m : Nat)]) (results_cls rfl _ _ w.heap.size _ _ rfl rfl H.out.r.row) rfl ⟨rfl, ?_⟩
      exact Below.row H.out.bel (by omega) _
end Go.Proofs.Ytapanlchnmgkmaa
