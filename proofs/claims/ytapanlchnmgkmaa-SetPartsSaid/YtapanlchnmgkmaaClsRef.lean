/- Walks: the reference's classes (P5.3). Condition: a row of sets. -/
import Derived.Test.YtapanlchnmgkmaaClsLaw
namespace Go.Proofs.Ytapanlchnmgkmaa
open Go.RowKit
theorem sig_at (ps : List (Nat → Bool)) (b : Nat) (k : Nat) (hk : k < ps.length) : ps.getD k (fun _ => false) b = (sig ps b)[k]'(by unfold sig; rw [List.length_map]; exact hk) := by
  unfold sig; rw [List.getElem_map, List.getD_eq_getElem?_getD, List.getElem?_eq_getElem hk]; rfl
theorem sig_ne {ps : List (Nat → Bool)} {b c k : Nat} (hk : k < ps.length) (h : ps.getD k (fun _ => false) b ≠ ps.getD k (fun _ => false) c) : sig ps b ≠ sig ps c := fun e => h (by rw [sig_at ps b k hk, sig_at ps c k hk]; simp [e])
theorem sig_take {ps : List (Nat → Bool)} {b c k : Nat} (hk : k < ps.length) (h : ps.getD k (fun _ => false) b = ps.getD k (fun _ => false) c) (ht : sig (ps.take k) b = sig (ps.take k) c) : sig (ps.take (k + 1)) b = sig (ps.take (k + 1)) c := by
  rw [take_getS ps (fun _ => false) k hk, sig_snoc, sig_snoc, ht, h]
set_option maxRecDepth 100000 in
set_option maxHeartbeats 4000000 in
theorem ref_alike (v : Value) (ps : List (Nat → Bool)) (b c : Nat) (hb : b < 256) (hc : c < 256) (w : World) (h : RowOf setC 4 w v ps) :
    Calls Try.prog 20 #[v, .int .u8 b, .int .u8 c] w fun e w' => e = .returned (.bool (decide (sig ps b = sig ps c))) ∧ Below w.heap.size w w' := by
  obtain ⟨a, cap, rfl, hcap, hmx, hcell⟩ := h.open setC_len
  obtain ⟨n, hn⟩ : ∃ n, ps.length = n := ⟨_, rfl⟩
  rw [hn] at hcap hcell ⊢
  have Hn := Lib.hid hn; clear hn h
  unfold maxLen at hmx
  go_enter Try.func20, Try.ntmps20
  repeat' (first | go_values | go_skip | go_guarded | go_step | go_upon)
  go_loopw [11] (fun s11 wr => ∃ k : Nat, s11 = .int .i64 k ∧ k ≤ n ∧ Hid (sig (ps.take k) b = sig (ps.take k) c) ∧ Hid (Below w.heap.size w wr)) (fun s11 _ => n - (intOf s11).toNat)
  case atStart => exact ⟨0, rfl, Nat.zero_le _, Lib.hid rfl, Lib.hid (Below.refl _ _)⟩
  case round =>
    obtain ⟨k, rfl, hk, Hs, Hb⟩ := hrel
    by_cases hlt : k < n
    · rcases hcell with h0 | ⟨bb, off, rfl, hbB, hcell⟩
      · omega
      obtain ⟨c0, c1, c2, c3⟩ := Row4.cells hcell k (by rw [Hn.out]; exact hlt)
      have Hne := Lib.hid fun h => sig_ne (ps := ps) (b := b) (c := c) (k := k) (by rw [Hn.out]; exact hlt) h
      have Htk := Lib.hid fun h => sig_take (ps := ps) (b := b) (c := c) (k := k) (by rw [Hn.out]; exact hlt) h Hs.out
      clear hcell Hs
      rw [← Hb.out.cell (show bb < w.heap.size from hbB)] at c0 c1 c2 c3
      generalize ps.getD k (fun _ => false) = p at c0 c1 c2 c3 Hne Htk
      obtain ⟨ga, hga⟩ : ∃ g, g = wr.heap.size := ⟨_, rfl⟩
      obtain ⟨wx, hwx⟩ : ∃ wx, wx = wr.alloc (.cells (sc p) 25) := ⟨_, rfl⟩
      have Hsx : Hid (SetAt wx ga p) := Lib.hid (by rw [hwx, hga]; exact Go.heap_alloc_new _ _)
      have Hbx : Hid (Below w.heap.size w wx) := Lib.hid (by rw [hwx]; exact Hb.out.alloc Hb.out.size _)
      repeat' (first | go_values | go_skip | go_guarded | go_step | go_upon)
      rw [← hwx, ← hga]
      clear hwx hga c0 c1 c2 c3 Hb
      have q0 : ∀ nq : WB wx, ∀ k, k < 4 → nq.1.cell? ⟨ga, k, none⟩ = some (.int .u64 (W p k : Nat)) := fun nq => (Hsx.out.keep nq.2).cell
      have HRb := Lib.hid fun w => ref_Has p b hb w
      have HRc := Lib.hid fun w => ref_Has p c hc w
      generalize p b = pb at HRb Hne Htk
      generalize p c = pc at HRc Hne Htk
      refine wp_region_wb (by kernel_rfl) (by kernel_rfl) wx (Below.refl _ _) ?_
      repeat (go_big_quiet_step ((first | (go_at_call 17; with_reducible exact calls_wb (HRb.out _)) | (go_at_call 17; with_reducible exact calls_wb (HRc.out _)))))
      refine wpQuiet_nil ?_
      rintro _ ⟨nq, rfl⟩
      have hnq := nq.2
      clear q0
      have Hbn := Lib.hid (Hbx.out.trans (hnq.mono Hbx.out.size))
      clear Hbx Hsx hnq HRb HRc
      rcases pb with _ | _ <;> rcases pc with _ | _
      · repeat' (first | go_values | go_skip | go_guarded | go_step | go_upon)
        go_roundw
        case rel => exact ⟨k + 1, by go_num, hlt, Lib.hid (Htk.out rfl), Hbn⟩
        case measure => simp [intOf]; omega
      · have Hd : Hid (decide (sig ps b = sig ps c) = false) := Lib.hid (by simpa using Hne.out (by decide))
        clear Hne Htk
        repeat' (first | go_values | go_skip | go_guarded | go_step | go_upon)
        go_ret
        exact ⟨ret_b Hd.out.symm, Hbn.out⟩
      · have Hd : Hid (decide (sig ps b = sig ps c) = false) := Lib.hid (by simpa using Hne.out (by decide))
        clear Hne Htk
        repeat' (first | go_values | go_skip | go_guarded | go_step | go_upon)
        go_ret
        exact ⟨ret_b Hd.out.symm, Hbn.out⟩
      · repeat' (first | go_values | go_skip | go_guarded | go_step | go_upon)
        go_roundw
        case rel => exact ⟨k + 1, by go_num, hlt, Lib.hid (Htk.out rfl), Hbn⟩
        case measure => simp [intOf]; omega
    · obtain rfl : k = n := by omega
      have Hd : Hid (decide (sig ps b = sig ps c) = true) := Lib.hid (by have := Hs.out; rw [← Hn.out, List.take_length] at this; simpa using this)
      clear Hs
      repeat' (first | go_values | go_skip | go_guarded | go_step | go_upon)
      go_ret
      exact ⟨ret_b Hd.out.symm, Hb.out⟩
/-- where the key was found, below 0: nowhere -/
def fk (o : Option Nat) : Int := match o with | some j => (j : Int) | none => -1
def fillS (f : Nat → List Bool) (k b : Nat) : Nat := if b < k then cls f b else 0
theorem fillS_next (f : Nat → List Bool) (k b : Nat) : fillS f (k + 1) b = if b = k then cls f k else fillS f k b := by
  unfold fillS
  by_cases h : b = k
  · subst h; simp
  · have : (b < k + 1) = (b < k) := by apply propext; omega
    simp [h, this]
theorem own_form {B : Nat} {e : TypeId} {k : IntKind} {w : World} {v : Value} {l : List Int} (h : OwnI B e k w v l) : ∃ a cap, v = .slice a l.length cap ∧ l.length ≤ cap ∧ cap ≤ maxLen ∧ (l.length = 0 ∨ ∃ g, a = some ⟨g, 0, none⟩ ∧ g < w.heap.size ∧ B ≤ g ∧ ∀ i, i < l.length → w.cell? ⟨g, i, none⟩ = (l.map (Value.int k))[i]?) := by
  rcases h.2 with ⟨rfl, h0⟩ | ⟨g, cap, cur, fz, rfl, hB, hg, hf, hn, hm, hcs, ht⟩
  · exact ⟨none, 0, by rw [h0], by omega, Nat.zero_le _, .inl h0⟩
  · refine ⟨_, cap, rfl, hn, hm, .inr ⟨g, rfl, (Array.getElem?_eq_some_iff.1 hg).1, hB, fun i hi => ?_⟩⟩
    exact OwnC.cell h i (by omega)
/-- the variables of the reference's Classes -/
structure RW (w0 : World) (c : Nat → Nat) (w : World) : Prop where
  bel : Below w0.heap.size w0 w
  r : ClsAt w w0.heap.size fun _ => 0
  o : ClsAt w (w0.heap.size + 1) c
theorem RW.step {w0 w w' : World} {c : Nat → Nat} (h : RW w0 c w) (hb : Below w.heap.size w w') : RW w0 c w' := ⟨h.bel.trans (hb.mono h.bel.size), h.r.keep hb, h.o.keep hb⟩
theorem RW.stepB {w0 w w' : World} {c : Nat → Nat} (h : RW w0 c w) (hb : Below (w0.heap.size + 2) w w') : RW w0 c w' :=
  ⟨h.bel.trans (hb.mono (by omega)), by unfold ClsAt; rw [hb.block _ (by omega)]; exact h.r, by unfold ClsAt; rw [hb.block _ (by omega)]; exact h.o⟩
theorem RW.store {w0 w : World} {c d : Nat → Nat} (h : RW w0 c w) {k : Nat} (hk : k < 256) {x : Nat} (hd : ∀ b, b < 256 → d b = if b = k then x else c b) : RW w0 d (w.setCell ⟨w0.heap.size + 1, k, none⟩ (.int .u8 (x : Int))) :=
  ⟨h.bel.setCell (by dsimp only; omega) _, heap_cellOther h.r (by omega), h.o.put hk hd⟩
theorem ref_start (w : World) : RW w (fun _ => 0) (((w.alloc (.cells (tabC fun _ => 0) 30)).alloc (.cells (tabC fun _ => 0) 30))) := by
  obtain ⟨w1, h1⟩ : ∃ w1, w1 = w.alloc (.cells (tabC fun _ => 0) 30) := ⟨_, rfl⟩
  obtain ⟨w2, h2⟩ : ∃ w2, w2 = w1.alloc (.cells (tabC fun _ => 0) 30) := ⟨_, rfl⟩
  have b1 : Below w.heap.size w w1 := by rw [h1]; exact (Below.refl _ _).alloc (Nat.le_refl _) _
  have b2 : Below w1.heap.size w1 w2 := by rw [h2]; exact (Below.refl _ _).alloc (Nat.le_refl _) _
  have s1 : w1.heap.size = w.heap.size + 1 := by rw [h1, World.size_alloc]
  have o1 : ClsAt w1 w.heap.size fun _ => 0 := by rw [h1]; exact Go.heap_alloc_new _ _
  have o2 : ClsAt w2 (w.heap.size + 1) fun _ => 0 := by rw [← s1, h2]; exact Go.heap_alloc_new _ _
  subst h2 h1
  exact ⟨b1.trans (b2.mono b1.size), o1.keep b2, o2⟩
set_option maxRecDepth 100000 in
set_option maxHeartbeats 4000000 in
theorem ref_Classes (v : Value) (ps : List (Nat → Bool)) (w : World) (h : RowOf setC 4 w v ps) :
    Calls Try.prog 13 #[v] w fun e w' => e = .returned (.tuple #[.agg (tabC (cls (sig ps))), .int .i64 (clsN (sig ps) : Nat)]) ∧ Below w.heap.size w w' := by
  have hz := run_zero_cls
  have Hst := Lib.hid (ref_start w)
  have Hal := Lib.hid fun w' (hb : Below w.heap.size w w') b c hb' hc' => ref_alike v ps b c hb' hc' w' (h.keep hb)
  clear h
  obtain ⟨f, hf⟩ : ∃ f, f = sig ps := ⟨_, rfl⟩
  rw [← hf]
  rw [← hf] at Hal
  clear hf
  go_enter Try.func13, Try.ntmps13
  repeat' (first | (with_reducible refine store_cls Hst.out.o (fun _ => 0) _ _ rfl rfl rfl ?_) | go_values | go_skip | go_guarded | go_step | go_upon)
  obtain ⟨ws, hws⟩ : ∃ ws, ws = ((w.alloc (.cells (tabC fun _ => 0) 30)).alloc (.cells (tabC fun _ => 0) 30)).setRow (w.heap.size + 1) (tabC fun _ => 0) := ⟨_, rfl⟩
  have HR : Hid (RW w (fillS f 0) ws) := Lib.hid (by
    have e : fillS f 0 = fun _ => 0 := by funext b; simp [fillS]
    rw [hws, e]
    exact ⟨Below.row Hst.out.bel (by omega) _, by unfold ClsAt; rw [setRow_other _ _ _ _ (by omega)]; exact Hst.out.r, Hst.out.o.row⟩)
  have hs2 : w.heap.size + 2 ≤ ws.heap.size := by have := HR.out.o.lt; omega
  have hb0 : Below ws.heap.size ws (ws.alloc (.cells #[] 5)) := (Below.refl _ _).alloc (Nat.le_refl _) _
  have HR0 := Lib.hid (HR.out.step hb0)
  have hsz : ws.heap.size = w.heap.size + 1 + 1 := by rw [hws]; simp
  have HL0 : Hid (OwnI (w.heap.size + 2) 5 .u8 (ws.alloc (.cells #[] 5)) (.slice (some ⟨w.heap.size + 1 + 1, 0, none⟩) 0 0) (ints [])) := Lib.hid (by
    have h := OwnI.lit (B := w.heap.size + 2) (e := 5) (k := .u8) ws [] hs2 0 rfl (by decide)
    have h2 : OwnI (w.heap.size + 2) 5 .u8 (ws.alloc (.cells #[] 5)) (.slice (some ⟨ws.heap.size, 0, none⟩) 0 0) ([] : List Int) := by simpa using h
    rw [hsz] at h2
    exact h2)
  clear hsz
  rw [← hws]
  clear hws Hst HR hb0
  go_loopw [5, 6] (fun s5 s6 wr => ∃ (b : Nat) (L : List Nat), s6 = .int .i64 b ∧ b ≤ 256 ∧ Hid (L.map f = keysTo f b) ∧ Hid (∀ x ∈ L, x < 256) ∧ Hid (OwnI (w.heap.size + 2) 5 .u8 wr s5 (ints L)) ∧ Hid (RW w (fillS f b) wr)) (fun _ s6 _ => 256 - (intOf s6).toNat)
  case atStart => exact ⟨0, [], rfl, Nat.zero_le _, Lib.hid rfl, Lib.hid (fun x hx => by simp at hx), HL0, HR0⟩
  case round =>
    clear HL0 HR0 hs2
    obtain ⟨b, L, rfl, hb, HK, HL, Ho, HR⟩ := hrel
    obtain ⟨ad, cap, hform, hcap, hmx, hcell⟩ := own_form Ho.out
    have hil : (ints L).length = L.length := by simp [ints]
    rw [hil] at hform hcap hcell
    subst hform
    unfold maxLen at hmx
    have hLk : L.length = (keysTo f b).length := by rw [← HK.out, List.length_map]
    have hLb : L.length ≤ b := by rw [hLk]; exact keysTo_len f b
    have HLk := Lib.hid hLk
    obtain ⟨n, hn⟩ : ∃ n, L.length = n := ⟨_, rfl⟩
    rw [hn] at hcap hcell hLb ⊢
    have Hn := Lib.hid hn
    clear hLk hil hn
    by_cases hb2 : b < 256
    · repeat' (first | go_values | go_skip | go_guarded | go_step | go_upon)
      go_loopw [7, 18] (fun s7 s18 wi => ∃ i : Nat, s18 = .int .i64 i ∧ i ≤ n ∧ s7 = .int .i64 (fk (findIn (f b) 0 ((L.take i).map f))) ∧ Hid (OwnI (w.heap.size + 2) 5 .u8 wi (.slice ad n cap) (ints L)) ∧ Hid (RW w (fillS f b) wi)) (fun _ s18 _ => n - (intOf s18).toNat)
      case atStart => exact ⟨0, rfl, Nat.zero_le _, rfl, by rw [← Hn.out] at *; exact Ho, HR⟩
      case round =>
        obtain ⟨i, rfl, hi, rfl, Hoi, HRi⟩ := hrel
        by_cases hin : i < n
        · rcases hcell with h0 | ⟨g, rfl, hgl, hgB, _⟩
          · omega
          obtain ⟨x, hx⟩ : ∃ x, x = L[i]'(by rw [Hn.out]; exact hin) := ⟨_, rfl⟩
          have hx256 : x < 256 := HL.out x (by rw [hx]; exact List.getElem_mem _)
          have hcx : wr.cell? ⟨g, i, none⟩ = some (.int .u8 (x : Int)) := by
            have h := Hoi.out
            unfold OwnI at h
            have hl2 : (ints L).length = n := by simp [ints, Hn.out]
            rw [hl2] at h
            rw [OwnC.cell h i (by omega)]
            simp [ints, hx, Hn.out, hin]
          have htk : (L.take (i + 1)).map f = (L.take i).map f ++ [f x] := by rw [List.take_succ_eq_append_getElem (by rw [Hn.out]; exact hin), List.map_append, hx]; rfl
          cases hfi : findIn (f b) 0 ((L.take i).map f) with
          | some j =>
            have hnx := findIn_append [f x] hfi
            rw [← htk] at hnx
            have Hnx := Lib.hid hnx
            have hj : ¬ (j : Int) < 0 := by omega
            clear hfi htk hx hnx
            unfold fk
            dsimp only
            repeat' (first | go_values | go_skip | go_guarded | go_step | go_upon)
            go_roundw
            case rel => exact ⟨i + 1, by go_num, hin, by rw [Hnx.out], Hoi, HRi⟩
            case measure => simp [intOf]; omega
          | none =>
            have hm := findIn_none.1 hfi
            have HC := Lib.hid fun w' hb' => Hal.out w' hb' b x hb2 hx256
            by_cases he : f b = f x
            · have hnx : findIn (f b) 0 ((L.take (i + 1)).map f) = some i := by
                rw [htk, ← he, findIn_new hm]
                simp [Hn.out]; omega
              have Hnx := Lib.hid hnx
              have hd : decide (f b = f x) = true := by simpa using he
              rw [hd] at HC
              clear hfi htk hx hnx hm hd he
              unfold fk
              dsimp only
              repeat' (first | go_values | go_skip | go_guarded | go_step | go_upon)
              refine Calls.mono (HC.out _ HRi.out.bel) ?_
              rintro _ w7 ⟨rfl, hb7⟩
              dsimp only
              have Ho7 := Lib.hid (OwnC.keep Hoi.out hb7 (Nat.le_refl _))
              have HR7 := Lib.hid (HRi.out.step hb7)
              clear hb7
              repeat' (first | go_values | go_skip | go_guarded | go_step | go_upon)
              go_roundw
              case rel => exact ⟨i + 1, by go_num, hin, by rw [Hnx.out], Ho7, HR7⟩
              case measure => simp [intOf]; omega
            · have hnx : findIn (f b) 0 ((L.take (i + 1)).map f) = none := by
                rw [htk]
                exact findIn_none.2 (by simp only [List.mem_append, List.mem_singleton]; exact fun h => h.elim hm he)
              have Hnx := Lib.hid hnx
              have hd : decide (f b = f x) = false := by simpa using he
              rw [hd] at HC
              clear hfi htk hx hnx hm hd he
              unfold fk
              dsimp only
              repeat' (first | go_values | go_skip | go_guarded | go_step | go_upon)
              refine Calls.mono (HC.out _ HRi.out.bel) ?_
              rintro _ w7 ⟨rfl, hb7⟩
              dsimp only
              have Ho7 := Lib.hid (OwnC.keep Hoi.out hb7 (Nat.le_refl _))
              have HR7 := Lib.hid (HRi.out.step hb7)
              clear hb7
              repeat' (first | go_values | go_skip | go_guarded | go_step | go_upon)
              go_roundw
              case rel => exact ⟨i + 1, by go_num, hin, by rw [Hnx.out], Ho7, HR7⟩
              case measure => simp [intOf]; omega
        · obtain rfl : i = n := by omega
          have hta : L.take i = L := by rw [← Hn.out, List.take_length]
          rw [hta, HK.out]
          have hcn := fillS_next f b
          cases hfi : findIn (f b) 0 (keysTo f b) with
          | some j =>
            have hco := cls_old f hb2 hfi
            rw [hco.1] at hcn
            have hjb := findIn_bound hfi
            have hj256 : j < 256 := by rw [← HLk.out, Hn.out] at hjb; omega
            have Hco := Lib.hid hco.2
            have Hcn := Lib.hid hcn
            have hj : ¬ (j : Int) < 0 := by omega
            have hcc := HRi.out.o.cell hb2
            have hff := HRi.out.o.free b
            generalize fillS f b b = z at hcc
            clear hfi hco hcn hjb hta
            unfold fk
            dsimp only
            repeat' (first | go_values | go_skip | go_guarded | go_step | go_upon)
            go_roundw
            case rel => exact ⟨b + 1, L, by go_num, by omega, Lib.hid (by rw [Hco.out]; exact HK.out), HL, Lib.hid (OwnC.block Hoi.out fun k hk => by rw [heap_setCell_other _ _ _ _ (by have := (OwnC.lt Hoi.out k hk).1; dsimp only; omega)]), Lib.hid (HRi.out.store hb2 fun c _ => Hcn.out c)⟩
            case measure => simp [intOf]; omega
          | none =>
            have hco := cls_new f hb2 hfi
            rw [hco.1, ← HLk.out, Hn.out] at hcn
            have Hco := Lib.hid hco.2
            have Hcn := Lib.hid hcn
            clear hfi hco hcn hta
            have hown := Hoi.out
            have hwB : w.heap.size + 2 ≤ wr.heap.size := by have := HRi.out.o.lt; omega
            have hll : (ints L).length ≤ 256 := by simp [ints, Hn.out]; omega
            unfold fk
            dsimp only
            repeat' (first | (at_builtin; go_loud (refine app_ints (w.heap.size + 2) 1 [_] Try.underlying44 info_b (by decide) rfl _ _ rfl rfl rfl rfl rfl hown hwB (by omega) ?_); intro v3 w3 hown3 hb3 _; have hcc := (HRi.out.stepB hb3).o.cell hb2; have hff := (HRi.out.stepB hb3).o.free b) | go_values | go_skip | go_guarded | go_step | go_upon)
            go_roundw
            case rel => exact ⟨b + 1, L ++ [b], by go_num, by omega, Lib.hid (by rw [Hco.out, List.map_append, HK.out]; rfl), Lib.hid (fun x hx => (List.mem_append.1 hx).elim (HL.out x) fun h => by simp at h; omega), Lib.hid (by
              rw [ints_snoc]
              exact OwnC.block hown3 fun k hk => by rw [heap_setCell_other _ _ _ _ (by have := (OwnC.lt hown3 k hk).1; dsimp only; omega)]), Lib.hid ((HRi.out.stepB hb3).store hb2 fun c _ => Hcn.out c)⟩
            case measure => simp [intOf]; omega
    · obtain rfl : b = 256 := by omega
      have Hc : Hid (ClsAt wr (w.heap.size + 1) (cls f)) := Lib.hid (HR.out.o.as fun c hc => by unfold fillS; rw [if_pos hc])
      have Hr := Lib.hid HR.out.r
      have Hbl := Lib.hid HR.out.bel
      have Hnn : Hid ((n : Int) = (clsN f : Nat)) := Lib.hid (by rw [← Hn.out, HLk.out]; rfl)
      obtain ⟨cf, hcf⟩ : ∃ cf, cf = cls f := ⟨_, rfl⟩
      obtain ⟨cn, hcn⟩ : ∃ cn, cn = clsN f := ⟨_, rfl⟩
      rw [← hcf] at Hc
      rw [← hcn] at Hnn
      have Hcf := Lib.hid hcf; have Hcn := Lib.hid hcn
      clear hcf hcn HR HLk HK
      repeat' (first | (with_reducible refine load_cls Hc.out _ rfl rfl ?_) | (with_reducible refine store_cls Hr.out cf _ _ rfl rfl rfl ?_) | go_values | go_skip | go_guarded | go_step | go_upon)
      rw [← Hcf.out, ← Hcn.out, ← Hnn.out]
      refine bodyPost_ret (v := .tuple #[.agg (tabC cf), .int .i64 (n : Int)]) (results_cls rfl _ _ w.heap.size _ _ rfl rfl Hr.out.row) rfl ⟨rfl, ?_⟩
      exact Below.row Hbl.out (by omega) _
end Go.Proofs.Ytapanlchnmgkmaa
