/- Walk: the statement VerifyPairs. Condition: a row of merges. -/
import Derived.Test.YtkhggnlanopgkaaTexts13
import Derived.Test.YtkhggnlanopgkaaAppTwo
import Derived.Test.YtkhggnlanopgkaaPairSpec
import Derived.Test.YtkhggnlanopgkaaVerifyTables
namespace Go.Proofs.Ytkhggnlanopgkaa
open Go.RowKit
abbrev pV (gc : Nat) (vk vv : Value) : PV := ⟨.slice (some ⟨gc, 0, none⟩) 1 1, .slice none 0 0, .slice none 0 0, .slice none 0 0, vk, vv⟩
/-- the law's own variables -/
structure PW (w0 : World) (gc : Nat) (S : Int) (ks : List Nat) (k : Nat) (vk vv : Value) (w : World) : Prop where
  bel : Below w0.heap.size w0 w
  gcb : w0.heap.size ≤ gc
  code : w.heap[gc]? = some (.cells (([k2] : List (Nat → Int)).flatMap icL).toArray 39 (0, 0))
  box : PBox w (gc + 1) (pprg S [] []) (pV gc vk vv)
  ko : OwnR u64C 1 w0.heap.size 44 w vk ks
  vo : OwnR u64C 1 w0.heap.size 44 w vv (valL k)
  dis : vk.ownBlock = none ∨ vk.ownBlock ≠ vv.ownBlock
theorem PW.keep {w0 w w' : World} {gc : Nat} {S : Int} {ks : List Nat} {k : Nat} {vk vv : Value} (h : PW w0 gc S ks k vk vv w) (hb : Below w.heap.size w w') : PW w0 gc S ks k vk vv w' :=
  ⟨h.bel.trans (hb.mono h.bel.size), h.gcb, by rw [hb.block gc (Array.getElem?_eq_some_iff.1 h.code).1]; exact h.code, h.box.keep hb, OwnR.keep h.ko hb (Nat.le_refl _), OwnR.keep h.vo hb (Nat.le_refl _), h.dis⟩
/-- numbers beside, one by one -/
structure KeyI (ks : List Nat) (k : Nat) (last : Nat) : Prop where
  len : ks.length = k
  rise : rising ks
  u : ∀ x ∈ ks, x < 18446744073709551616
  last : 0 < k → last = ks.getD (k - 1) 0
theorem KeyI.nil : KeyI [] 0 0 := ⟨rfl, fun a b _ h => by simp at h, fun x h => by simp at h, fun h => absurd h (Nat.lt_irrefl _)⟩
theorem KeyI.add {ks : List Nat} {k last x : Nat} (h : KeyI ks k last) (hx : x < 18446744073709551616) (hl : 0 < k → last < x) : KeyI (ks ++ [x]) (k + 1) x := by
  have hg : ∀ a, a < ks.length → (ks ++ [x]).getD a 0 = ks.getD a 0 := fun a ha => by
    rw [List.getD_eq_getElem?_getD, List.getElem?_append_left ha, ← List.getD_eq_getElem?_getD]
  have hn : (ks ++ [x]).getD ks.length 0 = x := by
    rw [List.getD_eq_getElem?_getD, List.getElem?_append_right (Nat.le_refl _), Nat.sub_self]; rfl
  refine ⟨by rw [List.length_append, h.len]; rfl, fun a b hab hb => ?_, fun y hy => ?_, fun _ => ?_⟩
  · rw [List.length_append, List.length_singleton] at hb
    by_cases hb2 : b < ks.length
    · rw [hg a (by omega), hg b hb2]; exact h.rise a b hab hb2
    · have hbe : b = ks.length := by omega
      subst hbe
      rw [hg a hab, hn]
      have hk0 : 0 < k := by rw [← h.len]; omega
      have h2 := hl hk0
      have h3 := h.last hk0
      by_cases ha : a = ks.length - 1
      · have : a = k - 1 := by rw [← h.len]; exact ha
        rw [this, ← h3]; exact h2
      · have h4 := h.rise a (k - 1) (by rw [← h.len]; omega) (by rw [h.len]; omega)
        omega
  · rcases List.mem_append.1 hy with hy | hy
    · exact h.u y hy
    · simp at hy; rw [hy]; exact hx
  · rw [show k + 1 - 1 = ks.length by rw [h.len]; rfl, hn]
theorem pw_start {w w1 : World} {S : Int} (hb : Below w.heap.size w w1) : PW w w1.heap.size S [] 0 (.slice none 0 0) (.slice none 0 0)
    ((w1.alloc (.cells #[.int .i64 1, .int .i64 0, .int .i64 0, .int .i64 0, .int .i64 0] 39)).alloc (.cells #[.int .i64 0, .int .i64 0, .int .i64 0, .int .i64 S, .slice (some ⟨w1.heap.size, 0, none⟩) 1 1, .slice none 0 0, .slice none 0 0, .slice none 0 0, .slice none 0 0, .slice none 0 0] 30)) := by
  have h := two_new w1 (.cells #[.int .i64 1, .int .i64 0, .int .i64 0, .int .i64 0, .int .i64 0] 39) (.cells #[.int .i64 0, .int .i64 0, .int .i64 0, .int .i64 S, .slice (some ⟨w1.heap.size, 0, none⟩) 1 1, .slice none 0 0, .slice none 0 0, .slice none 0 0, .slice none 0 0, .slice none 0 0] 30)
  exact ⟨(hb.alloc hb.size _).alloc (by have := hb.size; rw [World.size_alloc]; omega) _, hb.size, h.2, h.1, OwnR.nil, OwnR.nil, .inl rfl⟩
theorem key_of (a b : Int) : ∃ key : Nat, bits .or .u64 a b = (key : Int) ∧ key < 18446744073709551616 := by
  have h := bits_within .or .u64 a b
  simp only [IntKind.min, IntKind.max, IntKind.signed, IntKind.bits] at h
  refine ⟨(bits .or .u64 a b).toNat, ?_, ?_⟩
  · have := h.1; simp at this; omega
  · have := h.2; simp at this; omega
theorem val_or (k : Nat) (hk : k < 100) : bits .or .u64 ((k : Int) * 4294967296) (256 + (k : Int)) = ((k * 4294967296 + (256 + k) : Nat) : Int) := by
  have h := u64_or_nat (k * 4294967296) (256 + k) (by omega) (by omega)
  have e1 : ((k * 4294967296 : Nat) : Int) = (k : Int) * 4294967296 := by omega
  have e2 : ((256 + k : Nat) : Int) = 256 + (k : Int) := by omega
  rw [e1, e2] at h
  rw [h]
  congr 1
  rw [show k * 4294967296 = 2 ^ 32 * k by omega]
  exact (Nat.two_pow_add_eq_or_of_lt (i := 32) (b := 256 + k) (by omega) k).symm
theorem u64C_len (x : Nat) : (u64C x).length = 1 := rfl
theorem info_u64p : (Try.prog.info? 44).map (fun i => (i.zero, i.size, i.bytes)) = some (some (.int .u64 0), 1, 8) := by kernel_rfl
theorem PBox.free {w : World} {g : Nat} {p : Prg} {v : PV} (h : PBox w g p v) (k : Nat) : w.frozen? ⟨g, k, none⟩ = false := frozen_of_row _ _ _ _ _ h
theorem OwnR.form_3 {α : Type} {f : α → List Value} {sz B : Nat} {e : TypeId} {w : World} {v : Value} {l : List α} (h : OwnR f sz B e w v l) : ∃ a m c, v = .slice a m c := by
  obtain ⟨a, c, e, _⟩ := h.form
  exact ⟨a, _, c, e⟩
theorem own_other {B : Nat} {w : World} {v : Value} {l : List Nat} {g : Nat} {cs : Array Value} {t : TypeId} {fz : Nat × Nat} (ho : OwnR u64C 1 B 44 w v l) (hc : w.heap[g]? = some (.cells cs t fz)) (ht : t ≠ 44) : v.ownBlock ≠ some g := fun e => by
  obtain ⟨cs', fz', h⟩ := ho.typed e
  rw [hc] at h
  simp at h
  exact ht h.2.1
theorem PW.keyBox {w0 w w' : World} {gc : Nat} {S : Int} {ks : List Nat} {k : Nat} {vk vv : Value} (h : PW w0 gc S ks k vk vv w) {o : Obj} (hg : (w.alloc o).grownBy w' vk.ownBlock) : PBox w' (gc + 1) (pprg S [] []) (pV gc vk vv) :=
  grown_blk hg (h.box.keep ((Below.refl _ _).alloc (Nat.le_refl _) _)) (own_other h.ko h.box (by decide))
theorem PW.valBox {w0 w w' : World} {gc : Nat} {S : Int} {ks : List Nat} {k : Nat} {vk vv : Value} (h : PW w0 gc S ks k vk vv w) {o : Obj} (hg : (w.alloc o).grownBy w' vv.ownBlock) : PBox w' (gc + 1) (pprg S [] []) (pV gc vk vv) :=
  grown_blk hg (h.box.keep ((Below.refl _ _).alloc (Nat.le_refl _) _)) (own_other h.vo h.box (by decide))
theorem box_set8 {w : World} {g gc : Nat} {p : Prg} {vk vv u : Value} (h : PBox w g p (pV gc vk vv)) : PBox (w.setCell ⟨g, 8, none⟩ u) g p (pV gc u vv) := by
  unfold PBox
  rw [setCell_eq_setRow w g 8 _ _ _ u h]
  exact setRow_heap _ _ _ _ _ _ h
theorem box_set9 {w : World} {g gc : Nat} {p : Prg} {vk vv u : Value} (h : PBox w g p (pV gc vk vv)) : PBox (w.setCell ⟨g, 9, none⟩ u) g p (pV gc vk u) := by
  unfold PBox
  rw [setCell_eq_setRow w g 9 _ _ _ u h]
  exact setRow_heap _ _ _ _ _ _ h
theorem own_lt {B : Nat} {w : World} {v : Value} {l : List Nat} (ho : OwnR u64C 1 B 44 w v l) {g : Nat} (h : v.ownBlock = some g) : g < w.heap.size := (ho.below h).2
theorem PW.key {w0 w w' : World} {gc : Nat} {S : Int} {ks : List Nat} {k x : Nat} {vk vv v' : Value} (h : PW w0 gc S ks k vk vv w) {o : Obj} (ho : OwnR u64C 1 w0.heap.size 44 w' v' (ks ++ [x])) (hg : (w.alloc o).grownBy w' vk.ownBlock)
    (hd : v'.ownBlock = vk.ownBlock ∨ ∃ g, v'.ownBlock = some g ∧ w.heap.size ≤ g) : PW w0 gc S (ks ++ [x]) k v' vv (w'.setCell ⟨gc + 1, 8, none⟩ v') := by
  have hb : Below w.heap.size w (w.alloc o) := (Below.refl _ _).alloc (Nat.le_refl _) _
  have hA := h.keep hb
  have hbw : Below w0.heap.size w0 w' := hA.bel.trans (grown_bel hg hA.bel.size fun k hk => (h.ko.below hk).1)
  have hne : vv.ownBlock = none ∨ vv.ownBlock ≠ vk.ownBlock := by
    rcases h.dis with h1 | h1
    · cases h2 : vv.ownBlock with
      | none => exact .inl rfl
      | some g => exact .inr (by rw [h1]; simp)
    · exact .inr h1.symm
  have hv : OwnR u64C 1 w0.heap.size 44 w' vv (valL k) := OwnR.grow hA.vo hg hne
  have hB := h.keyBox hg
  have hcode := grown_blk hg hA.code (own_other h.ko h.code (by decide))
  refine ⟨hbw.setCell (by have := h.gcb; dsimp only; omega) _, h.gcb, ?_, box_set8 hB, ?_, ?_, ?_⟩
  · rw [heap_setCell_other _ _ _ _ (by dsimp only; omega)]; exact hcode
  · exact ho.setOther fun k hk e => own_other ho hB (by decide) (by rw [hk, e])
  · exact hv.setOther fun k hk e => own_other hv hB (by decide) (by rw [hk, e])
  · rcases hd with hd | ⟨g, hd, hgs⟩
    · rw [hd]; exact h.dis
    · refine .inr fun e => ?_
      rw [hd] at e
      have := own_lt h.vo e.symm
      omega
theorem PW.val {w0 w w' : World} {gc : Nat} {S : Int} {ks : List Nat} {k : Nat} {vk vv v' : Value} (h : PW w0 gc S ks k vk vv w) {o : Obj} (ho : OwnR u64C 1 w0.heap.size 44 w' v' (valL k ++ [k * 4294967296 + (256 + k)])) (hg : (w.alloc o).grownBy w' vv.ownBlock)
    (hd : v'.ownBlock = vv.ownBlock ∨ ∃ g, v'.ownBlock = some g ∧ w.heap.size ≤ g) : PW w0 gc S ks (k + 1) vk v' (w'.setCell ⟨gc + 1, 9, none⟩ v') := by
  have hb : Below w.heap.size w (w.alloc o) := (Below.refl _ _).alloc (Nat.le_refl _) _
  have hA := h.keep hb
  have hbw : Below w0.heap.size w0 w' := hA.bel.trans (grown_bel hg hA.bel.size fun k hk => (h.vo.below hk).1)
  have hk : OwnR u64C 1 w0.heap.size 44 w' vk ks := OwnR.grow hA.ko hg h.dis
  have hB := h.valBox hg
  have hcode := grown_blk hg hA.code (own_other h.vo h.code (by decide))
  rw [← valL_succ] at ho
  refine ⟨hbw.setCell (by have := h.gcb; dsimp only; omega) _, h.gcb, ?_, box_set9 hB, ?_, ?_, ?_⟩
  · rw [heap_setCell_other _ _ _ _ (by dsimp only; omega)]; exact hcode
  · exact hk.setOther fun k' hk' e => own_other hk hB (by decide) (by rw [hk', e])
  · exact ho.setOther fun k' hk' e => own_other ho hB (by decide) (by rw [hk', e])
  · rcases hd with hd | ⟨g, hd, hgs⟩
    · rw [hd]; exact h.dis
    · refine .inr fun e => ?_
      rw [hd] at e
      have := own_lt h.ko e
      omega
theorem PW.atP {w0 w : World} {gc : Nat} {S : Int} {ks : List Nat} {n last : Nat} {vk vv : Value} (h : PW w0 gc S ks n vk vv w) (hk : KeyI ks n last) (hS : 0 ≤ S ∧ S ≤ 65536) (hn : n ≤ 100) : PrgAt w (pV gc vk vv) (pprg S ks (valL n)) := by
  have hi0 : I64 0 := i64_small (by decide)
  refine ⟨⟨hi0, hi0, hi0, (i64_small (by omega) : I64 S)⟩, row_own (l := [k2]) icL_len h.code (by show 1 ≤ maxLen; decide), ⟨[], row_nil _ _ _, rfl, fun i t d ht => by simp at ht⟩, row_nil _ _ _, ⟨row_nil _ _ _, h.ko.row, h.vo.row, fun k => by simp [pprg], fun k => ?_, fun k => ?_⟩, fun l hl => by simp [pprg] at hl⟩
  · show U64 (ks.getD k 0)
    by_cases hk' : k < ks.length
    · exact getD_all hk.u hk'
    · rw [List.getD_eq_getElem?_getD, List.getElem?_eq_none (by omega)]; exact u64_small (by decide)
  · show U64 ((valL n).getD k 0)
    by_cases hk' : k < (valL n).length
    · refine getD_all (p := U64) (fun x hx => ?_) hk'
      unfold valL at hx
      obtain ⟨q, hq, rfl⟩ := List.mem_map.1 hx
      have := List.mem_range.1 hq
      unfold U64
      omega
    · rw [List.getD_eq_getElem?_getD, List.getElem?_eq_none (by omega)]; exact u64_small (by decide)
theorem signs_in (s : Int) : 0 ≤ (if 65536 < (if s < 0 then 0 else s) then 65536 else if s < 0 then 0 else s) ∧ (if 65536 < (if s < 0 then 0 else s) then 65536 else if s < 0 then 0 else s) ≤ 65536 := by
  split <;> split <;> omega
set_option maxRecDepth 100000 in
set_option maxHeartbeats 4000000 in
theorem walk_VerifyPairs (v : Value) (l : List (Int × Int)) (s : Int) (w : World) (h : RowOf mgC 2 w v l) :
    Calls Try.prog 5 #[v, .int .i64 s] w fun e w' => e = .returned (.bool true) ∧ Below w.heap.size w w' := by
  have HT := Lib.hid (ref_Texts v l w h)
  obtain ⟨ad, cap, rfl, hcap, hmx, hcell⟩ := h.open mgC_len
  clear h
  obtain ⟨n, hn⟩ : ∃ n, n = l.length := ⟨_, rfl⟩
  have Hn := Lib.hid hn
  rw [← hn] at hcap hcell HT ⊢
  clear hn
  unfold maxLen at hmx
  go_enter Try.func5, Try.ntmps5
  repeat' (first | go_values | go_skip | go_guarded | go_step | go_upon)
  refine Calls.mono HT.out ?_
  rintro _ w1 ⟨⟨u, c, rfl⟩, hb1⟩
  dsimp only
  have B1 := Lib.hid hb1
  clear hb1 HT
  by_cases hc : c = 0
  rotate_left
  · have hcb : (c != 0) = true := by rw [bne_iff_ne]; exact hc
    repeat' (first | go_values | go_skip | go_guarded | go_step | go_upon)
    go_ret
    exact ⟨rfl, B1.out⟩
  by_cases h1 : 100 < n
  · subst hc
    repeat' (first | go_values | go_skip | go_guarded | go_step | go_upon)
    go_ret
    exact ⟨rfl, B1.out⟩
  subst hc
  repeat' (first | go_values | go_skip | go_guarded | go_step | go_upon)
  have hS := signs_in s
  generalize (if 65536 < (if s < 0 then 0 else s) then 65536 else if s < 0 then 0 else s) = S at hS ⊢
  refine gen_wd (PW w w1.heap.size S [] 0 (.slice none 0 0) (.slice none 0 0)) (pw_start B1.out) ?_
  intro wa HA
  have HA := Lib.hid HA
  have hgc := B1.out.size
  generalize w1.heap.size = gc at HA hgc ⊢
  go_loopw [34, 8] (fun s34 s8 wr => ∃ (k last : Nat) (ks : List Nat) (vk vv : Value), s34 = .int .i64 k ∧ s8 = .int .u64 last ∧ k ≤ n ∧ last < 18446744073709551616 ∧ Hid (KeyI ks k last) ∧ Hid (PW w gc S ks k vk vv wr)) (fun s34 _ _ => n - (intOf s34).toNat)
  case atStart => exact ⟨0, 0, [], _, _, rfl, rfl, Nat.zero_le _, by decide, Lib.hid KeyI.nil, HA⟩
  case round =>
    clear HA
    obtain ⟨k, last, ks, vk, vv, rfl, rfl, hk, hlast, HK, H⟩ := hrel
    by_cases hkn : k < n
    · rcases hcell with h0 | ⟨b, off, rfl, hbB, hcell⟩
      · omega
      obtain ⟨c0, c1⟩ := mg_cells hcell k (by rw [← Hn.out]; exact hkn)
      clear hcell
      rw [← H.out.bel.cell (show b < w.heap.size from hbB)] at c0 c1
      generalize (l.getD k (0, 0)).1 = L at c0
      generalize (l.getD k (0, 0)).2 = R at c1
      repeat' (go_not_at_region 10; first | go_values | go_skip | go_guarded | go_step | go_upon)
      have hbx := (Below.refl wr.heap.size wr).alloc (Nat.le_refl _) (.cells #[.int .i64 L, .int .i64 R] 46)
      have HX := Lib.hid (H.out.keep hbx)
      obtain ⟨key, hkey, hkb⟩ := key_of (IntKind.u64.wrap (IntKind.u64.wrap L * 4294967296)) (IntKind.u64.wrap R)
      rw [hkey]
      clear hkey hbx c0 c1 H
      generalize wr.alloc (.cells #[.int .i64 L, .int .i64 R] 46) = wx at HX ⊢
      generalize wr.heap.size = gx at ⊢
      by_cases hkl : 0 < k ∧ key ≤ last
      · have hk0 := hkl.1
        have hk1 := hkl.2
        repeat' (first | go_values | go_skip | go_guarded | go_step | go_upon)
        go_ret
        exact ⟨rfl, HX.out.bel⟩
      · have hks := KeyI.add HK.out hkb (fun h0 => by omega)
        have HK2 := Lib.hid hks
        have hkl' : (k : Int) ≤ 0 ∨ (0 : Int) < k ∧ (last : Int) < key := by omega
        clear hks hkl
        have c8 := HX.out.box.ten.2.2.2.2.2.2.2.2.1
        have hown := HX.out.ko
        have hwB := HX.out.bel.size
        have hkl3 := HK.out.len
        have Hkl3 := Lib.hid hkl3
        clear hkl3
        rcases hkl' with hlt | ⟨hk0, hlt⟩
        all_goals
          repeat' (go_not_at_region 14; first | (at_builtin; go_loud (refine app_two 8 wx.heap.size rfl key u64C_len (by intro y hy; simp [u64C] at hy; subst hy; rfl) Try.underlying26 info_u64p rfl rfl _ _ rfl rfl rfl rfl hown hwB (by rw [Hkl3.out]; omega) (by rw [Hkl3.out]; unfold maxLen; omega) ?_); intro v4 w4 ho4 hg4 hd4; have PB := Lib.hid (HX.out.keyBox hg4); have o8 := PB.out.ten.2.2.2.2.2.2.2.2.1; have f8 := PB.out.free 8; obtain ⟨a4, m4, n4, e4⟩ := ho4.form_3; subst e4) | go_values | go_skip | go_guarded | go_step | go_upon)
          clear o8 f8 c8 PB
          refine gen_wd (PW w gc S (ks ++ [key]) k (.slice a4 m4 n4) vv) (PW.key HX.out ho4 hg4 hd4) ?_
          clear ho4 hg4 hd4 hown hwB HX
          intro wy hY
          have HY := Lib.hid hY
          clear hY
          have c9 := HY.out.box.ten.2.2.2.2.2.2.2.2.2
          have hown := HY.out.vo
          have hwB := HY.out.bel.size
          have hw1 : IntKind.u64.wrap (k : Int) = (k : Int) := by rw [IntKind.wrap_u64]; omega
          have hw2 : IntKind.u64.wrap ((k : Int) * 4294967296) = (k : Int) * 4294967296 := by rw [IntKind.wrap_u64]; omega
          have hw3 : IntKind.u64.wrap (256 + (k : Int)) = 256 + (k : Int) := by rw [IntKind.wrap_u64]; omega
          have hor := val_or k (by omega)
          obtain ⟨z, hz⟩ : ∃ z : Nat, z = k * 4294967296 + (256 + k) := ⟨_, rfl⟩
          rw [← hz] at hor
          have Hz := Lib.hid hz
          clear hz
          repeat' (first | (at_builtin; go_loud (refine app_two 8 wy.heap.size rfl z u64C_len (by intro y hy; simp [u64C] at hy; subst hy; rfl) Try.underlying26 info_u64p rfl rfl _ _ rfl rfl rfl rfl hown hwB (by rw [valL_len]; omega) (by rw [valL_len]; unfold maxLen; omega) ?_); intro v5 w5 ho5 hg5 hd5; have PB := Lib.hid (HY.out.valBox hg5); have o9 := PB.out.ten.2.2.2.2.2.2.2.2.2; have f9 := PB.out.free 9; obtain ⟨a5, m5, n5, e5⟩ := ho5.form_3; subst e5) | go_values | go_skip | go_guarded | go_step | go_upon)
          rw [Hz.out] at ho5
          go_roundw
          case rel => exact ⟨k + 1, key, ks ++ [key], .slice a4 m4 n4, .slice a5 m5 n5, by go_num, rfl, by omega, hkb, HK2, Lib.hid (PW.val HY.out ho5 hg5 hd5)⟩
          case measure => simp [intOf]; omega
    · obtain rfl : n = k := by omega
      have HB := Lib.hid (H.out.box)
      have HA := Lib.hid (ver_Check (pprg S ks (valL n)) (pV gc vk vv) wr (H.out.atP HK.out hS (by omega)))
      have hch := p_check hS.1 hS.2 (n := n) (by omega) HK.out.len HK.out.rise
      obtain ⟨e1, he1⟩ : ∃ s, s = (checkI (pprg S ks (valL n))).1 := ⟨_, rfl⟩
      obtain ⟨e2, he2⟩ : ∃ s, s = (checkI (pprg S ks (valL n))).2 := ⟨_, rfl⟩
      rw [← he1, ← he2] at HA
      rw [show checkI (pprg S ks (valL n)) = (e1, e2) from by rw [he1, he2]] at hch
      have Hch := Lib.hid hch
      clear he1 he2 hch
      have HBw := Lib.hid (H.out.bel)
      clear H HK
      repeat' (first | (with_reducible refine load_pg HB.out _ rfl rfl ?_) | go_values | go_skip | go_guarded | go_step | go_upon)
      refine Calls.mono (HA.out) ?_
      rintro _ w2 ⟨rfl, hb2⟩
      dsimp only
      have B2 := Lib.hid (HBw.out.trans (hb2.mono HBw.out.size))
      have HB2 := Lib.hid (HB.out.keep hb2)
      have c3 : w2.cell? ⟨gc + 1, 3, none⟩ = some (.int .i64 S) := HB2.out.ten.2.2.2.1
      clear hb2 HA HB HBw
      by_cases hn0 : n = 0
      · have e := Hch.out
        rw [if_pos (.inl hn0)] at e
        simp only [Prod.mk.injEq] at e
        obtain ⟨rfl, rfl⟩ := e
        have hnb : ((n : Int) == 0) = true := by rw [hn0]; rfl
        clear Hch
        repeat' (first | go_values | go_skip | go_guarded | go_step | go_upon)
        go_ret
        exact ⟨rfl, B2.out⟩
      · have hnb : ((n : Int) == 0) = false := beq_false_of_ne (by omega)
        by_cases hle : (256 : Int) + n ≤ S
        · have e := Hch.out
          rw [if_pos (.inr hle)] at e
          simp only [Prod.mk.injEq] at e
          obtain ⟨rfl, rfl⟩ := e
          clear Hch
          repeat' (first | go_values | go_skip | go_guarded | go_step | go_upon)
          go_ret
          exact ⟨rfl, B2.out⟩
        · have e := Hch.out
          rw [if_neg (by omega)] at e
          simp only [Prod.mk.injEq] at e
          obtain ⟨rfl, rfl⟩ := e
          have hle' : S < 256 + (n : Int) := by omega
          clear Hch hle
          repeat' (first | go_values | go_skip | go_guarded | go_step | go_upon)
          go_ret
          exact ⟨rfl, B2.out⟩
theorem mgs_of {n : Nat} {xs : List Value} (hn : xs.length = n * 2) (h : ∀ i, i < n → FlatOk [.int .i64, .int .i64] ((xs.drop (i * 2)).take 2)) : ∃ l : List (Int × Int), l.length = n ∧ xs = l.flatMap mgC := by
  obtain ⟨l, h1, h2, _⟩ := chunks (f := mgC) (G := fun _ => True) n xs hn fun i hi => by
    obtain ⟨hl, hc⟩ := h i hi
    generalize (xs.drop (i * 2)).take 2 = cs at hl hc
    match cs, hl with
    | [c0, c1], _ =>
      obtain ⟨z0, rfl, _⟩ := hc 0 _ _ rfl rfl
      obtain ⟨z1, rfl, _⟩ := hc 1 _ _ rfl rfl
      exact ⟨(z0, z1), rfl, trivial⟩
  exact ⟨l, h1, h2⟩
theorem law_VerifyPairs (w : World) (v : Value) (n : Nat) (xs : List Value) (h : RdC w.heap.size 2 w v n xs) (_ : n * 16 ≤ 140737488351232) (hf : ∀ i, i < n → FlatOk [.int .i64, .int .i64] ((xs.drop (i * 2)).take 2)) (a : Int) (_ : I64 a) :
    Calls Try.prog 5 #[v, .int .i64 a] w fun e w' => e = .returned (.bool true) ∧ Below w.heap.size w w' := by
  have hx : xs.length = n * 2 := by obtain ⟨_, _, _, _, _, h, _⟩ := h; exact h
  obtain ⟨l, rfl, rfl⟩ := mgs_of hx hf
  exact walk_VerifyPairs v l a w h
end Go.Proofs.Ytkhggnlanopgkaa
