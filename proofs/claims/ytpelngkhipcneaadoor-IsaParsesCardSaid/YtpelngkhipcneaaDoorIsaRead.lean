/- Walk: a line is read (isa.read). Conditions: the line is of at most 262144 bytes; the library's variables are as they are laid. -/
import Derived.Test.YtpelngkhipcneaaDoorIsaTab
import Derived.Deep.RegionHeld
namespace Go.Proofs.YtpelngkhipcneaaDoor
open Go.RowKit
/-- what is so while operations are tried -/
structure RQ (w0 : World) (gp : Nat) (ps : List (List UInt8)) (w : World) : Prop where
  bel : Below w0.heap.size w0 w
  res : InsAt w w0.heap.size (fun _ => 0)
  par : w.heap[gp]? = some (.cells (ptC ps) 9 (0, 0))
  lo : w0.heap.size < gp
theorem RQ.step {w0 w w' : World} {gp : Nat} {ps : List (List UInt8)} (h : RQ w0 gp ps w) (hb : Below w.heap.size w w') : RQ w0 gp ps w' :=
  ⟨h.bel.trans (hb.mono h.bel.size), h.res.keep hb, by rw [hb.block gp (Array.getElem?_eq_some_iff.1 h.par).1]; exact h.par, h.lo⟩
theorem RQ.lt {w0 w : World} {gp : Nat} {ps : List (List UInt8)} (h : RQ w0 gp ps w) : gp < w.heap.size := (Array.getElem?_eq_some_iff.1 h.par).1
theorem RQ.cell {w0 w : World} {gp : Nat} {ps : List (List UInt8)} (h : RQ w0 gp ps w) (k : Nat) (hk : k < ps.length) : w.cell? ⟨gp, k, none⟩ = some (.string ⟨(ps.getD k []).toArray⟩) := by
  rw [cell_of_row w gp k _ _ _ h.par]
  simp [List.getD, List.getElem?_eq_getElem hk]
theorem RQ.iter {w0 w : World} {gp kk k : Nat} {ps : List (List UInt8)} {s : ByteArray} (h : RQ w0 gp ps w) (hk : w.heap[kk]? = some (.stringIter s k)) (hB : w0.heap.size ≤ kk) (k' : Nat) : RQ w0 gp ps (w.iterAt kk s k') :=
  ⟨Lib.below_iterAt h.bel hB _ _, h.res.iter hk _, by rw [Lib.iterAt_other w kk gp s k' (fun e => by subst e; have := h.par; rw [hk] at this; cases this)]; exact h.par, h.lo⟩
theorem RQ.other {w0 w : World} {gp g k : Nat} {ps : List (List UInt8)} {x : Value} (h : RQ w0 gp ps w) (hB : w0.heap.size < g) (hg : g ≠ gp) : RQ w0 gp ps (w.setCell ⟨g, k, none⟩ x) :=
  ⟨h.bel.setCell (Nat.le_of_lt hB) _, h.res.other (by omega), by rw [heap_setCell_other _ _ _ _ (by dsimp only; omega)]; exact h.par, h.lo⟩
/-- does an operation fit a line's parts? -/
def fits (ps : List (List UInt8)) (o : Nat) : Prop := 1 ≤ o ∧ o ≤ 17 ∧ ps.headD [] = (wrd o).map u8 ∧ ps.length = (letr o).length + 1
theorem fits_line {s : List UInt8} {x : Nat → Int} (h : okI x = true) (hs : lineL x = s) : fits (spl 32 s) (x 0).toNat := by
  obtain ⟨o, h0, h1, h2, h3, h4, _⟩ := line_parts h hs
  rw [h0, Int.toNat_natCast]
  exact ⟨h1, h2, h3, h4⟩
theorem fits_one {ps : List (List UInt8)} {a b : Nat} (ha : fits ps a) (hb : fits ps b) : a = b := wrd_inj ha.1 ha.2.1 hb.1 hb.2.1 (ha.2.2.1.symm.trans hb.2.2.1)
theorem spl_len (c : UInt8) : ∀ (l : List UInt8) (k : Nat), ((spl c l).getD k []).length ≤ l.length
  | [], k => by cases k <;> simp [spl]
  | b :: l, k => by
    have ih := spl_len c l
    unfold spl
    split
    · cases k with
      | zero => simp
      | succ k => have := ih k; simp only [List.getD_cons_succ, List.length_cons]; omega
    · cases k with
      | zero =>
        have := ih 0
        rw [← spl_ht] at this
        simp only [List.getD_cons_zero, List.length_cons] at this ⊢; omega
      | succ k =>
        have := ih (k + 1)
        rw [← spl_ht] at this
        simp only [List.getD_cons_succ, List.length_cons] at this ⊢; omega
/-- what an instruction that is read in part has to do with one whose line it is -/
def KI (s : List UInt8) (lt : List Nat) (j : Nat) (u : Nat → Int) : Prop := ∀ x, okI x = true → lineL x = s → u 0 = x 0 ∧ (∀ y ∈ lt.take j, u (pos y) = x (pos y)) ∧ ∀ i, i ≠ 0 → i ∉ (lt.take j).map pos → u i = 0
theorem KI_start {s : List UInt8} {k : Nat} (h : fits (spl 32 s) k) : KI s (letr k) 0 (opI (k : Int)) := fun x hx hs => by
  have e := fits_one h (fits_line hx hs)
  have := okI_op hx
  refine ⟨by simp [opI]; omega, fun y hy => by simp at hy, fun i hi _ => by simp [opI, hi]⟩
theorem KI_step {s : List UInt8} {k j : Nat} {u : Nat → Int} {n : Int} (h : KI s (letr k) j u) (hj : j < (letr k).length) (hn : ∀ x, okI x = true → lineL x = s → n = x (pos (letr k)[j])) : KI s (letr k) (j + 1) (upd u (pos (letr k)[j]) n) := fun x hx hs => by
  obtain ⟨h0, h1, h2⟩ := h x hx hs
  have hp := pos_ge (letr k)[j]
  have hnd := letr_nodup k
  have htk : (letr k).take (j + 1) = (letr k).take j ++ [(letr k)[j]] := List.take_succ_eq_append_getElem hj
  have hni : pos (letr k)[j] ∉ ((letr k).take j).map pos := by
    have e : (letr k).map pos = (((letr k).take j).map pos ++ [pos (letr k)[j]]) ++ ((letr k).drop (j + 1)).map pos := by
      rw [← List.map_singleton, ← List.map_append, ← htk, ← List.map_append, List.take_append_drop]
    rw [e] at hnd
    have := (List.nodup_append.1 hnd).1
    have := (List.nodup_append.1 this).2.2
    exact fun hm => this _ hm _ (by simp) rfl
  refine ⟨by unfold upd; rw [if_neg (by omega)]; exact h0, fun y hy => ?_, fun i hi hm => ?_⟩
  · rw [htk] at hy
    rcases List.mem_append.1 hy with hy | hy
    · have : pos y ≠ pos (letr k)[j] := fun e => hni (by rw [← e]; exact List.mem_map_of_mem hy)
      unfold upd; rw [if_neg this]; exact h1 y hy
    · simp only [List.mem_singleton] at hy
      subst hy
      unfold upd; rw [if_pos rfl]; exact hn x hx hs
  · rw [htk, List.map_append, List.mem_append, not_or] at hm
    have : i ≠ pos (letr k)[j] := fun e => hm.2 (by simp [e])
    unfold upd; rw [if_neg this]; exact h2 i hi hm.1
theorem KI_end {s : List UInt8} {k : Nat} {u x : Nat → Int} (hf : fits (spl 32 s) k) (h : KI s (letr k) (letr k).length u) (hx : okI x = true) (hs : lineL x = s) : agr u x := by
  obtain ⟨h0, h1, h2⟩ := h x hx hs
  have e := fits_one hf (fits_line hx hs)
  have hx2 := (okI_iff x).1 hx
  rw [List.take_length] at h1 h2
  rw [← e] at hx2
  apply agr_of
  intro j hj
  by_cases hj0 : j = 0
  · subst hj0; exact h0
  · by_cases hm : j ∈ (letr k).map pos
    · obtain ⟨y, hy, rfl⟩ := List.mem_map.1 hm
      exact h1 y hy
    · rw [h2 j hj0 hm, hx2.2.2 j (by omega) (by omega) hm]
theorem results_insb {fn : Func} {p q : Tmp} (h : fn.results = #[.cell p 49, .tmp q]) (tmps : Array Value) (w : World) (g : Nat) (c : Nat → Int) (v : Value) (hp : tmps.getD p undef = .pointer (some ⟨g, 0, none⟩)) (hq : tmps.getD q undef = v) (hs : InsAt w g c) :
    (results fn tmps).run Tryd.prog w = .ok (.tuple #[vI c, v]) w := by
  have hp' : tmps[p]?.getD undef = .pointer (some ⟨g, 0, none⟩) := by simpa using hp
  have hq' : tmps[q]?.getD undef = v := by simpa using hq
  simp [results, h, hp', hq', asAddr, run_loadVar_row w g 49 49 (ic c) (0, 0) _ hs Tryd.underlying49 rfl info_ins]
abbrev put5 (w : World) (g : Nat) (u : Nat → Int) : World := ((((w.setCell ⟨g, 0, none⟩ (.int .i64 (u 0))).setCell ⟨g, 1, none⟩ (.int .i64 (u 1))).setCell ⟨g, 2, none⟩ (.int .i64 (u 2))).setCell ⟨g, 3, none⟩ (.int .i64 (u 3))).setCell ⟨g, 4, none⟩ (.int .i64 (u 4))
theorem ins_put5 {w : World} {g : Nat} {z : Nat → Int} (h : InsAt w g z) (u : Nat → Int) : InsAt (put5 w g u) g u := by
  have h0 := h.put (u := upd z 0 (u 0)) 0 (u 0) (by decide) fun i _ => rfl
  have h1 := h0.put (u := upd (upd z 0 (u 0)) 1 (u 1)) 1 (u 1) (by decide) fun i _ => rfl
  have h2 := h1.put (u := upd (upd (upd z 0 (u 0)) 1 (u 1)) 2 (u 2)) 2 (u 2) (by decide) fun i _ => rfl
  have h3 := h2.put (u := upd (upd (upd (upd z 0 (u 0)) 1 (u 1)) 2 (u 2)) 3 (u 3)) 3 (u 3) (by decide) fun i _ => rfl
  refine h3.put 4 (u 4) (by decide) fun i hi => ?_
  rcases (by omega : i = 0 ∨ i = 1 ∨ i = 2 ∨ i = 3 ∨ i = 4) with rfl | rfl | rfl | rfl | rfl <;> rfl
theorem cell_put5 {w : World} {g gi k : Nat} {u : Nat → Int} (h : gi ≠ g) : (put5 w g u).cell? ⟨gi, k, none⟩ = w.cell? ⟨gi, k, none⟩ := by
  unfold put5
  have e : ∀ (w : World) (o : Nat) (x : Value), (w.setCell ⟨g, o, none⟩ x).cell? ⟨gi, k, none⟩ = w.cell? ⟨gi, k, none⟩ := fun w o x => by
    unfold World.cell?
    rw [heap_setCell_other _ _ _ _ (by exact h)]
  rw [e, e, e, e, e]
theorem below_put5 {w0 w : World} (h : Below w0.heap.size w0 w) (u : Nat → Int) : Below w0.heap.size w0 (put5 w w0.heap.size u) :=
  ((((h.setCell (Nat.le_refl _) _).setCell (Nat.le_refl _) _).setCell (Nat.le_refl _) _).setCell (Nat.le_refl _) _).setCell (Nat.le_refl _) _
def wrB (o : Nat) : List UInt8 := (wrd o).map u8
def ltB (o : Nat) : List UInt8 := (letr o).map u8
/-- a form's variable -/
def FmAt (w : World) (g : Nat) (a b : ByteArray) : Prop := w.heap[g]? = some (.cells #[.string a, .string b] 45 (0, 0))
theorem FmAt.lt {w : World} {g : Nat} {a b : ByteArray} (h : FmAt w g a b) : g < w.heap.size := (Array.getElem?_eq_some_iff.1 h).1
theorem FmAt.keep {w w' : World} {g : Nat} {a b : ByteArray} (h : FmAt w g a b) (hb : Below w.heap.size w w') : FmAt w' g a b := by
  unfold FmAt; rw [hb.block g h.lt]; exact h
theorem FmAt.c0 {w : World} {g : Nat} {a b : ByteArray} (h : FmAt w g a b) : w.cell? ⟨g, 0, none⟩ = some (.string a) := by rw [cell_of_row w g 0 _ _ _ h]; rfl
theorem FmAt.c1 {w : World} {g : Nat} {a b : ByteArray} (h : FmAt w g a b) : w.cell? ⟨g, 1, none⟩ = some (.string b) := by rw [cell_of_row w g 1 _ _ _ h]; rfl
set_option maxRecDepth 100000 in
set_option maxHeartbeats 4000000 in
theorem isa_read (s : List UInt8) (hs : s.length ≤ 262144) (w : World) (hT : TabR w) :
    Calls Tryd.prog 28 #[.string ⟨s.toArray⟩] w fun e w' => ∃ u b, e = .returned (.tuple #[vI u, .bool b]) ∧ Below w.heap.size w w' ∧ (b = true → okI u = true ∧ lineL u = s) ∧ (b = false → ∀ x, okI x = true → lineL x ≠ s) := by
  have HT := Lib.hid hT
  have HS := Lib.hid fun w hT => split_c s (by omega) w hT
  have Hfit : Hid (∀ x, okI x = true → lineL x = s → fits (spl 32 s) (x 0).toNat ∧ ∀ k (hk : k < (letr (x 0).toNat).length), (spl 32 s).getD (k + 1) [] = fldB x ((letr (x 0).toNat)[k])) := Lib.hid fun x hx hxs => by
    refine ⟨fits_line hx hxs, fun k hk => ?_⟩
    obtain ⟨o, h0, h1, h2, h3, h4, h5⟩ := line_parts hx hxs
    have e : (x 0).toNat = o := by omega
    have hk' : k < (letr o).length := by rw [← e]; exact hk
    have := h5 k hk'
    rw [this]; congr 1; simp only [e]
  have hpn : 1 ≤ (spl 32 s).length := by
    have := spl_ne 32 s
    cases h : spl 32 s with
    | nil => exact absurd h this
    | cons a l => simp
  have hpl : Hid (∀ k, ((spl 32 s).getD k []).length ≤ 262144) := Lib.hid fun k => Nat.le_trans (spl_len 32 s k) hs
  have Hks : Hid (∀ k, fits (spl 32 s) k → KI s (letr k) 0 (opI (k : Int))) := Lib.hid fun k h => KI_start h
  have Hke : Hid (∀ k, fits (spl 32 s) k → ∀ u x, KI s (letr k) (letr k).length u → okI x = true → lineL x = s → agr u x) := Lib.hid fun k hf u x h hx hs => KI_end hf h hx hs
  generalize spl 32 s = ps at HS Hfit hpn hpl Hks Hke
  have hsz := sz_arr s
  clear hT hs
  go_enter Tryd.func28, Tryd.ntmps28
  repeat' (first | go_values | go_skip | go_guarded | go_step | go_upon)
  have hb0 : Below w.heap.size w (w.alloc (.cells #[.int .i64 0, .int .i64 0, .int .i64 0, .int .i64 0, .int .i64 0] 49)) := (Below.refl _ _).alloc (Nat.le_refl _) _
  refine Calls.mono (HS.out _ (HT.out.keep hb0)) ?_
  rintro _ w1 ⟨gp, rfl, hg1, hg2, hb1⟩
  dsimp only
  have hq1 : RQ w gp ps w1 := ⟨hb0.trans (hb1.mono hb0.size), (InsAt.new w (fun _ => 0)).keep hb1, hg2, by simp at hg1; omega⟩
  have HQ1 := Lib.hid hq1
  clear hq1 hg1 hg2 hb0 hb1 HS
  repeat' (first | go_values | go_skip | go_guarded | go_step | go_upon)
  refine Calls.mono (isa_forms _) ?_
  rintro _ w2 ⟨rfl, hb2⟩
  dsimp only
  have HQ2 := Lib.hid (HQ1.out.step hb2)
  have HT2 := Lib.hid (HT.out.keep HQ2.out.bel)
  clear hb2 HQ1
  repeat' (first | go_values | go_skip | go_guarded | go_step | go_upon)
  go_loopw [20] (fun s20 wr => ∃ k : Nat, s20 = .int .i64 k ∧ k ≤ 18 ∧ Hid (∀ o, o < k → ¬ fits ps o) ∧ Hid (RQ w gp ps wr)) (fun s20 _ => 18 - (intOf s20).toNat)
  case atStart => exact ⟨0, rfl, Nat.zero_le _, Lib.hid fun _ h => absurd h (Nat.not_lt_zero _), HQ2⟩
  case round =>
    clear HQ2 HT2
    obtain ⟨k, rfl, hk, Hno, HQ⟩ := hrel
    by_cases hlt : k < 18
    · obtain ⟨fw, ff, hidx, hfw, hf3⟩ : ∃ fw ff : List UInt8, (∀ w : World, (Instr.index 46 (.agg formsC) (.int .i64 (k : Int))).run Tryd.prog w = .ok (.agg #[.string ⟨fw.toArray⟩, .string ⟨ff.toArray⟩]) w) ∧ (1 ≤ k → fw = wrB k ∧ ff = ltB k) ∧ ff.length ≤ 3 := by
        by_cases hk0 : k = 0
        · subst hk0
          exact ⟨[], [], fun w => by kernel_rfl, fun h => by omega, by decide⟩
        · exact ⟨wrB k, ltB k, fun w => forms_at k (by omega) (by omega) w, fun _ => ⟨rfl, rfl⟩, by unfold ltB; rw [List.length_map]; exact letr_len k⟩
      have hp0 := HQ.out.cell 0 (by omega)
      have HF : Hid (FmAt (wr.alloc (.cells #[.string ⟨fw.toArray⟩, .string ⟨ff.toArray⟩] 45)) wr.heap.size ⟨fw.toArray⟩ ⟨ff.toArray⟩) := Lib.hid (Go.heap_alloc_new _ _)
      have HQf := Lib.hid (HQ.out.step ((Below.refl _ _).alloc (Nat.le_refl _) (.cells #[.string ⟨fw.toArray⟩, .string ⟨ff.toArray⟩] 45)))
      obtain ⟨p0, hp⟩ : ∃ p, p = ps.getD 0 [] := ⟨_, rfl⟩
      rw [← hp] at hp0
      have hph : ps.headD [] = p0 := by rw [hp]; cases ps <;> rfl
      obtain ⟨gf, hgf⟩ : ∃ g, g = wr.heap.size := ⟨_, rfl⟩
      obtain ⟨wb, hwb⟩ : ∃ wb, wb = wr.alloc (.cells #[.string ⟨fw.toArray⟩, .string ⟨ff.toArray⟩] 45) := ⟨_, rfl⟩
      have q0 : ∀ nq : WB wb, nq.1.cell? ⟨gf, 0, none⟩ = some (.string ⟨fw.toArray⟩) := fun nq => by
        have h1 : FmAt wb gf ⟨fw.toArray⟩ ⟨ff.toArray⟩ := by rw [hwb, hgf]; exact HF.out
        exact (h1.keep nq.2).c0
      have q1 : ∀ nq : WB wb, nq.1.cell? ⟨gf, 1, none⟩ = some (.string ⟨ff.toArray⟩) := fun nq => by
        have h1 : FmAt wb gf ⟨fw.toArray⟩ ⟨ff.toArray⟩ := by rw [hwb, hgf]; exact HF.out
        exact (h1.keep nq.2).c1
      have q2 : ∀ nq : WB wb, nq.1.cell? ⟨gp, 0, none⟩ = some (.string ⟨p0.toArray⟩) := fun nq => by
        have h1 : RQ w gp ps wb := by rw [hwb]; exact HQf.out
        rw [hp]; exact (h1.step nq.2).cell 0 (by omega)
      have HF1 : Hid (FmAt wb gf ⟨fw.toArray⟩ ⟨ff.toArray⟩) := Lib.hid (by rw [hwb, hgf]; exact HF.out)
      have HQ1 : Hid (RQ w gp ps wb) := Lib.hid (by rw [hwb]; exact HQf.out)
      have hfs := sz_arr ff
      have Hfw := Lib.hid hfw
      have Hph := Lib.hid hph
      clear HF HQf HQ hp0 hfw hp hph
      obtain ⟨n, hn⟩ : ∃ n, n = ps.length := ⟨_, rfl⟩
      rw [← hn] at hpn ⊢
      have Hn := Lib.hid hn
      clear hn
      by_cases hA : k = 0
      · subst hA
        have hidx0 : ∀ w : World, (Instr.index 46 (.agg formsC) (.int .i64 0)).run Tryd.prog w = .ok (.agg #[.string ⟨fw.toArray⟩, .string ⟨ff.toArray⟩]) w := hidx
        clear hidx
        have Hwb := Lib.hid hwb; have Hgf := Lib.hid hgf
        clear hwb hgf
        repeat' (first | go_values | go_skip | go_guarded | go_step | go_upon)
        rw [← Hwb.out, ← Hgf.out]
        refine wp_region_wb (by kernel_rfl) (by kernel_rfl) wb (Below.refl _ _) ?_
        repeat (go_big_quiet_step ((fail)))
        refine wpQuiet_nil ?_
        rintro _ ⟨nq, rfl⟩
        have hnq := nq.2
        repeat' (first | go_values | go_skip | go_guarded | go_step | go_upon)
        go_roundw
        case rel => exact ⟨1, by go_num, by omega, Lib.hid fun o ho h => by have := h.1; omega, Lib.hid (HQ1.out.step hnq)⟩
        case measure => simp [intOf]
      · have Hfit1 : Hid (fits ps k ↔ (fw = p0 ∧ n = ff.length + 1)) := Lib.hid (by
          obtain ⟨e1, e2⟩ := Hfw.out (by omega)
          unfold fits
          rw [Hph.out, ← Hn.out, e1, e2]
          unfold wrB ltB
          rw [List.length_map]
          exact ⟨fun h => ⟨h.2.2.1.symm, h.2.2.2⟩, fun h => ⟨by omega, by omega, h.1.symm, h.2⟩⟩)
        have hd1 : decide ((k : Int) < 1) = false := by simp; omega
        have Hwb := Lib.hid hwb; have Hgf := Lib.hid hgf
        clear hwb hgf
        by_cases hB : fw = p0
        · have hb1 : (fw == p0) = true := by simpa using hB
          have HB := Lib.hid hB
          clear hB
          by_cases hC : n = ff.length + 1
          · have hc1 : ((n : Int) != (ff.length : Int) + 1) = false := by rw [bne_eq_false_iff_eq]; omega
            have HC := Lib.hid hC
            clear hC
            repeat' (first | go_values | go_skip | go_guarded | go_step | go_upon)
            rw [← Hwb.out, ← Hgf.out]
            refine wp_region_wb (by kernel_rfl) (by kernel_rfl) wb (Below.refl _ _) ?_
            repeat (go_big_quiet_step ((fail)))
            refine wpQuiet_nil ?_
            rintro _ ⟨nq, rfl⟩
            have hnq := nq.2
            obtain ⟨nq, rfl⟩ : ∃ m : WB wb, m = nq := ⟨nq, rfl⟩
            have HF2 := Lib.hid (HF1.out.keep hnq)
            have HQ2 := Lib.hid (HQ1.out.step hnq)
            obtain ⟨wn, hwn⟩ : ∃ wn, wn = nq.1 := ⟨_, rfl⟩
            rw [← hwn] at HF2 HQ2 ⊢
            have d1 := HF2.out.c1
            have d1' := (HF2.out.keep ((Below.refl _ _).alloc (Nat.le_refl _) (.cells #[.int .i64 (k : Int), .int .i64 0, .int .i64 0, .int .i64 0, .int .i64 0] 49))).c1
            clear q0 q1 q2 hnq hwn nq HF1 HQ1 hb1 hc1
            repeat' (first | go_values | go_skip | go_guarded | go_step | go_upon)
            have hfit := Hfit1.out.2 ⟨HB.out, HC.out⟩
            have hk17 : 1 ≤ k ∧ k ≤ 17 := ⟨hfit.1, hfit.2.1⟩
            have hff2 : ff = ltB k := (Hfw.out hk17.1).2
            obtain ⟨gi, hgi⟩ : ∃ g, g = wn.heap.size := ⟨_, rfl⟩
            have e0 : ic (opI (k : Int)) = #[.int .i64 (k : Int), .int .i64 0, .int .i64 0, .int .i64 0, .int .i64 0] := by simp [ic, opI]
            have Hlet := Lib.hid (letr_is k)
            obtain ⟨wq, hwq⟩ : ∃ wq, wq = (wn.alloc (.cells #[.int .i64 (k : Int), .int .i64 0, .int .i64 0, .int .i64 0, .int .i64 0] 49)).iter ⟨ff.toArray⟩ 0 := ⟨_, rfl⟩
            have hbq : Below wn.heap.size wn wq := by rw [hwq]; exact ((Below.refl _ _).alloc (Nat.le_refl _) _).alloc (by simp) _
            have hit : wq.heap[gi + 1]? = some (Obj.stringIter ⟨ff.toArray⟩ 0) := by
              have h := World.iter_heap (wn.alloc (.cells #[.int .i64 (k : Int), .int .i64 0, .int .i64 0, .int .i64 0, .int .i64 0] 49)) ⟨ff.toArray⟩ 0
              rw [World.size_alloc] at h
              rw [hwq, hgi]; exact h
            have hbsT : (⟨ff.toArray⟩ : ByteArray) = bsT (letr k) := by rw [hff2]; rfl
            rw [hbsT] at hit
            have Hit := Lib.hid hit
            have Hin : Hid (InsAt wq gi (opI k)) := Lib.hid (by
              have h := InsAt.new wn (opI (k : Int))
              rw [e0] at h
              rw [hwq, hgi]; exact h.keep ((Below.refl _ _).alloc (Nat.le_refl _) _))
            have HQq := Lib.hid (HQ2.out.step hbq)
            have hgg : gp < gi := by rw [hgi]; exact HQ2.out.lt
            have hwg : w.heap.size < gp := HQ2.out.lo
            have HKs := Lib.hid (Hks.out k hfit)
            have HKe := Lib.hid (Hke.out k hfit)
            have Hlen : Hid ((letr k).length + 1 = n) := Lib.hid <| by rw [HC.out, hff2]; unfold ltB; rw [List.length_map]
            have hl3 := letr_len k
            have HLo : Hid (∀ x, okI x = true → lineL x = s → ∀ j (hj : j < (letr k).length), ps.getD (j + 1) [] = fldB x ((letr k)[j]) ∧ 0 ≤ x (pos (letr k)[j]) ∧ x (pos (letr k)[j]) ≤ 1073741824) := Lib.hid fun x hx hxs j hj => by
              obtain ⟨h1, h2⟩ := Hfit.out x hx hxs
              have e := fits_one hfit h1
              have := h2 j (by rw [← e]; exact hj)
              have h3 := okI_in hx (x := (letr k)[j]) (by rw [← e]; exact List.getElem_mem hj)
              have h4 := mst_le (letr k)[j]
              refine ⟨?_, h3.1, by omega⟩
              rw [this]; congr 1; simp only [← e]
            have HKst : Hid (∀ (j : Nat) (u : Nat → Int) (v : Int), KI s (letr k) j u → ∀ hj : j < (letr k).length, (∀ x, okI x = true → lineL x = s → v = x (pos (letr k)[j])) → KI s (letr k) (j + 1) (upd u (pos (letr k)[j]) v)) := Lib.hid fun j u v h hj hv => KI_step h hj hv
            rw [← hwq, ← hgi]
            clear hwq hgi hbq hbsT hff2 e0 HF2 HQ2 d1 d1' hit Hfit Hks Hke Hfit1 Hfw HB HC Hno Hph hfit
            generalize letr k = lt at Hlet Hit HKs HKe Hlen HLo HKst hl3
            go_loopw [] (fun wi => ∃ (j : Nat) (u : Nat → Int), wi.heap[gi + 1]? = some (Obj.stringIter (bsT lt) j) ∧ j ≤ lt.length ∧ Hid (InsAt wi gi u) ∧ Hid (RQ w gp ps wi) ∧ Hid (KI s lt j u)) (fun wi => lt.length - wi.iterPos (gi + 1))
            case atStart => exact ⟨0, opI k, Hit.out, Nat.zero_le _, Hin, HQq, HKs⟩
            case round =>
              clear Hit Hin HQq HKs
              obtain ⟨j, u, hj0, hjl, Gi, GQ, GK⟩ := hrel
              by_cases hjs : j < lt.length
              · have hjb : j < (bsT lt).size := by rw [bsT_size]; exact hjs
                obtain ⟨y, hy⟩ : ∃ y, y = lt[j] := ⟨_, rfl⟩
                have hyl : y ∈ lt := by rw [hy]; exact List.getElem_mem hjs
                have hyi := Hlet.out y hyl
                have hy8 : ((bsT lt)[j]'hjb).toNat = y := by rw [bsT_get lt j hjb hjs fun z hz => by have := Hlet.out z hz; unfold IsL at this; omega, hy]
                have hnx : ∀ ty, (Instr.next (.pointer (some ⟨gi + 1, 0, none⟩)) true ty).run Tryd.prog wr = _ := fun ty => Lib.run_next_ascii_at wr (gi + 1) (bsT lt) j ty hj0 hjb (by rw [hy8]; unfold IsL at hyi; omega)
                rw [hy8] at hnx
                obtain ⟨wi, hwi⟩ : ∃ wi, wi = wr.iterAt (gi + 1) (bsT lt) (j + 1) := ⟨_, rfl⟩
                have Hwk : Hid (wi.heap[gi + 1]? = some (Obj.stringIter (bsT lt) (j + 1))) := Lib.hid (by rw [hwi]; exact Lib.iterAt_heap _ _ _ _ _ hj0)
                have K0 : Hid (InsAt wi gi u) := Lib.hid (by rw [hwi]; exact Gi.out.iter hj0 _)
                have KQ : Hid (RQ w gp ps wi) := Lib.hid (by rw [hwi]; exact GQ.out.iter hj0 (by omega) _)
                rw [← hwi] at hnx
                have hp0 : wr.iterPos (gi + 1) = j := iterPos_of hj0
                have HF := Lib.hid (isa_field y hyi gi)
                obtain ⟨py, hpy⟩ : ∃ p, p = pos y := ⟨_, rfl⟩
                have hp1 : py < 5 := by have := pos_ge y; omega
                obtain ⟨pt, hpt⟩ : ∃ p, p = ps.getD (j + 1) [] := ⟨_, rfl⟩
                have hptl : pt.length ≤ 262144 := by rw [hpt]; exact hpl.out (j + 1)
                have hpc := KQ.out.cell (j + 1) (by have := Hn.out; have := Hlen.out; omega)
                rw [← hpt] at hpc
                have HKn : Hid (∀ v, (∀ x, okI x = true → lineL x = s → v = x py) → KI s lt (j + 1) (upd u py v)) := Lib.hid fun v hv => by
                  have := HKst.out j u v GK.out hjs (by rw [← hy, ← hpy]; exact hv)
                  rw [← hy, ← hpy] at this; exact this
                obtain ⟨sg, hsg⟩ : ∃ l : List UInt8, l = sgB y := ⟨_, rfl⟩
                have HLx : Hid (∀ x, okI x = true → lineL x = s → pt = sg ++ Lib.itoa (x py) ∧ 0 ≤ x py ∧ x py ≤ 1073741824) := Lib.hid fun x hx hxs => by
                  have h5 := HLo.out x hx hxs j hjs
                  rw [← hy, ← hpy] at h5
                  refine ⟨?_, h5.2⟩
                  rw [hpt, h5.1, hsg, hpy]; rfl
                have hbs : bsT (sgn y) = ⟨sg.toArray⟩ := by rw [hsg]; rfl
                rw [hbs, ← hpy] at HF
                generalize mst y = m at HF
                obtain ⟨dg, hdg⟩ : ∃ d, d = Lib.trimPrefix pt sg := ⟨_, rfl⟩
                obtain ⟨is, his⟩ : ∃ b, b = Lib.hasPrefix pt sg := ⟨_, rfl⟩
                have HC2 := Lib.hid fun w => cutP_c pt sg w
                rw [← hdg, ← his] at HC2
                have hdl : dg.length ≤ 262144 := by rw [hdg]; unfold Lib.trimPrefix; split; (rw [List.length_drop]; omega); exact hptl
                have HA := Lib.hid fun w hT => atoi_c dg (by omega) w hT
                have Hxx : Hid (∀ x, okI x = true → lineL x = s → is = true ∧ Lib.atoiAll dg = .ok (x py)) := Lib.hid fun x hx hxs => by
                  obtain ⟨e1, e2, e3⟩ := HLx.out x hx hxs
                  have h := hasP_app sg (Lib.itoa (x py))
                  rw [← e1] at h
                  rw [his, hdg, h.1, h.2]
                  exact ⟨rfl, atoi_itoa e2 (by omega)⟩
                have HTi := Lib.hid (HT.out.keep KQ.out.bel)
                have hj2 : (j : Int) + 1 < n := by have := Hlen.out; omega
                have hj3 : j < 3 := by omega
                clear hwi hpy hpt hy hyl hy8 hjb hj0 Gi GQ GK hyi hsg hbs hdg his HLo HKst HLx
                repeat' (first | go_values | go_skip | go_guarded | go_step | go_upon)
                refine Calls.mono (HF.out _) ?_
                rintro _ w7 ⟨rfl, rfl⟩
                dsimp only
                repeat' (first | go_values | go_skip | go_guarded | go_step | go_upon)
                refine Calls.mono (HC2.out _) ?_
                rintro _ w8 ⟨rfl, rfl⟩
                dsimp only
                repeat' (first | go_values | go_skip | go_guarded | go_step | go_upon)
                refine Calls.mono (HA.out _ HTi.out) ?_
                rintro _ w9 ⟨v, ev, rfl, hb9, hok, her⟩
                dsimp only
                have K9 := Lib.hid (K0.out.keep hb9)
                have Q9 := Lib.hid (KQ.out.step hb9)
                have Hw9 : Hid (w9.heap[gi + 1]? = some (Obj.stringIter (bsT lt) (j + 1))) := Lib.hid (by rw [hb9.block _ (Array.getElem?_eq_some_iff.1 Hwk.out).1]; exact Hwk.out)
                have Hok := Lib.hid hok
                have Her := Lib.hid her
                clear K0 KQ Hwk hb9 hok her hpc
                cases is with
                | false =>
                  have No : Hid (∀ x, okI x = true → lineL x = s → False) := Lib.hid fun x hx hxs => by have := (Hxx.out x hx hxs).1; cases this
                  have c0 := K9.out.cell 0 (by decide)
                  have c1 := K9.out.cell 1 (by decide)
                  have c2 := K9.out.cell 2 (by decide)
                  have c3 := K9.out.cell 3 (by decide)
                  have c4 := K9.out.cell 4 (by decide)
                  repeat' (first | (with_reducible refine store_ins Q9.out.res u _ _ rfl rfl rfl ?_) | go_values | go_skip | go_guarded | go_step | go_upon)
                  refine bodyPost_ret (v := .tuple #[vI u, .bool false]) (results_insb rfl _ _ w.heap.size _ _ rfl rfl Q9.out.res.row) rfl ⟨_, _, rfl, ?_, fun h => (by cases h), fun _ x hx hxs => ?_⟩
                  · exact Below.row Q9.out.bel (Nat.le_refl _) _
                  · exact No.out x hx hxs
                | true =>
                  by_cases hav : ∃ z, Lib.atoiAll dg = .ok z
                  · obtain ⟨z, hz⟩ := hav
                    obtain ⟨rfl, rfl⟩ := Hok.out z hz
                    have Hxz : Hid (∀ x, okI x = true → lineL x = s → v = x py) := Lib.hid fun x hx hxs => by
                      have := (Hxx.out x hx hxs).2
                      rw [hz] at this; injection this
                    have HKz := Lib.hid (HKn.out v Hxz.out)
                    have hcell := K9.out.cell py hp1
                    have hfree := K9.out.free py
                    generalize u py = a9 at hcell
                    clear hz
                    have hw10 : (w9.setCell ⟨gi, py, none⟩ (.int .i64 v)).heap[gi + 1]? = some (Obj.stringIter (bsT lt) (j + 1)) := by
                      rw [heap_setCell_other _ _ _ _ (by dsimp only; omega)]; exact Hw9.out
                    have Hw10 := Lib.hid hw10
                    clear hw10
                    repeat' (first | go_values | go_skip | go_guarded | go_step | go_upon)
                    go_roundw
                    case rel => exact ⟨j + 1, upd u py v, Hw10.out, hjs, Lib.hid (K9.out.put py v hp1 fun i _ => rfl), Lib.hid (Q9.out.other (by omega) (by omega)), HKz⟩
                    case measure => rw [iterPos_of Hw10.out, hp0]; omega
                  · have No : Hid (∀ x, okI x = true → lineL x = s → False) := Lib.hid fun x hx hxs => hav ⟨_, (Hxx.out x hx hxs).2⟩
                    obtain ⟨t, p, rfl⟩ := Her.out fun z hz => hav ⟨z, hz⟩
                    clear hav
                    have c0 := K9.out.cell 0 (by decide)
                    have c1 := K9.out.cell 1 (by decide)
                    have c2 := K9.out.cell 2 (by decide)
                    have c3 := K9.out.cell 3 (by decide)
                    have c4 := K9.out.cell 4 (by decide)
                    repeat' (first | (with_reducible refine store_ins Q9.out.res u _ _ rfl rfl rfl ?_) | go_values | go_skip | go_guarded | go_step | go_upon)
                    refine bodyPost_ret (v := .tuple #[vI u, .bool false]) (results_insb rfl _ _ w.heap.size _ _ rfl rfl Q9.out.res.row) rfl ⟨_, _, rfl, ?_, fun h => (by cases h), fun _ x hx hxs => ?_⟩
                    · exact Below.row Q9.out.bel (Nat.le_refl _) _
                    · exact No.out x hx hxs
              · obtain rfl : j = lt.length := by omega
                have hnx : ∀ ty, (Instr.next (.pointer (some ⟨gi + 1, 0, none⟩)) true ty).run Tryd.prog wr = _ := fun ty => Lib.run_next_end_at wr (gi + 1) (bsT lt) lt.length ty hj0 (by rw [bsT_size]; omega)
                have HR := Lib.hid fun w => isa_Right u w
                have Hend : Hid (∀ x, okI x = true → lineL x = s → agr u x) := Lib.hid fun x hx hxs => HKe.out u x GK.out hx hxs
                clear Hlen hj0 hjs GK HKe HLo HKst
                have hgn : gi ≠ w.heap.size := by omega
                by_cases hok : okI u = true
                · have HL := Lib.hid fun w hT => isa_line u hok w hT
                  by_cases hL : lineL u = s
                  · have Hyes := Lib.hid (And.intro hok hL)
                    have hbL : (s == s) = true := by simp
                    rw [hok] at HR
                    rw [hL] at HL
                    clear hok hL Hend
                    have c0 := Gi.out.cell 0 (by decide)
                    have c1 := Gi.out.cell 1 (by decide)
                    have c2 := Gi.out.cell 2 (by decide)
                    have c3 := Gi.out.cell 3 (by decide)
                    have c4 := Gi.out.cell 4 (by decide)
                    repeat' (first | go_values | go_skip | go_guarded | go_step | go_upon)
                    refine wp_normal (F := fun a' w' => ∃ tm, a' = { tmps := tm, defers := [] } ∧ tm.getD 2 undef = .pointer (some ⟨w.heap.size, 0, none⟩) ∧ tm.getD 3 undef = .bool true ∧ InsAt w' w.heap.size u ∧ Below w.heap.size w w') ?_ ?_
                    · intro K' hK'
                      first | (go_region_held (fun w' => w'.cell? ⟨gi, 0, none⟩ = some (.int .i64 (u 0)) ∧ w'.cell? ⟨gi, 1, none⟩ = some (.int .i64 (u 1)) ∧ w'.cell? ⟨gi, 2, none⟩ = some (.int .i64 (u 2)) ∧ w'.cell? ⟨gi, 3, none⟩ = some (.int .i64 (u 3)) ∧ w'.cell? ⟨gi, 4, none⟩ = some (.int .i64 (u 4))) (first | go_keep | (simp only [cell_put5 hgn]; assumption) | (simp only [cell_put5 hgn]; simp only [*]; simp)) (first | (go_at_call 33; refine Calls.mono (HR.out _) ?_; rintro _ w1 ⟨rfl, hb1⟩; have Q1 := Lib.hid (GQ.out.step (below_of_drew hb1)); have I1 := Lib.hid (Gi.out.keep (below_of_drew hb1)); have d0 := I1.out.cell 0 (by decide); have d1 := I1.out.cell 1 (by decide); have d2 := I1.out.cell 2 (by decide); have d3 := I1.out.cell 3 (by decide); have d4 := I1.out.cell 4 (by decide); have r0 := Q1.out.res.cell 0 (by decide); have r1 := Q1.out.res.cell 1 (by decide); have r2 := Q1.out.res.cell 2 (by decide); have r3 := Q1.out.res.cell 3 (by decide); have r4 := Q1.out.res.cell 4 (by decide); have rf0 := Q1.out.res.free 0; have rf1 := Q1.out.res.free 1; have rf2 := Q1.out.res.free 2; have rf3 := Q1.out.res.free 3; have rf4 := Q1.out.res.free 4) | (go_at_call 25; refine Calls.mono (HL.out _ (HT.out.keep Q1.out.bel).ten) ?_; rintro _ w2 ⟨rfl, hb2⟩; have Q2 := Lib.hid (Q1.out.step hb2); have I2 := Lib.hid (I1.out.keep hb2); have e0 := I2.out.cell 0 (by decide); have e1 := I2.out.cell 1 (by decide); have e2 := I2.out.cell 2 (by decide); have e3 := I2.out.cell 3 (by decide); have e4 := I2.out.cell 4 (by decide); have x0 := Q2.out.res.cell 0 (by decide); have x1 := Q2.out.res.cell 1 (by decide); have x2 := Q2.out.res.cell 2 (by decide); have x3 := Q2.out.res.cell 3 (by decide); have x4 := Q2.out.res.cell 4 (by decide); have xf0 := Q2.out.res.free 0; have xf1 := Q2.out.res.free 1; have xf2 := Q2.out.res.free 2; have xf3 := Q2.out.res.free 3; have xf4 := Q2.out.res.free 4))) | fail
                      all_goals exact hK' _ _ ⟨_, rfl, rfl, rfl, ins_put5 Q2.out.res u, below_put5 Q2.out.bel u⟩
                    · rintro a' wf ⟨tm, rfl, ht2, ht3, hI, hB⟩
                      repeat' (first | go_values | go_skip | go_guarded | go_step | go_upon)
                      refine bodyPost_ret (v := .tuple #[vI u, .bool true]) (results_insb rfl _ _ w.heap.size _ _ ht2 ht3 hI) rfl ⟨_, _, rfl, hB, fun _ => Hyes.out, fun h => (by cases h)⟩
                  · have Hnot : Hid (∀ x, okI x = true → lineL x ≠ s) := Lib.hid fun x hx hxs => hL ((Hend.out x hx hxs).line.trans hxs)
                    have hbL : (lineL u == s) = false := by simpa using hL
                    rw [hok] at HR
                    clear hok hL Hend
                    generalize lineL u = L at HL hbL
                    have c0 := Gi.out.cell 0 (by decide)
                    have c1 := Gi.out.cell 1 (by decide)
                    have c2 := Gi.out.cell 2 (by decide)
                    have c3 := Gi.out.cell 3 (by decide)
                    have c4 := Gi.out.cell 4 (by decide)
                    repeat' (first | go_values | go_skip | go_guarded | go_step | go_upon)
                    refine wp_normal (F := fun a' w' => ∃ tm, a' = { tmps := tm, defers := [] } ∧ tm.getD 2 undef = .pointer (some ⟨w.heap.size, 0, none⟩) ∧ tm.getD 3 undef = .bool false ∧ InsAt w' w.heap.size u ∧ Below w.heap.size w w') ?_ ?_
                    · intro K' hK'
                      first | (go_region_held (fun w' => w'.cell? ⟨gi, 0, none⟩ = some (.int .i64 (u 0)) ∧ w'.cell? ⟨gi, 1, none⟩ = some (.int .i64 (u 1)) ∧ w'.cell? ⟨gi, 2, none⟩ = some (.int .i64 (u 2)) ∧ w'.cell? ⟨gi, 3, none⟩ = some (.int .i64 (u 3)) ∧ w'.cell? ⟨gi, 4, none⟩ = some (.int .i64 (u 4))) (first | go_keep | (simp only [cell_put5 hgn]; assumption) | (simp only [cell_put5 hgn]; simp only [*]; simp)) (first | (go_at_call 33; refine Calls.mono (HR.out _) ?_; rintro _ w1 ⟨rfl, hb1⟩; have Q1 := Lib.hid (GQ.out.step (below_of_drew hb1)); have I1 := Lib.hid (Gi.out.keep (below_of_drew hb1)); have d0 := I1.out.cell 0 (by decide); have d1 := I1.out.cell 1 (by decide); have d2 := I1.out.cell 2 (by decide); have d3 := I1.out.cell 3 (by decide); have d4 := I1.out.cell 4 (by decide); have r0 := Q1.out.res.cell 0 (by decide); have r1 := Q1.out.res.cell 1 (by decide); have r2 := Q1.out.res.cell 2 (by decide); have r3 := Q1.out.res.cell 3 (by decide); have r4 := Q1.out.res.cell 4 (by decide); have rf0 := Q1.out.res.free 0; have rf1 := Q1.out.res.free 1; have rf2 := Q1.out.res.free 2; have rf3 := Q1.out.res.free 3; have rf4 := Q1.out.res.free 4) | (go_at_call 25; refine Calls.mono (HL.out _ (HT.out.keep Q1.out.bel).ten) ?_; rintro _ w2 ⟨rfl, hb2⟩; have Q2 := Lib.hid (Q1.out.step hb2); have I2 := Lib.hid (I1.out.keep hb2); have e0 := I2.out.cell 0 (by decide); have e1 := I2.out.cell 1 (by decide); have e2 := I2.out.cell 2 (by decide); have e3 := I2.out.cell 3 (by decide); have e4 := I2.out.cell 4 (by decide); have x0 := Q2.out.res.cell 0 (by decide); have x1 := Q2.out.res.cell 1 (by decide); have x2 := Q2.out.res.cell 2 (by decide); have x3 := Q2.out.res.cell 3 (by decide); have x4 := Q2.out.res.cell 4 (by decide); have xf0 := Q2.out.res.free 0; have xf1 := Q2.out.res.free 1; have xf2 := Q2.out.res.free 2; have xf3 := Q2.out.res.free 3; have xf4 := Q2.out.res.free 4))) | fail
                      all_goals exact hK' _ _ ⟨_, rfl, rfl, rfl, ins_put5 Q2.out.res u, below_put5 Q2.out.bel u⟩
                    · rintro a' wf ⟨tm, rfl, ht2, ht3, hI, hB⟩
                      repeat' (first | go_values | go_skip | go_guarded | go_step | go_upon)
                      refine bodyPost_ret (v := .tuple #[vI u, .bool false]) (results_insb rfl _ _ w.heap.size _ _ ht2 ht3 hI) rfl ⟨_, _, rfl, hB, fun h => (by cases h), fun _ => Hnot.out⟩
                · have Hnot : Hid (∀ x, okI x = true → lineL x ≠ s) := Lib.hid fun x hx hxs => hok ((Hend.out x hx hxs).symm.ok hx)
                  have hok2 : okI u = false := by simpa using hok
                  rw [hok2] at HR
                  clear hok hok2 Hend
                  have c0 := Gi.out.cell 0 (by decide)
                  have c1 := Gi.out.cell 1 (by decide)
                  have c2 := Gi.out.cell 2 (by decide)
                  have c3 := Gi.out.cell 3 (by decide)
                  have c4 := Gi.out.cell 4 (by decide)
                  repeat' (first | go_values | go_skip | go_guarded | go_step | go_upon)
                  refine wp_normal (F := fun a' w' => ∃ tm, a' = { tmps := tm, defers := [] } ∧ tm.getD 2 undef = .pointer (some ⟨w.heap.size, 0, none⟩) ∧ tm.getD 3 undef = .bool false ∧ InsAt w' w.heap.size u ∧ Below w.heap.size w w') ?_ ?_
                  · intro K' hK'
                    first | (go_region_with (first | (go_at_call 33; refine Calls.mono (HR.out _) ?_; rintro _ w1 ⟨rfl, hb1⟩; have Q1 := Lib.hid (GQ.out.step (below_of_drew hb1)); have I1 := Lib.hid (Gi.out.keep (below_of_drew hb1)); have d0 := I1.out.cell 0 (by decide); have d1 := I1.out.cell 1 (by decide); have d2 := I1.out.cell 2 (by decide); have d3 := I1.out.cell 3 (by decide); have d4 := I1.out.cell 4 (by decide); have r0 := Q1.out.res.cell 0 (by decide); have r1 := Q1.out.res.cell 1 (by decide); have r2 := Q1.out.res.cell 2 (by decide); have r3 := Q1.out.res.cell 3 (by decide); have r4 := Q1.out.res.cell 4 (by decide); have rf0 := Q1.out.res.free 0; have rf1 := Q1.out.res.free 1; have rf2 := Q1.out.res.free 2; have rf3 := Q1.out.res.free 3; have rf4 := Q1.out.res.free 4))) | fail
                    all_goals exact hK' _ _ ⟨_, rfl, rfl, rfl, ins_put5 Q1.out.res u, below_put5 Q1.out.bel u⟩
                  · rintro a' wf ⟨tm, rfl, ht2, ht3, hI, hB⟩
                    repeat' (first | go_values | go_skip | go_guarded | go_step | go_upon)
                    refine bodyPost_ret (v := .tuple #[vI u, .bool false]) (results_insb rfl _ _ w.heap.size _ _ ht2 ht3 hI) rfl ⟨_, _, rfl, hB, fun h => (by cases h), fun _ => Hnot.out⟩
          · have hc1 : ((n : Int) != (ff.length : Int) + 1) = true := by rw [bne_iff_ne]; omega
            have HC := Lib.hid hC
            clear hC
            repeat' (first | go_values | go_skip | go_guarded | go_step | go_upon)
            rw [← Hwb.out, ← Hgf.out]
            refine wp_region_wb (by kernel_rfl) (by kernel_rfl) wb (Below.refl _ _) ?_
            repeat (go_big_quiet_step ((fail)))
            refine wpQuiet_nil ?_
            rintro _ ⟨nq, rfl⟩
            have hnq := nq.2
            repeat' (first | go_values | go_skip | go_guarded | go_step | go_upon)
            go_roundw
            case rel => exact ⟨k + 1, by go_num, by omega, Lib.hid fun o ho h => by
              rcases Nat.lt_or_ge o k with h1 | h1
              · exact Hno.out o h1 h
              · obtain rfl : o = k := by omega
                exact HC.out (Hfit1.out.1 h).2, Lib.hid (HQ1.out.step hnq)⟩
            case measure => simp [intOf]; omega
        · have hb1 : (fw == p0) = false := by simpa using hB
          have hb2 : (fw != p0) = true := by simpa using hB
          have HB := Lib.hid hB
          clear hB
          repeat' (first | go_values | go_skip | go_guarded | go_step | go_upon)
          rw [← Hwb.out, ← Hgf.out]
          refine wp_region_wb (by kernel_rfl) (by kernel_rfl) wb (Below.refl _ _) ?_
          repeat (go_big_quiet_step ((fail)))
          refine wpQuiet_nil ?_
          rintro _ ⟨nq, rfl⟩
          have hnq := nq.2
          repeat' (first | go_values | go_skip | go_guarded | go_step | go_upon)
          go_roundw
          case rel => exact ⟨k + 1, by go_num, by omega, Lib.hid fun o ho h => by
            rcases Nat.lt_or_ge o k with h1 | h1
            · exact Hno.out o h1 h
            · obtain rfl : o = k := by omega
              exact HB.out (Hfit1.out.1 h).1, Lib.hid (HQ1.out.step hnq)⟩
          case measure => simp [intOf]; omega
    · obtain rfl : k = 18 := by omega
      repeat' (first | (with_reducible refine store_ins HQ.out.res (fun _ => 0) _ _ rfl rfl rfl ?_) | go_values | go_skip | go_guarded | go_step | go_upon)
      refine bodyPost_ret (v := .tuple #[vI (fun _ => 0), .bool false]) (results_insb rfl _ _ w.heap.size _ _ rfl rfl HQ.out.res.row) rfl ⟨_, _, rfl, ?_, fun h => (by cases h), fun _ x hx hxs => ?_⟩
      · exact Below.row HQ.out.bel (Nat.le_refl _) _
      · have h1 := (Hfit.out x hx hxs).1
        exact Hno.out _ (by have := h1.2.1; omega) h1
end Go.Proofs.YtpelngkhipcneaaDoor
