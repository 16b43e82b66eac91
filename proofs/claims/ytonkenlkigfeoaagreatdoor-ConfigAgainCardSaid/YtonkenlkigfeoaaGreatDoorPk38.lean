/- Plain laws: a tree's text, node by node; tables that stay. No program's walk. -/
import Derived.Test.YtonkenlkigfeoaaGreatDoorPk37
import Derived.Test.YtonkenlkigfeoaaGreatDoorPk12
import Derived.Test.YtonkenlkigfeoaaGreatDoorPk23
import Derived.Test.YtonkenlkigfeoaaGreatDoorPk06
namespace Go.Proofs.YtonkenlkigfeoaaGreatDoor
open Go.RowKit Go.Lib
abbrev Tab10 (w : World) : Prop := Lib.TabIs Tryz.prog w "internal/strconv.uint64pow10" .u64 Lib.pow10Tab
theorem tab10_below {w w' : World} (h : Tab10 w) (hb : Below w.heap.size w w') : Tab10 w' := by
 have hg : Tryz.prog.globalNamed "internal/strconv.uint64pow10" = some 2 := by kernel_rfl
 unfold Tab10 Lib.TabIs World.var? at h ⊢; rw [hg] at h ⊢; simp only [Option.bind_some] at h ⊢; have hlt : 2 < w.heap.size := by
   rcases Nat.lt_or_ge 2 w.heap.size with h' | h'
   · exact h'
   · rw [Array.getElem?_eq_none h'] at h; simp at h
 rw [hb.block _ hlt]; exact h
theorem below_growN {w : World} (k : Nat) (os : Array Obj) : Below w.heap.size w (Go.Sort.grow (w.drewN k) os) :=
 ⟨rfl, rfl, rfl, by simp [Go.Sort.grow, World.drewN], fun i hi => by simp [Go.Sort.grow, World.drewN, Array.getElem?_append_left hi]⟩
theorem itoa_t (n : Int) (h0 : -1 ≤ n) (h1 : n ≤ 20) (w : World) (hT : Tab10 w) :
   Calls Tryz.prog 68 #[.int .i64 n] w fun e w' => e = .returned (.string ⟨(Lib.itoa n).toArray⟩) ∧ Below w.heap.size w w' :=
 (Tryz.strconv_Itoa n (by omega) (by omega) w hT).mono fun _ _ ⟨he, k, os, hw⟩ => ⟨he, by rw [hw]; exact below_growN k os⟩
/-- the tables that are asked for -/
def TT (w : World) : Prop := TabB w ∧ Tab10 w
theorem TT.keep {w w' : World} (h : TT w) (hb : Below w.heap.size w w') : TT w' := ⟨h.1.keep hb, tab10_below h.2 hb⟩
/-- a tree that may be -/
structure Gd (h : Nat) (t : Re) : Prop where
 shp : shp h t = true
 cnt : cnt h t ≤ 512
 all : allW h t
theorem sum_le {g : Re → Nat} {u : Re} : ∀ {l : List Re}, u ∈ l → g u ≤ (l.map g).sum
 | [], h => by cases h
 | k :: l, h => by
   rw [List.map_cons, List.sum_cons]
   rcases List.mem_cons.1 h with rfl | h
   · omega
   · have := sum_le (g := g) h; omega
theorem Gd.kid {h : Nat} {t u : Re} (hg : Gd (h + 1) t) (hu : u ∈ t.kids) : Gd h u := by
 refine ⟨(shp_open hg.shp).2 u hu, ?_, hg.all.2 u hu⟩; have h1 := hg.cnt; rw [Go.Proofs.YtonkenlkigfeoaaGreatDoor.cnt] at h1; have := sum_le (g := Go.Proofs.YtonkenlkigfeoaaGreatDoor.cnt h) hu; omega
theorem cnt_pos : ∀ {h : Nat} {u : Re}, Go.Proofs.YtonkenlkigfeoaaGreatDoor.shp h u = true → 1 ≤ Go.Proofs.YtonkenlkigfeoaaGreatDoor.cnt h u
 | 0, _, hs => by rw [Go.Proofs.YtonkenlkigfeoaaGreatDoor.shp] at hs; cases hs
 | h + 1, u, _ => by rw [Go.Proofs.YtonkenlkigfeoaaGreatDoor.cnt]; omega
theorem few_kids {h : Nat} : ∀ {l : List Re}, (∀ u ∈ l, Go.Proofs.YtonkenlkigfeoaaGreatDoor.shp h u = true) → l.length ≤ (l.map (Go.Proofs.YtonkenlkigfeoaaGreatDoor.cnt h)).sum
 | [], _ => Nat.zero_le _
 | k :: l, hs => by
   have h1 := cnt_pos (hs k (by simp)); have h2 := few_kids (l := l) fun u hu => hs u (by simp [hu])
   rw [List.map_cons, List.sum_cons, List.length_cons]; omega
theorem Gd.few {h : Nat} {t : Re} (hg : Gd (h + 1) t) : t.kids.length ≤ 512 := by
 have h1 := hg.cnt; rw [Go.Proofs.YtonkenlkigfeoaaGreatDoor.cnt] at h1; have := few_kids (shp_open hg.shp).2; omega
theorem Gd.len {h : Nat} {t : Re} (hg : Gd h t) : (txt h t).length ≤ 2048000 := by
 have := txt_len h t hg.shp; have := hg.cnt; omega
/-- a set's value -/
theorem vS_set {s0 s1 s2 s3 : Nat} (h : words64 (s0, s1, s2, s3)) : vS (setP (s0, s1, s2, s3)) = .agg #[.int .u64 (s0 : Nat), .int .u64 (s1 : Nat), .int .u64 (s2 : Nat), .int .u64 (s3 : Nat)] := by
 obtain ⟨h0, h1, h2, h3⟩ := h; unfold vS setP; rw [← W_ofW0 s1 s2 s3 h0, ← W_ofW1 s0 s2 s3 h1, ← W_ofW2 s0 s1 s3 h2, ← W_ofW3 s0 s1 s2 h3]
/-- how often, over the numbers' texts -/
def rptZ (a b : Int) (x y : List UInt8) : List UInt8 :=
 if a = 0 ∧ b = -1 then [42] else if a = 1 ∧ b = -1 then [43] else if a = 0 ∧ b = 1 then [63]
 else if a = b then [123] ++ x ++ [125] else if b = -1 then [123] ++ x ++ [44, 125] else [123] ++ x ++ [44] ++ y ++ [125]
/-- a text of kids, up to so many -/
noncomputable def kidT (h : Nat) (k : Int) (u : Re) : List UInt8 := brk (decide (k = 2 ∧ u.kind = 3)) (txt h u)
def sepK (k : Int) : List UInt8 := if k = 2 then [] else [124]
theorem txt_23 {h : Nat} {t : Re} (h1 : t.kind ≠ 1) (h4 : t.kind ≠ 4) : txt (h + 1) t = Lib.join (t.kids.map (kidT h t.kind)) (sepK t.kind) := by
 rw [txt, if_neg h1, if_neg h4]; rfl
theorem txt_1 {h : Nat} {t : Re} (h1 : t.kind = 1) : txt (h + 1) t = setTx (setP t.set) := by rw [txt, if_pos h1]
theorem txt_4 {h : Nat} {t u : Re} (h4 : t.kind = 4) (hk : t.kids = [u]) : txt (h + 1) t = brk (decide (u.kind ≠ 1)) (txt h u) ++ rptZ t.mn t.mx (Lib.itoa t.mn) (Lib.itoa t.mx) := by
 rw [txt, if_neg (by omega), if_pos h4, hk]; rfl
theorem sepK_len (k : Int) : (sepK k).length ≤ 1 := by unfold sepK; split <;> simp
theorem sum_take {g : Re → Nat} : ∀ (l : List Re) (k : Nat), ((l.take k).map g).sum ≤ (l.map g).sum
 | [], k => by simp
 | u :: l, 0 => by simp
 | u :: l, k + 1 => by
   have := sum_take (g := g) l k; simp only [List.take_succ_cons, List.map_cons, List.sum_cons]; omega
/-- the texts of the kids ahead, joined: not long -/
theorem part_le {h : Nat} {t : Re} (hg : Gd (h + 1) t) (k : Nat) (kd : Int) : (Lib.join ((t.kids.take k).map (kidT h kd)) (sepK kd)).length ≤ 2048000 := by
 have h2 := join_le (sepK_len kd) ((t.kids.take k).map (kidT h kd)); rw [List.map_map] at h2; have h3 : ((t.kids.take k).map ((fun p : List UInt8 => p.length + 1) ∘ kidT h kd)).sum ≤ ((t.kids.take k).map fun u => 4000 * Go.Proofs.YtonkenlkigfeoaaGreatDoor.cnt h u).sum := sum_mono fun u hm => by
   have h4 := txt_len h u ((hg.kid (List.mem_of_mem_take hm)).shp); have h5 := brk_len (decide (kd = 2 ∧ u.kind = 3)) (txt h u); simp only [Function.comp, kidT]; omega
 rw [sum_mul] at h3; have h4 := sum_take (g := Go.Proofs.YtonkenlkigfeoaaGreatDoor.cnt h) t.kids k; have h1 := hg.cnt; rw [Go.Proofs.YtonkenlkigfeoaaGreatDoor.cnt] at h1; omega
theorem part_snoc {h k : Nat} {t u : Re} (kd : Int) (hu : t.kids[k]? = some u) : (t.kids.take (k + 1)).map (kidT h kd) = (t.kids.take k).map (kidT h kd) ++ [kidT h kd u] := by
 have hk := (List.getElem?_eq_some_iff.1 hu).1; have he := (List.getElem?_eq_some_iff.1 hu).2; rw [List.take_succ_eq_append_getElem hk, List.map_append, he]; rfl
def stC (l : List UInt8) : List Value := [.string ⟨l.toArray⟩]
theorem stC_len (l : List UInt8) : (stC l).length = 1 := rfl
theorem info_stT : (Tryz.prog.info? 9).map (fun i => (i.zero, i.size, i.bytes)) = some (some (.string ⟨#[]⟩), 1, 16) := by kernel_rfl
/-- a row of texts of the call's own, joined -/
theorem join_own {B : Nat} {w : World} {v : Value} {ts : List (List UInt8)} (h : OwnR stC 1 B 9 w v ts) (sep : List UInt8) (hlen : (Lib.join ts sep).length ≤ 140737488355328) (hN : ts.length ≤ 140737488355328) :
   Calls Tryz.prog 18 #[v, .string ⟨sep.toArray⟩] w fun e w' => e = .returned (.string ⟨(Lib.join ts sep).toArray⟩) ∧ Below w.heap.size w w' := by
 by_cases h0 : 0 < ts.length
 · obtain ⟨g, cap, rfl⟩ := h.somewhere h0; have hcp : ts.length ≤ cap := by
     obtain ⟨a, c, he, h1, _⟩ := h.form; simp only [Value.slice.injEq] at he; omega
   have e1 : (ts.map fun l => (⟨l.toArray⟩ : ByteArray)).map (fun b : ByteArray => b.data.toList) = ts := by rw [List.map_map]; simp [Function.comp_def]
   have e2 : (⟨sep.toArray⟩ : ByteArray).data.toList = sep := rfl; have hb := h.below (g := g) rfl
   have := Tryz.strings_Join g 0 cap (ts.map fun l => (⟨l.toArray⟩ : ByteArray)) ⟨sep.toArray⟩ w (fun j x hj => by
     rw [List.getElem?_map, Option.map_eq_some_iff] at hj; obtain ⟨l, hl, rfl⟩ := hj; have := h.cellAt stC_len j l 0 hl (by decide); rw [Nat.mul_one] at this
     rw [Nat.zero_add]; exact this) hb.2 (by rw [List.length_map]; exact hN) (by rw [List.length_map]; exact hcp) (by rw [e1, e2]; exact hlen)
   rw [e1, e2, List.length_map] at this; exact this
 · have e : ts = [] := List.length_eq_zero_iff.1 (by omega); subst e; obtain ⟨a, c, rfl, _⟩ := h.form; rw [Lib.join_nil]; exact (Tryz.strings_Join_none a c ⟨sep.toArray⟩ w).mono fun _ _ ⟨he, hw⟩ => ⟨he, by rw [hw]; exact Below.refl _ _⟩
open Go.RowKit Go.Lib
/-- how often, its cases -/
structure RZ (mn mx : Int) (s t2 t4 R : List UInt8) : Prop where
 r1 : mn = 0 ∧ mx = -1 → R = s ++ [42]
 r2 : mn = 1 ∧ mx = -1 → R = s ++ [43]
 r3 : mn = 0 ∧ mx = 1 → R = s ++ [63]
 r4 : mn = mx → R = t2 ++ [125]
 r5 : 2 ≤ mn ∧ mx = -1 → R = t2 ++ [44, 125]
 r6 : mn ≠ mx ∧ mx ≠ -1 ∧ ¬ (mn = 0 ∧ mx = 1) → R = t4 ++ [125]
theorem rz_all {mn mx : Int} {s z1 z2 t1 t2 t3 t4 R : List UInt8} (hR : s ++ rptZ mn mx z1 z2 = R) (h1 : s ++ [123] = t1) (h2 : t1 ++ z1 = t2) (h3 : t2 ++ [44] = t3) (h4 : t3 ++ z2 = t4) : RZ mn mx s t2 t4 R := by
 subst h1 h2 h3 h4 hR; refine ⟨?_, ?_, ?_, ?_, ?_, ?_⟩
 · rintro ⟨rfl, rfl⟩; rfl
 · rintro ⟨rfl, rfl⟩; rfl
 · rintro ⟨rfl, rfl⟩; rfl
 · rintro rfl; unfold rptZ; rw [if_neg (by omega), if_neg (by omega), if_neg (by omega), if_pos rfl]; simp only [List.append_assoc]
 · rintro ⟨h, rfl⟩; unfold rptZ; rw [if_neg (by omega), if_neg (by omega), if_neg (by omega), if_neg (by omega), if_pos rfl]; simp only [List.append_assoc]
 · rintro ⟨h, h', h''⟩; unfold rptZ; rw [if_neg (by omega), if_neg (by omega), if_neg h'', if_neg h, if_neg h']; simp only [List.append_assoc]
section
variable {h : Nat} (IH : ∀ (r : RN) (t : Re) (w : World), ReAt w h r t → Gd h t → TT w → Calls Tryz.prog 42 #[reV r] w fun e w' => e = .returned (.string ⟨(txt h t).toArray⟩) ∧ Below w.heap.size w w')
include IH
set_option maxRecDepth 100000 in
set_option maxHeartbeats 4000000 in
theorem text_14 (r : RN) (t : Re) (w : World) (hr : ReAt w (h + 1) r t) (hg : Gd (h + 1) t) (hT : TT w) (h14 : t.kind = 1 ∨ t.kind = 4) :
   Calls Tryz.prog 42 #[reV r] w fun e w' => e = .returned (.string ⟨(txt (h + 1) t).toArray⟩) ∧ Below w.heap.size w w' := by
 have HB0 := re_box w r; obtain ⟨k, s0, s1, s2, s3, mn, mx, a, n, cap, kids, rs, rfl, rfl, hn, hnk, hl, _, hrow, hk, hone, hkd⟩ := hr.node; have HG := Lib.hid hg; have HT := Lib.hid (hT.keep HB0); have HB := Lib.hid HB0; have Hn := Lib.hid hn; have Hnk := Lib.hid hnk; clear hr hT HB0 hnk
 rcases h14 with hk1 | hk4
 · have hk1 : k = 1 := hk1; subst hk1; have e := txt_1 (h := h) (t := .mk 1 (s0, s1, s2, s3) mn mx kids) rfl; have hS := fun W (hW : TabB W) => re_setText (setP (s0, s1, s2, s3)) W hW
   rw [vS_set hg.all.1] at hS; rw [e]; change ∀ W, TabB W → Calls _ _ _ W fun e w' => e = .returned (.string ⟨(setTx (setP (Re.mk 1 (s0, s1, s2, s3) mn mx kids).set)).toArray⟩) ∧ _ at hS
   generalize setTx (setP (Re.mk 1 (s0, s1, s2, s3) mn mx kids).set) = R at hS ⊢; clear e hg HG hrow hk hone hkd IH hn; simp only [reV, reC] at HB HT ⊢; go_enter Tryz.func42, Tryz.ntmps42; wkk; refine Calls.mono (hS _ HT.out.1) ?_; rintro _ w1 ⟨rfl, hb1⟩; dsimp only; clear hS; wkk; go_ret; exact ⟨rfl, HB.out.trans (hb1.mono HB.out.size)⟩
 · have hk4 : k = 4 := hk4; subst hk4; obtain ⟨hmn, hmx, u, hu⟩ := rep_open (shp_open hg.shp).1 (t := .mk 4 (s0, s1, s2, s3) mn mx kids) rfl; change (0 ≤ mn ∧ mn ≤ 20) at hmn; change (-1 ≤ mx ∧ mx ≤ 20) at hmx; have hu : kids = [u] := hu; have e := txt_4 (h := h) (t := .mk 4 (s0, s1, s2, s3) mn mx kids) rfl hu; rw [e]; clear e; have hgu := hg.kid (u := u) (by show u ∈ kids; rw [hu]; simp); have hul := hgu.len; have hn1 : n = 1 := by rw [Hnk.out, hu]; rfl
   have hrs1 : rs.length = 1 := by rw [← hn, hn1]
   obtain ⟨r', hr'⟩ : ∃ r', rs[0]? = some r' := ⟨_, List.getElem?_eq_getElem (by omega)⟩; obtain ⟨t', ht', hrt⟩ := hk 0 r' hr'; have hut : t' = u := by rw [hu] at ht'; simpa using ht'.symm
   subst hut; have hk' : r'.k = t'.kind := by rw [hkd 0 r' hr']; simp [kdOf, hu]
   obtain ⟨a0, cap0, hv, _, _, hc⟩ := hrow.open reC_length; simp only [Value.slice.injEq] at hv; obtain ⟨rfl, -, rfl⟩ := hv
   rcases hc with hc | ⟨b, off, rfl, hb, hc⟩
   · omega
   have C8 := row_load hc hr'; rw [Nat.zero_mul, Nat.add_zero] at C8; have HC := Lib.hid C8; have hone := hrt.one; have HBl := HB.out; obtain ⟨c0, c1, c2, c3, c4, c5, c6, c7⟩ := C8.keep HBl hb; have hcall := IH r' t' _ (hrt.keep HBl) hgu HT.out
   -- the node's own cells, after
   have HX : Hid (∀ W, Below (w.alloc (.cells (reC ⟨4, (s0, s1, s2, s3), mn, mx, .slice (some ⟨b, off, none⟩) n cap⟩).toArray 29)).heap.size (w.alloc (.cells (reC ⟨4, (s0, s1, s2, s3), mn, mx, .slice (some ⟨b, off, none⟩) n cap⟩).toArray 29)) W → Cells8 W w.heap.size 0 ⟨4, (s0, s1, s2, s3), mn, mx, .slice (some ⟨b, off, none⟩) n cap⟩) := Lib.hid fun W hW => by
     have hlt : w.heap.size < (w.alloc (.cells (reC ⟨4, (s0, s1, s2, s3), mn, mx, .slice (some ⟨b, off, none⟩) n cap⟩).toArray 29)).heap.size := by simp
     have hgg := Go.heap_alloc_new w (.cells (reC ⟨4, (s0, s1, s2, s3), mn, mx, .slice (some ⟨b, off, none⟩) n cap⟩).toArray 29); refine ⟨?_, ?_, ?_, ?_, ?_, ?_, ?_, ?_⟩ <;> (rw [hW.cell hlt, cell_of_row _ _ _ _ _ _ hgg]; rfl)
   subst hn1; have HBb := Lib.hid (show b < w.heap.size from hb); obtain ⟨U, hU⟩ : ∃ U, txt h t' = U := ⟨_, rfl⟩; rw [hU] at hcall hul ⊢; have Hk' := Lib.hid hk'; change Calls _ _ _ w fun e w' => e = Ending.returned (.string ⟨(brk (decide (t'.kind ≠ 1)) U ++ rptZ mn mx (Lib.itoa mn) (Lib.itoa mx)).toArray⟩) ∧ _
   rw [← hk']; have hz1 := itoa_small (n := mn) (by omega); have hz2 := itoa_small (n := mx) (by omega); have hI1 := fun W (hW : Tab10 W) => itoa_t mn (by omega) (by omega) W hW
   have hI2 := fun W (hW : Tab10 W) => itoa_t mx (by omega) (by omega) W hW
   generalize Lib.itoa mn = z1 at hz1 hI1 ⊢; generalize Lib.itoa mx = z2 at hz2 hI2 ⊢; obtain ⟨s, hs⟩ : ∃ s, brk (decide (r'.k ≠ 1)) U = s := ⟨_, rfl⟩; have hsl := brk_len (decide (r'.k ≠ 1)) U; rw [hs] at hsl ⊢; obtain ⟨R, hR⟩ : ∃ R, s ++ rptZ mn mx z1 z2 = R := ⟨_, rfl⟩; rw [hR]; have HR := Lib.hid hR; clear hR; clear hU hk' hgu hrt ht' hu hr' hrs1 hk hkd hrow hc IH hg HG hn C8 HBl hb hl; simp only [reV, reC] at HB HT HX hcall c0 c1 c2 c3 c4 c5 c6 c7 ⊢
   by_cases hk1 : r'.k = 1
   · have e : s = U := by rw [← hs, hk1]; rfl
     subst e; have hkb : (r'.k != 1) = false := by rw [hk1]; rfl
     clear hs hk1; go_enter Tryz.func42, Tryz.ntmps42; wkk; refine Calls.mono (hcall) ?_; rintro _ w1 ⟨rfl, hb1⟩; dsimp only; clear hcall c0 c1 c2 c3 c4 c5 c6 c7; have HB1 := Lib.hid (HB.out.trans (hb1.mono HB.out.size)); have HT1 := Lib.hid (HT.out.keep hb1); have X1 := Lib.hid (HX.out w1 hb1); have HL1 : Hid (w.heap.size < w1.heap.size) := Lib.hid (Nat.lt_of_lt_of_le (by simp) hb1.size); clear hb1 HX HB HT; obtain ⟨c0, c1, c2, c3, c4, c5, c6, c7⟩ := HC.out.keep HB1.out HBb.out; obtain ⟨x0, x1, x2, x3, x4, x5, x6, x7⟩ := X1.out; clear hsl; have hsl : s.length ≤ 2048002 := by omega
     repeat' (go_not_at_region 8; first | go_values | go_skip | go_guarded | go_step | go_upon)
     clear c0 c1 c2 c3 c4 c5 c6 c7 x0 x1 x2 x3 x4 x5 x6 x7; have q5 : ∀ nq : WB w1, nq.1.cell? ⟨w.heap.size, 5, none⟩ = some (.int .i64 mn) := fun nq => (X1.out.keep nq.2 HL1.out).2.2.2.2.2.1
     have q6 : ∀ nq : WB w1, nq.1.cell? ⟨w.heap.size, 6, none⟩ = some (.int .i64 mx) := fun nq => (X1.out.keep nq.2 HL1.out).2.2.2.2.2.2.1
     -- s (at most 2048002 letters), z1, z2: the texts that are put together
     obtain ⟨t1, ht1⟩ : ∃ t, s ++ [123] = t := ⟨_, rfl⟩; obtain ⟨t2, ht2⟩ : ∃ t, t1 ++ z1 = t := ⟨_, rfl⟩; obtain ⟨t3, ht3⟩ : ∃ t, t2 ++ [44] = t := ⟨_, rfl⟩; obtain ⟨t4, ht4⟩ : ∃ t, t3 ++ z2 = t := ⟨_, rfl⟩; have l1 : t1.length ≤ 2048003 := by rw [← ht1]; simp; omega
     have l2 : t2.length ≤ 2048024 := by rw [← ht2, List.length_append]; omega
     have l3 : t3.length ≤ 2048025 := by rw [← ht3]; simp; omega
     have l4 : t4.length ≤ 2048046 := by rw [← ht4, List.length_append]; omega
     have d1 := ba_lits s [123]; have d2 := ba_lits t1 z1; have d3 := ba_lits t2 [44]; have d4 := ba_lits t3 z2; rw [ht1] at d1; rw [ht2] at d2; rw [ht3] at d3; rw [ht4] at d4; have f1 := ba_lits s [42]; have f2 := ba_lits s [43]; have f3 := ba_lits s [63]; have f4 := ba_lits t2 [125]; have f5 := ba_lits t2 [44, 125]; have f6 := ba_lits t4 [125]; have o1 : ¬ 9223372036854775807 < s.length + 1 := by omega
     have o2 : ¬ 9223372036854775807 < t1.length + z1.length := by omega
     have o3 : ¬ 9223372036854775807 < t2.length + 1 := by omega
     have o4 : ¬ 9223372036854775807 < t3.length + z2.length := by omega
     have o5 : ¬ 9223372036854775807 < t2.length + 2 := by omega
     have o6 : ¬ 9223372036854775807 < t4.length + 1 := by omega
     have T1 := Lib.hid ht1; have T2 := Lib.hid ht2; have T3 := Lib.hid ht3; have T4 := Lib.hid ht4; clear ht1 ht2 ht3 ht4; have HZ := Lib.hid (rz_all HR.out T1.out T2.out T3.out T4.out); clear HR T1 T2 T3 T4
     repeat' (go_not_at_region 8; first | go_values | go_skip | go_guarded | go_step | go_upon)
     refine wp_region_anyC (by kernel_rfl) w1 ?_; refine tkC 0 rfl ?_; refine tkC 1 rfl ?_; refine tkC 3 rfl ?_; refine tkC 4 rfl ?_; refine genC06 (fun W => Below w1.heap.size w1 W) (Below.refl _ _).drew ?_; intro w2 hb2; refine wpAnyC_ready (CW.of (hb2)) (rs := [2]) (by kernel_rfl) (by simp) ?_; refine (AllReadyC.cons rfl (fun K hK => ?_) AllReadyC.nil); go_simp; refine Calls.mono (hI1 w2 (tab10_below HT1.out.2 hb2)) ?_; rintro _ w3 ⟨rfl, hb3⟩; dsimp only; refine hK _ _ ?_; clear hK K; have hb4 := hb2.trans (hb3.mono hb2.size)
     refine wpAnyC_ready (CW.of (hb4)) (rs := [5]) (by kernel_rfl) (by simp) ?_; refine (AllReadyC.cons rfl (fun K hK => ?_) AllReadyC.nil); go_simp; refine Calls.mono (hI2 w3 (tab10_below HT1.out.2 hb4)) ?_; rintro _ w5 ⟨rfl, hb5⟩; dsimp only; refine hK _ _ ?_; clear hK K; have hb6 := hb4.trans (hb5.mono hb4.size); refine tkC 6 rfl ?_; refine tkC 7 rfl ?_; refine wpAnyC_done (by kernel_rfl) (CW.of (hb6)) (by go_simp <;> with_reducible rfl) ?_; have HB5 := Lib.hid (HB1.out.trans (hb6.mono HB1.out.size)); have x5 := q5 ⟨w5, hb6⟩; have x6 := q6 ⟨w5, hb6⟩; dsimp only at x5 x6
     clear hb2 hb3 hb4 hb5 hb6 q5 q6 hI1 hI2 X1 HT1 HB1 HL1; have hc1 : mn = 0 ∨ mn = 1 ∨ 2 ≤ mn := by omega
     have hc2 : mx = -1 ∨ mx = 0 ∨ mx = 1 ∨ 2 ≤ mx := by omega
     rcases hc1 with rfl | rfl | hm2
     · rcases hc2 with rfl | rfl | rfl | hm3
       · have e := HZ.out.r1 (by omega); subst e; clear HZ; wkk; go_ret; exact ⟨rfl, HB5.out⟩
       · have e := HZ.out.r4 (by omega); subst e; clear HZ; wkk; go_ret; exact ⟨rfl, HB5.out⟩
       · have e := HZ.out.r3 (by omega); subst e; clear HZ; wkk; go_ret; exact ⟨rfl, HB5.out⟩
       · have b1 : (mx == -1) = false := beq_false_of_ne (by omega); have b2 : (mx == 1) = false := beq_false_of_ne (by omega); have b3 : ((0 : Int) == mx) = false := beq_false_of_ne (by omega); have b4 : (mx != 0) = true := bne_iff_ne.2 (by omega); have e := HZ.out.r6 (by omega); subst e; clear HZ; wkk; go_ret; exact ⟨rfl, HB5.out⟩
     · rcases hc2 with rfl | rfl | rfl | hm3
       · have e := HZ.out.r2 (by omega); subst e; clear HZ; wkk; go_ret; exact ⟨rfl, HB5.out⟩
       · have e := HZ.out.r6 (by omega); subst e; clear HZ; wkk; go_ret; exact ⟨rfl, HB5.out⟩
       · have e := HZ.out.r4 (by omega); subst e; clear HZ; wkk; go_ret; exact ⟨rfl, HB5.out⟩
       · have b1 : (mx == -1) = false := beq_false_of_ne (by omega); have b2 : (mx == 1) = false := beq_false_of_ne (by omega); have b3 : ((1 : Int) == mx) = false := beq_false_of_ne (by omega); have b4 : (mx != 1) = true := bne_iff_ne.2 (by omega); have e := HZ.out.r6 (by omega); subst e; clear HZ; wkk; go_ret; exact ⟨rfl, HB5.out⟩
     · have a1 : (mn == 0) = false := beq_false_of_ne (by omega); have a2 : (mn == 1) = false := beq_false_of_ne (by omega)
       rcases hc2 with rfl | rfl | rfl | hm3
       · have b1 : (mn == -1) = false := beq_false_of_ne (by omega); have e := HZ.out.r5 (by omega); subst e; clear HZ; wkk; go_ret; exact ⟨rfl, HB5.out⟩
       · have b4 : ((0 : Int) != mn) = true := bne_iff_ne.2 (by omega); have e := HZ.out.r6 (by omega); subst e; clear HZ; wkk; go_ret; exact ⟨rfl, HB5.out⟩
       · have b4 : ((1 : Int) != mn) = true := bne_iff_ne.2 (by omega); have e := HZ.out.r6 (by omega); subst e; clear HZ; wkk; go_ret; exact ⟨rfl, HB5.out⟩
       · have b1 : (mx == -1) = false := beq_false_of_ne (by omega); have b2 : (mx == 1) = false := beq_false_of_ne (by omega)
         by_cases he : mn = mx
         · subst he; have e := HZ.out.r4 (by omega); subst e; clear HZ; wkk; go_ret; exact ⟨rfl, HB5.out⟩
         · have b3 : (mn == mx) = false := beq_false_of_ne he; have b4 : (mx != mn) = true := bne_iff_ne.2 fun q => he q.symm
           have e := HZ.out.r6 (by omega); subst e; clear HZ; wkk; go_ret; exact ⟨rfl, HB5.out⟩
   · have e : s = ([40] ++ U) ++ [41] := by rw [← hs]; unfold brk; rw [if_pos (by simpa using hk1)]
     have hkb : (r'.k != 1) = true := bne_iff_ne.2 hk1; clear hs hk1 hsl; have g1 := ba_lits [40] U; have hsl : s.length ≤ 2048002 := by rw [e]; simp; omega
     obtain ⟨y, hy⟩ : ∃ y, [40] ++ U = y := ⟨_, rfl⟩; have hyl : y.length ≤ 2048001 := by rw [← hy]; simp; omega
     rw [hy] at g1 e; have g2 := ba_lits y [41]; rw [← e] at g2; have g3 : ¬ 9223372036854775807 < 1 + U.length := by omega
     have g4 : ¬ 9223372036854775807 < y.length + 1 := by omega
     clear e hy; go_enter Tryz.func42, Tryz.ntmps42; wkk; refine Calls.mono (hcall) ?_; rintro _ w1 ⟨rfl, hb1⟩; dsimp only; clear hcall c0 c1 c2 c3 c4 c5 c6 c7; have HB1 := Lib.hid (HB.out.trans (hb1.mono HB.out.size)); have HT1 := Lib.hid (HT.out.keep hb1); have X1 := Lib.hid (HX.out w1 hb1); have HL1 : Hid (w.heap.size < w1.heap.size) := Lib.hid (Nat.lt_of_lt_of_le (by simp) hb1.size); clear hb1 HX HB HT; obtain ⟨c0, c1, c2, c3, c4, c5, c6, c7⟩ := HC.out.keep HB1.out HBb.out; obtain ⟨x0, x1, x2, x3, x4, x5, x6, x7⟩ := X1.out
     repeat' (go_not_at_region 8; first | go_values | go_skip | go_guarded | go_step | go_upon)
     clear c0 c1 c2 c3 c4 c5 c6 c7 x0 x1 x2 x3 x4 x5 x6 x7 g1 g2 g3 g4; have q5 : ∀ nq : WB w1, nq.1.cell? ⟨w.heap.size, 5, none⟩ = some (.int .i64 mn) := fun nq => (X1.out.keep nq.2 HL1.out).2.2.2.2.2.1
     have q6 : ∀ nq : WB w1, nq.1.cell? ⟨w.heap.size, 6, none⟩ = some (.int .i64 mx) := fun nq => (X1.out.keep nq.2 HL1.out).2.2.2.2.2.2.1
     -- s (at most 2048002 letters), z1, z2: the texts that are put together
     obtain ⟨t1, ht1⟩ : ∃ t, s ++ [123] = t := ⟨_, rfl⟩; obtain ⟨t2, ht2⟩ : ∃ t, t1 ++ z1 = t := ⟨_, rfl⟩; obtain ⟨t3, ht3⟩ : ∃ t, t2 ++ [44] = t := ⟨_, rfl⟩; obtain ⟨t4, ht4⟩ : ∃ t, t3 ++ z2 = t := ⟨_, rfl⟩; have l1 : t1.length ≤ 2048003 := by rw [← ht1]; simp; omega
     have l2 : t2.length ≤ 2048024 := by rw [← ht2, List.length_append]; omega
     have l3 : t3.length ≤ 2048025 := by rw [← ht3]; simp; omega
     have l4 : t4.length ≤ 2048046 := by rw [← ht4, List.length_append]; omega
     have d1 := ba_lits s [123]; have d2 := ba_lits t1 z1; have d3 := ba_lits t2 [44]; have d4 := ba_lits t3 z2; rw [ht1] at d1; rw [ht2] at d2; rw [ht3] at d3; rw [ht4] at d4; have f1 := ba_lits s [42]; have f2 := ba_lits s [43]; have f3 := ba_lits s [63]; have f4 := ba_lits t2 [125]; have f5 := ba_lits t2 [44, 125]; have f6 := ba_lits t4 [125]; have o1 : ¬ 9223372036854775807 < s.length + 1 := by omega
     have o2 : ¬ 9223372036854775807 < t1.length + z1.length := by omega
     have o3 : ¬ 9223372036854775807 < t2.length + 1 := by omega
     have o4 : ¬ 9223372036854775807 < t3.length + z2.length := by omega
     have o5 : ¬ 9223372036854775807 < t2.length + 2 := by omega
     have o6 : ¬ 9223372036854775807 < t4.length + 1 := by omega
     have T1 := Lib.hid ht1; have T2 := Lib.hid ht2; have T3 := Lib.hid ht3; have T4 := Lib.hid ht4; clear ht1 ht2 ht3 ht4; have HZ := Lib.hid (rz_all HR.out T1.out T2.out T3.out T4.out); clear HR T1 T2 T3 T4
     repeat' (go_not_at_region 8; first | go_values | go_skip | go_guarded | go_step | go_upon)
     refine wp_region_anyC (by kernel_rfl) w1 ?_; refine tkC 0 rfl ?_; refine tkC 1 rfl ?_; refine tkC 3 rfl ?_; refine tkC 4 rfl ?_; refine genC06 (fun W => Below w1.heap.size w1 W) (Below.refl _ _).drew ?_; intro w2 hb2; refine wpAnyC_ready (CW.of (hb2)) (rs := [2]) (by kernel_rfl) (by simp) ?_; refine (AllReadyC.cons rfl (fun K hK => ?_) AllReadyC.nil); go_simp; refine Calls.mono (hI1 w2 (tab10_below HT1.out.2 hb2)) ?_; rintro _ w3 ⟨rfl, hb3⟩; dsimp only; refine hK _ _ ?_; clear hK K; have hb4 := hb2.trans (hb3.mono hb2.size)
     refine wpAnyC_ready (CW.of (hb4)) (rs := [5]) (by kernel_rfl) (by simp) ?_; refine (AllReadyC.cons rfl (fun K hK => ?_) AllReadyC.nil); go_simp; refine Calls.mono (hI2 w3 (tab10_below HT1.out.2 hb4)) ?_; rintro _ w5 ⟨rfl, hb5⟩; dsimp only; refine hK _ _ ?_; clear hK K; have hb6 := hb4.trans (hb5.mono hb4.size); refine tkC 6 rfl ?_; refine tkC 7 rfl ?_; refine wpAnyC_done (by kernel_rfl) (CW.of (hb6)) (by go_simp <;> with_reducible rfl) ?_; have HB5 := Lib.hid (HB1.out.trans (hb6.mono HB1.out.size)); have x5 := q5 ⟨w5, hb6⟩; have x6 := q6 ⟨w5, hb6⟩; dsimp only at x5 x6
     clear hb2 hb3 hb4 hb5 hb6 q5 q6 hI1 hI2 X1 HT1 HB1 HL1; have hc1 : mn = 0 ∨ mn = 1 ∨ 2 ≤ mn := by omega
     have hc2 : mx = -1 ∨ mx = 0 ∨ mx = 1 ∨ 2 ≤ mx := by omega
     rcases hc1 with rfl | rfl | hm2
     · rcases hc2 with rfl | rfl | rfl | hm3
       · have e := HZ.out.r1 (by omega); subst e; clear HZ; wkk; go_ret; exact ⟨rfl, HB5.out⟩
       · have e := HZ.out.r4 (by omega); subst e; clear HZ; wkk; go_ret; exact ⟨rfl, HB5.out⟩
       · have e := HZ.out.r3 (by omega); subst e; clear HZ; wkk; go_ret; exact ⟨rfl, HB5.out⟩
       · have b1 : (mx == -1) = false := beq_false_of_ne (by omega); have b2 : (mx == 1) = false := beq_false_of_ne (by omega); have b3 : ((0 : Int) == mx) = false := beq_false_of_ne (by omega); have b4 : (mx != 0) = true := bne_iff_ne.2 (by omega); have e := HZ.out.r6 (by omega); subst e; clear HZ; wkk; go_ret; exact ⟨rfl, HB5.out⟩
     · rcases hc2 with rfl | rfl | rfl | hm3
       · have e := HZ.out.r2 (by omega); subst e; clear HZ; wkk; go_ret; exact ⟨rfl, HB5.out⟩
       · have e := HZ.out.r6 (by omega); subst e; clear HZ; wkk; go_ret; exact ⟨rfl, HB5.out⟩
       · have e := HZ.out.r4 (by omega); subst e; clear HZ; wkk; go_ret; exact ⟨rfl, HB5.out⟩
       · have b1 : (mx == -1) = false := beq_false_of_ne (by omega); have b2 : (mx == 1) = false := beq_false_of_ne (by omega); have b3 : ((1 : Int) == mx) = false := beq_false_of_ne (by omega); have b4 : (mx != 1) = true := bne_iff_ne.2 (by omega); have e := HZ.out.r6 (by omega); subst e; clear HZ; wkk; go_ret; exact ⟨rfl, HB5.out⟩
     · have a1 : (mn == 0) = false := beq_false_of_ne (by omega); have a2 : (mn == 1) = false := beq_false_of_ne (by omega)
       rcases hc2 with rfl | rfl | rfl | hm3
       · have b1 : (mn == -1) = false := beq_false_of_ne (by omega); have e := HZ.out.r5 (by omega); subst e; clear HZ; wkk; go_ret; exact ⟨rfl, HB5.out⟩
       · have b4 : ((0 : Int) != mn) = true := bne_iff_ne.2 (by omega); have e := HZ.out.r6 (by omega); subst e; clear HZ; wkk; go_ret; exact ⟨rfl, HB5.out⟩
       · have b4 : ((1 : Int) != mn) = true := bne_iff_ne.2 (by omega); have e := HZ.out.r6 (by omega); subst e; clear HZ; wkk; go_ret; exact ⟨rfl, HB5.out⟩
       · have b1 : (mx == -1) = false := beq_false_of_ne (by omega); have b2 : (mx == 1) = false := beq_false_of_ne (by omega)
         by_cases he : mn = mx
         · subst he; have e := HZ.out.r4 (by omega); subst e; clear HZ; wkk; go_ret; exact ⟨rfl, HB5.out⟩
         · have b3 : (mn == mx) = false := beq_false_of_ne he; have b4 : (mx != mn) = true := bne_iff_ne.2 fun q => he q.symm
           have e := HZ.out.r6 (by omega); subst e; clear HZ; wkk; go_ret; exact ⟨rfl, HB5.out⟩
end
open Go.RowKit Go.Lib
section
variable {h : Nat} (IH : ∀ (r : RN) (t : Re) (w : World), ReAt w h r t → Gd h t → TT w → Calls Tryz.prog 42 #[reV r] w fun e w' => e = .returned (.string ⟨(txt h t).toArray⟩) ∧ Below w.heap.size w w')
include IH
set_option maxRecDepth 100000 in
set_option maxHeartbeats 4000000 in
theorem text_23 (r : RN) (t : Re) (w : World) (hr : ReAt w (h + 1) r t) (hg : Gd (h + 1) t) (hT : TT w) (h23 : t.kind = 2 ∨ t.kind = 3) :
   Calls Tryz.prog 42 #[reV r] w fun e w' => e = .returned (.string ⟨(txt (h + 1) t).toArray⟩) ∧ Below w.heap.size w w' := by
 have HB0 := re_box w r; have et := txt_23 (h := h) (t := t) (by omega) (by omega); have hfew := hg.few; have Hpl := Lib.hid fun k => part_le hg k t.kind
 have Hps := Lib.hid fun (k : Nat) u (hu : t.kids[k]? = some u) => part_snoc (h := h) t.kind hu
 have Hkid := Lib.hid fun (k : Nat) u (hu : t.kids[k]? = some u) => hg.kid (List.mem_of_getElem? hu)
 obtain ⟨k, s0, s1, s2, s3, mn, mx, a, n, cap, kids, rs, rfl, rfl, hn, hnk, hl, _, hrow, hk, hone, hkd⟩ := hr.node; change k = 2 ∨ k = 3 at h23; change txt (h + 1) _ = Lib.join (kids.map (kidT h k)) (sepK k) at et; change kids.length ≤ 512 at hfew; change Hid (∀ j, (Lib.join ((kids.take j).map (kidT h k)) (sepK k)).length ≤ 2048000) at Hpl; change Hid (∀ j u, kids[j]? = some u → (kids.take (j + 1)).map (kidT h k) = (kids.take j).map (kidT h k) ++ [kidT h k u]) at Hps; change Hid (∀ j u, kids[j]? = some u → Gd h u) at Hkid
 obtain ⟨R, hR⟩ : ∃ R, Lib.join (kids.map (kidT h k)) (sepK k) = R := ⟨_, rfl⟩; rw [et, hR]; have HR : Hid (Lib.join ((kids.take n).map (kidT h k)) (sepK k) = R) := Lib.hid (by rw [← hR, hnk, List.take_length]); have HT := Lib.hid (hT.keep HB0); have HB := Lib.hid HB0; have hn512 : n ≤ 512 := by omega
 obtain ⟨a0, cap0, hv, _, _, hc⟩ := hrow.open reC_length; simp only [Value.slice.injEq] at hv; obtain ⟨rfl, -, rfl⟩ := hv
 -- the node's own cells, after
 have HX : Hid (∀ W, Below (w.alloc (.cells (reC ⟨k, (s0, s1, s2, s3), mn, mx, .slice a n cap⟩).toArray 29)).heap.size (w.alloc (.cells (reC ⟨k, (s0, s1, s2, s3), mn, mx, .slice a n cap⟩).toArray 29)) W → Cells8 W w.heap.size 0 ⟨k, (s0, s1, s2, s3), mn, mx, .slice a n cap⟩) := Lib.hid fun W hW => by
   have hlt : w.heap.size < (w.alloc (.cells (reC ⟨k, (s0, s1, s2, s3), mn, mx, .slice a n cap⟩).toArray 29)).heap.size := by simp
   have hgg := Go.heap_alloc_new w (.cells (reC ⟨k, (s0, s1, s2, s3), mn, mx, .slice a n cap⟩).toArray 29); refine ⟨?_, ?_, ?_, ?_, ?_, ?_, ?_, ?_⟩ <;> (rw [hW.cell hlt, cell_of_row _ _ _ _ _ _ hgg]; rfl)
 rw [← hn] at hc; have Hc := Lib.hid hc; have Hk := Lib.hid hk; have Hkd := Lib.hid hkd; have Hone := Lib.hid hone; have Hn := Lib.hid hn; have Hnk := Lib.hid hnk; have HI := Lib.hid IH; obtain ⟨W0, hW0⟩ : ∃ W0, w.alloc (.cells (reC ⟨k, (s0, s1, s2, s3), mn, mx, .slice a n cap⟩).toArray 29) = W0 := ⟨_, rfl⟩; have hs0 : W0.heap.size = w.heap.size + 1 := by rw [← hW0]; simp
 rw [hW0] at HT HB HX; simp only [reC] at hW0; have hk1 : (k == 1) = false := beq_false_of_ne (by omega); have hk4 : (k == 4) = false := beq_false_of_ne (by omega); have h23b : ((k == 2) = true ∧ k = 2) ∨ ((k == 2) = false ∧ k = 3) := by
   rcases h23 with rfl | rfl
   · exact .inl ⟨rfl, rfl⟩
   · exact .inr ⟨rfl, rfl⟩
 clear h23 hR et hg hT HB0 hr IH hone hkd hk hrow hc hn hnk; simp only [reV, reC]; obtain ⟨x0, x1, x2, x3, x4, x5, x6, x7⟩ := HX.out W0 (Below.refl _ _); dsimp only at x0 x1 x2 x3 x4 x5 x6 x7; go_enter Tryz.func42, Tryz.ntmps42; wkk; clear hW0 x0 x1 x2 x3 x4 x5 x6 x7; have HO0 : Hid (OwnR stC 1 (w.heap.size + 1) 9 W0 (.slice none 0 0) ((kids.take 0).map (kidT h k))) := Lib.hid (by rw [List.take_zero]; exact OwnR.nil); have HB00 : Hid (Below (w.heap.size + 1) W0 W0) := Lib.hid (Below.refl _ _)
 go_loopg [6, 103] n (fun gk s6 s103 wr => ∃ j : Nat, s103 = .int .i64 j ∧ j ≤ n ∧ n - j ≤ gk ∧ Hid (OwnR stC 1 (w.heap.size + 1) 9 wr s6 ((kids.take j).map (kidT h k))) ∧ Hid (Below (w.heap.size + 1) W0 wr))
 case atStart => exact ⟨0, rfl, Nat.zero_le _, by omega, HO0, HB00⟩
 case round =>
   clear HO0 HB00; obtain ⟨j, rfl, hj, hgk, HO, HW⟩ := hrel; obtain ⟨x0, x1, x2, x3, x4, x5, x6, x7⟩ := HX.out wr (by rw [hs0]; exact HW.out); dsimp only at x0 x1 x2 x3 x4 x5 x6 x7; clear x1 x2 x3 x4 x5 x6 x7; have hHW : Below w.heap.size w wr := HB.out.trans (HW.out.mono (by omega))
   by_cases hlt : j < n
   · have hlt' : (j : Int) < n := by omega
     obtain ⟨b, off, e, hb, hc⟩ : ∃ b off, a = some ⟨b, off, none⟩ ∧ b < w.heap.size ∧ ∀ (i : Nat) (x : RN) (j : Nat), rs[i]? = some x → j < 8 → w.cell? ⟨b, off + (i * 8 + j), none⟩ = (reC x)[j]? := by
       rcases Hc.out with h | h
       · omega
       · exact h
     subst e; obtain ⟨r', hr'⟩ : ∃ r', rs[j]? = some r' := ⟨_, List.getElem?_eq_getElem (by rw [← Hn.out]; exact hlt)⟩; obtain ⟨t', ht', hrt⟩ := Hk.out j r' hr'; have hone := Hone.out j r' hr'; have hk' : r'.k = t'.kind := by rw [Hkd.out j r' hr']; simp [kdOf, ht']
     obtain ⟨c0, c1, c2, c3, c4, c5, c6, c7⟩ := (row_load hc hr').keep hHW hb; have hgu := Hkid.out j t' ht'; have hul := hgu.len; have hBr : Below wr.heap.size wr (wr.alloc (.cells (reC r').toArray 29)) := re_box wr r'; have hT0 : TT wr := HT.out.keep (by rw [hs0]; exact HW.out); have hcall := HI.out r' t' _ (hrt.keep (hHW.trans (hBr.mono hHW.size))) hgu (hT0.keep hBr); have HBr := Lib.hid hBr; have Hps1 := Lib.hid (Hps.out j t' ht'); obtain ⟨U, hU⟩ : ∃ U, txt h t' = U := ⟨_, rfl⟩; have hkt : kidT h k t' = brk (decide (k = 2 ∧ r'.k = 3)) U := by unfold kidT; rw [hU, hk']
     rw [hU] at hcall hul; rw [hkt] at Hps1; obtain ⟨L, hL⟩ : ∃ L, (kids.take j).map (kidT h k) = L := ⟨_, rfl⟩; have hLl : L.length ≤ 512 := by rw [← hL, List.length_map, List.length_take]; omega
     rw [hL] at HO Hps1; have hk0 : (wr.alloc (.cells (reC r').toArray 29)).cell? ⟨wr.heap.size, 0, none⟩ = some (.int .i64 r'.k) := by rw [cell_of_row _ _ _ _ _ _ (Go.heap_alloc_new wr _)]; rfl
     have HK0 := Lib.hid hk0; have HLw : Hid (wr.heap.size < (wr.alloc (.cells (reC r').toArray 29)).heap.size) := Lib.hid (by simp); clear hL hkt hU hgu hrt hk' hT0 hBr hc hHW ht' hr' hk0; simp only [reV, reC] at hcall HBr HK0 HLw; wkka (first | (refine store_re (r := r') hone _ _ rfl rfl rfl rfl ?_; simp only [reC])); refine Calls.mono (hcall) ?_; rintro _ w1 ⟨rfl, hb1⟩; dsimp only; clear hcall c0 c1 c2 c3 c4 c5 c6 c7 x0; have y0 : w1.cell? ⟨wr.heap.size, 0, none⟩ = some (.int .i64 r'.k) := by rw [hb1.cell HLw.out]; exact HK0.out
     have hb2 := HBr.out.trans (hb1.mono HBr.out.size); have hown := OwnR.keep HO.out hb2 (Nat.le_refl _); have HW1 : Hid (Below (w.heap.size + 1) W0 w1) := Lib.hid (HW.out.trans (hb2.mono (by rw [← hs0]; exact HW.out.size))); have hwB : w.heap.size + 1 ≤ w1.heap.size := by rw [← hs0]; exact HW1.out.size
     obtain ⟨x0, x1, x2, x3, x4, x5, x6, x7⟩ := HX.out w1 (by rw [hs0]; exact HW1.out); dsimp only at x0 x1 x2 x3 x4 x5 x6 x7; clear x1 x2 x3 x4 x5 x6 x7 hb2 hb1 HBr HK0 HLw HW HO; have hmeas : n - (j + 1) < gk := by omega
     rcases h23b with ⟨hkb, hke⟩ | ⟨hkb, hke⟩
     · by_cases h3 : r'.k = 3
       · have hY : brk (decide (k = 2 ∧ r'.k = 3)) U = ([40] ++ U) ++ [41] := by unfold brk; rw [if_pos (by simp [hke, h3])]
         rw [hY] at Hps1; have g1 := ba_lits [40] U; obtain ⟨y, hy⟩ : ∃ y, [40] ++ U = y := ⟨_, rfl⟩; have hyl : y.length ≤ 2048001 := by rw [← hy]; simp; omega
         rw [hy] at g1 Hps1; have g2 := ba_lits y [41]; have g3 : ¬ 9223372036854775807 < 1 + U.length := by omega
         have g4 : ¬ 9223372036854775807 < y.length + 1 := by omega
         obtain ⟨V, hV⟩ : ∃ V, y ++ [41] = V := ⟨_, rfl⟩; rw [hV] at g2 Hps1; have h3b : (r'.k == 3) = true := by rw [h3]; rfl
         clear hY hy h3 hke hV; wkka (first | (at_builtin; go_loud (refine app_one 16 w1.heap.size rfl V stC_len (by intro y hy; simp [stC] at hy; subst hy; rfl) Tryz.underlying31 info_stT rfl rfl _ _ rfl rfl rfl rfl hown hwB (by omega) (by unfold maxLen; omega) ?_); intro v4 w4 hown4 hb4 hk4 _)); go_roundg (n - (j + 1))
         case rel => exact ⟨j + 1, by go_num, by omega, Nat.le_refl _, Lib.hid (by rw [Hps1.out]; exact hown4), Lib.hid (HW1.out.trans hb4)⟩
         case measure => exact hmeas
       · have hY : brk (decide (k = 2 ∧ r'.k = 3)) U = U := by unfold brk; rw [if_neg (by simp [h3])]
         rw [hY] at Hps1; have h3b : (r'.k == 3) = false := beq_false_of_ne h3; generalize U = V at Hps1 hul ⊢; clear hY h3 hke; wkka (first | (at_builtin; go_loud (refine app_one 16 w1.heap.size rfl V stC_len (by intro y hy; simp [stC] at hy; subst hy; rfl) Tryz.underlying31 info_stT rfl rfl _ _ rfl rfl rfl rfl hown hwB (by omega) (by unfold maxLen; omega) ?_); intro v4 w4 hown4 hb4 hk4 _)); go_roundg (n - (j + 1))
         case rel => exact ⟨j + 1, by go_num, by omega, Nat.le_refl _, Lib.hid (by rw [Hps1.out]; exact hown4), Lib.hid (HW1.out.trans hb4)⟩
         case measure => exact hmeas
     · have hY : brk (decide (k = 2 ∧ r'.k = 3)) U = U := by unfold brk; rw [if_neg (by simp [hke])]
       rw [hY] at Hps1; generalize U = V at Hps1 hul ⊢; clear hY hke; wkka (first | (at_builtin; go_loud (refine app_one 16 w1.heap.size rfl V stC_len (by intro y hy; simp [stC] at hy; subst hy; rfl) Tryz.underlying31 info_stT rfl rfl _ _ rfl rfl rfl rfl hown hwB (by omega) (by unfold maxLen; omega) ?_); intro v4 w4 hown4 hb4 hk4 _)); go_roundg (n - (j + 1))
       case rel => exact ⟨j + 1, by go_num, by omega, Nat.le_refl _, Lib.hid (by rw [Hps1.out]; exact hown4), Lib.hid (HW1.out.trans hb4)⟩
       case measure => exact hmeas
   · obtain rfl : j = n := by omega
     have hJ := join_own HO.out (sepK k) (by have := Hpl.out j; omega) (by rw [List.length_map, List.length_take]; omega); rw [HR.out] at hJ; clear hlt
     rcases h23b with ⟨hkb, rfl⟩ | ⟨hkb, rfl⟩
     · change Calls Tryz.prog 18 #[_, .string ⟨#[]⟩] wr _ at hJ; wkk; refine Calls.mono (hJ) ?_; rintro _ w1 ⟨rfl, hb1⟩; dsimp only; clear hJ; wkk; go_ret; exact ⟨rfl, hHW.trans (hb1.mono hHW.size)⟩
     · change Calls Tryz.prog 18 #[_, .string ⟨#[124]⟩] wr _ at hJ; wkk; refine Calls.mono (hJ) ?_; rintro _ w1 ⟨rfl, hb1⟩; dsimp only; clear hJ; wkk; go_ret; exact ⟨rfl, hHW.trans (hb1.mono hHW.size)⟩
end
/-- a tree, written -/
theorem regex_text : ∀ (h : Nat) (r : RN) (t : Re) (w : World), ReAt w h r t → Gd h t → TT w → Calls Tryz.prog 42 #[reV r] w fun e w' => e = .returned (.string ⟨(txt h t).toArray⟩) ∧ Below w.heap.size w w'
 | 0, _, _, _, hr, _, _ => hr.elim
 | h + 1, r, t, w, hr, hg, hT => by
   by_cases h14 : t.kind = 1 ∨ t.kind = 4
   · exact text_14 (regex_text h) r t w hr hg hT h14
   · exact text_23 (regex_text h) r t w hr hg hT (by have := kind_open (shp_open hg.shp).1; omega)
open Go.RowKit Go.Lib
section
variable {h : Nat} (IH : ∀ (r : RN) (t : Re) (w : World), ReAt w h r t → Gd h t → TT w → Calls Tryz.prog 40 #[reV r] w fun e w' => e = .returned (.string ⟨(txt h t).toArray⟩) ∧ Below w.heap.size w w')
include IH
end
open Go.RowKit Go.Lib
section
variable {h : Nat} (IH : ∀ (r : RN) (t : Re) (w : World), ReAt w h r t → Gd h t → TT w → Calls Tryz.prog 40 #[reV r] w fun e w' => e = .returned (.string ⟨(txt h t).toArray⟩) ∧ Below w.heap.size w w')
include IH
end
open Go.RowKit Go.Lib
/-- what Print tells -/
noncomputable def prR (h : Nat) (t : Re) : List UInt8 × Int := if rgt h t = 0 then (if 512 < (txt h t).length then ([], 2) else (txt h t, 0)) else ([], rgt h t)
theorem rgt_zero {h : Nat} {t : Re} (hz : rgt h t = 0) (ha : allW h t) : Gd h t := by
 unfold rgt at hz
 split at hz
 · cases hz
 · split at hz
   · cases hz
   · split at hz
     · rename_i h1 h2 h3; exact ⟨h3, by omega, ha⟩
     · cases hz
set_option maxRecDepth 100000 in
set_option maxHeartbeats 1000000 in
theorem regex_Print (h : Nat) (r : RN) (t : Re) (w : World) (hr : ReAt w h r t) (ha : allW h t) (hT : TT w) : Calls Tryz.prog 15 #[reV r] w fun e w' => e = .returned (.tuple #[.string ⟨(prR h t).1.toArray⟩, .int .i64 (prR h t).2]) ∧ Below w.heap.size w w' := by
 have HB := Lib.hid (re_box w r); have hlt : w.heap.size < (w.alloc (.cells (reC r).toArray 29)).heap.size := by simp
 have HX : Hid (∀ W, Below (w.alloc (.cells (reC r).toArray 29)).heap.size (w.alloc (.cells (reC r).toArray 29)) W → Cells8 W w.heap.size 0 r) := Lib.hid fun W hW => by
   have hg := Go.heap_alloc_new w (.cells (reC r).toArray 29); refine ⟨?_, ?_, ?_, ?_, ?_, ?_, ?_, ?_⟩ <;> (rw [hW.cell hlt, cell_of_row _ _ _ _ _ _ hg]; rfl)
 have hR := regex_Right h r t _ (hr.keep HB.out); have HTx : Hid (rgt h t = 0 → ∀ W, Below w.heap.size w W → Calls Tryz.prog _ #[reV r] W fun e w' => e = .returned (.string ⟨(txt h t).toArray⟩) ∧ Below W.heap.size W w') := Lib.hid fun hz W hW => regex_text h r t W (hr.keep hW) (rgt_zero hz ha) (hT.keep hW)
 have HLn : Hid (rgt h t = 0 → (txt h t).length ≤ 2048000) := Lib.hid fun hz => (rgt_zero hz ha).len
 have hone := hr.one; have HP : Hid ((rgt h t ≠ 0 → prR h t = ([], rgt h t)) ∧ (rgt h t = 0 → 512 < (txt h t).length → prR h t = ([], 2)) ∧ (rgt h t = 0 → ¬ 512 < (txt h t).length → prR h t = (txt h t, 0))) := Lib.hid ⟨fun h1 => by unfold prR; rw [if_neg h1], fun h1 h2 => by unfold prR; rw [if_pos h1, if_pos h2], fun h1 h2 => by unfold prR; rw [if_pos h1, if_neg h2]⟩; generalize rgt h t = z at hR HTx HLn HP; generalize txt h t = U at HTx HLn HP; generalize prR h t = R at HP ⊢; clear hr ha hT hlt; simp only [reV, reC] at hR HB HX HTx ⊢
 by_cases hz : z = 0
 · have hTx := HTx.out hz; have hl := HLn.out hz; have HP2 := Lib.hid (HP.out.2.1 hz); have HP3 := Lib.hid (HP.out.2.2 hz); subst hz; clear HTx HLn HP; have HTx := Lib.hid hTx; clear hTx
   by_cases h5 : 512 < U.length
   · obtain rfl := HP2.out h5; have h5' : (512 : Int) < U.length := by omega
     clear HP2 HP3; go_enter Tryz.func15, Tryz.ntmps15; wkk; refine Calls.mono (hR) ?_; rintro _ w1 ⟨rfl, hb1⟩; dsimp only; obtain ⟨c0, c1, c2, c3, c4, c5, c6, c7⟩ := HX.out w1 hb1; have HB1 := Lib.hid (HB.out.trans (hb1.mono HB.out.size)); clear hb1 HX HB hR; wkk; refine Calls.mono (HTx.out w1 HB1.out) ?_; rintro _ w2 ⟨rfl, hb2⟩; dsimp only; have HB2 := Lib.hid (HB1.out.trans (hb2.mono HB1.out.size)); clear hb2 HB1 HTx c0 c1 c2 c3 c4 c5 c6 c7; wkk; go_ret2; exact ⟨rfl, HB2.out⟩
   · obtain rfl := HP3.out h5; have h5' : ¬ (512 : Int) < U.length := by omega
     clear HP2 HP3; go_enter Tryz.func15, Tryz.ntmps15; wkk; refine Calls.mono (hR) ?_; rintro _ w1 ⟨rfl, hb1⟩; dsimp only; obtain ⟨c0, c1, c2, c3, c4, c5, c6, c7⟩ := HX.out w1 hb1; have HB1 := Lib.hid (HB.out.trans (hb1.mono HB.out.size)); clear hb1 HX HB hR; wkk; refine Calls.mono (HTx.out w1 HB1.out) ?_; rintro _ w2 ⟨rfl, hb2⟩; dsimp only; have HB2 := Lib.hid (HB1.out.trans (hb2.mono HB1.out.size)); clear hb2 HB1 HTx c0 c1 c2 c3 c4 c5 c6 c7; wkk; go_ret2; exact ⟨rfl, HB2.out⟩
 · obtain rfl := HP.out.1 hz; have hzb : (z != 0) = true := bne_iff_ne.2 hz; clear HTx HLn HP hz; go_enter Tryz.func15, Tryz.ntmps15; wkk; refine Calls.mono (hR) ?_; rintro _ w1 ⟨rfl, hb1⟩; dsimp only; have HB1 := Lib.hid (HB.out.trans (hb1.mono HB.out.size)); clear hb1 HX HB hR; wkk; go_ret2; exact ⟨rfl, HB1.out⟩
end Go.Proofs.YtonkenlkigfeoaaGreatDoor
