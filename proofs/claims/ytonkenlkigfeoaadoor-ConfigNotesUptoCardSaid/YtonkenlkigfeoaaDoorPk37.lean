/- Walk: fretsawlaw17.ConfigNotes (P17.1): lines that say nothing, laid between a configuration's lines, change nothing of what is read. Condition: the text and the numbers are of bounded bulk. -/
import Derived.Test.YtonkenlkigfeoaaDoorPk35
import Derived.Test.YtonkenlkigfeoaaDoorPk36
import Derived.Test.YtonkenlkigfeoaaDoorPk02
import Derived.Test.YtonkenlkigfeoaaDoorPk18
import Derived.Test.YtonkenlkigfeoaaDoorPk01
import Derived.Shelf.Strings.PiecesUse
namespace Go.Proofs.YtonkenlkigfeoaaDoor
open Go.RowKit Go.Lib
set_option maxRecDepth 100000 in
theorem law_alive17 (w : World) : Calls Tryd.prog 4 #[] w fun e w' => e = .returned (.bool true) ∧ Below w.heap.size w w' := by
 have h1 := utf_Count ⟨#[97]⟩ (by show 1 ≤ _; omega); rw [count_a] at h1; go_enter Tryd.func4, Tryd.ntmps4; wkk; refine Calls.mono (h1 _) ?_; rintro _ w1 ⟨rfl, hb1⟩; dsimp only; wkk; go_ret; exact ⟨rfl, hb1⟩
theorem cfZ_at (w : World) : CfAt w 1 cvZ.r cvZ.p cvZ.m cvZ.n cvZ.b cvZ.a ⟨[], .mk 0 (0, 0, 0, 0) 0 0 [], [], [], [], []⟩ := by
 have nl : ∀ {α : Type} {f : α → List Value} {sz : Nat}, RowOf f sz w (.slice none 0 0) ([] : List α) := ⟨none, 0, rfl, Nat.le_refl _, Nat.zero_le _, by simp, .inl rfl⟩; exact ⟨⟨[], nl, rfl, fun i u l h => by simp at h⟩, ⟨⟨rfl, rfl, rfl, rfl⟩, ⟨by unfold I64; show _ ∧ _; exact ⟨by decide, by decide⟩, by unfold I64; exact ⟨by decide, by decide⟩, by unfold I64; exact ⟨by decide, by decide⟩⟩, Nat.zero_le _, [], nl, rfl, fun i r t h => by simp at h⟩, nl, nl, nl, nl⟩
theorem store_cf {o : Oper} {a : Act} {w : World} {K : Act → World → Prop} {Q : Exit → Act → World → Prop} {V : CV} (hV : One6 V) (x y : Operand) {old : Array Value} (ho : o.op = .store 36 x y)
   (hx : a.eval x = .pointer (some ⟨w.heap.size, 0, none⟩)) (hy : a.eval y = cfV V) (hold : old.size = 13)
   (h : K (a.put o.dst undef) (w.alloc (.cells (cfC V.r V.p V.m V.n V.b V.a) 36))) : o.wp Tryd.prog a (w.alloc (.cells old 36)) K Q :=
 store_new 36 x y _ ho hx hy info_cfp hold (by
   obtain ⟨h1, h2, h3, h4, h5, h6⟩ := hV; have h7 : ∀ (k : IntKind) (n : Int), (Value.int k n).oneCell' = true := fun _ _ => rfl
   simp [cfC, h1, h2, h3, h4, h5, h6, h7]) h
theorem CfAt.one6 {w : World} {h : Nat} {V : CV} {c : ConfP} (H : CfAt w h V.r V.p V.m V.n V.b V.a c) : One6 V := by
 have one : ∀ {α : Type} {f : α → List Value} {sz : Nat} {v : Value} {l : List α}, RowOf f sz w v l → v.oneCell' = true := fun h => by
   obtain ⟨a, cap, e, _⟩ := h; rw [e]; rfl
 obtain ⟨vs, hp, _⟩ := H.ps; exact ⟨H.re.one, one hp, one H.ms, one H.ns, one H.bf, one H.af⟩
/-- the text as it stands ahead of line k -/
def NInv (l0 : List UInt8) (ls : List (List UInt8)) (k : Nat) (t : List UInt8) : Prop := (k = 0 ∧ t = []) ∨ ∃ j, k = j + 1 ∧ Woven l0 ls j t
theorem ba_cat (a b : ByteArray) : (a ++ b).data.toList = a.data.toList ++ b.data.toList := by simp [ByteArray.data_append]
/-- which text is laid ahead of a line -/
theorem mod4 (z : Int) : Int.tmod (wrap64 (Int.tmod z 4 + 4)) 4 = 0 ∨ Int.tmod (wrap64 (Int.tmod z 4 + 4)) 4 = 1 ∨ Int.tmod (wrap64 (Int.tmod z 4 + 4)) 4 = 2 ∨ Int.tmod (wrap64 (Int.tmod z 4 + 4)) 4 = 3 := by
 have h1 := Int.tmod_lt_of_pos z (show (0 : Int) < 4 by decide); have h2 : -4 < Int.tmod z 4 := by
   have h := Int.tmod_lt_of_pos (-z) (show (0 : Int) < 4 by decide); rw [Int.neg_tmod] at h; omega
 have h3 : 0 ≤ Int.tmod (Int.tmod z 4 + 4) 4 := Int.tmod_nonneg _ (by omega); have h4 := Int.tmod_lt_of_pos (Int.tmod z 4 + 4) (show (0 : Int) < 4 by decide); have h5 : wrap64 (Int.tmod z 4 + 4) = Int.tmod z 4 + 4 := by unfold wrap64; omega
 rw [h5]; omega
theorem take_txt (ls : List (List UInt8)) (j : Nat) : (txt1 (ls.take j)).length ≤ (txt1 ls).length := by
 have h := congrArg List.length (txt1_app (ls.take j) (ls.drop j)); rw [List.take_append_drop, List.length_append] at h; omega
theorem mem_txt : ∀ {ls : List (List UInt8)} {l : List UInt8}, l ∈ ls → l.length ≤ (txt1 ls).length
 | [], _, h => by simp at h
 | a :: ls, l, h => by
   rw [txt1_cons, List.length_cons, List.length_append]
   rcases List.mem_cons.1 h with rfl | h
   · omega
   · have := mem_txt h; omega
theorem ninv_size {l0 : List UInt8} {ls : List (List UInt8)} {k : Nat} {t : List UInt8} (h : NInv l0 ls k t) (hk : k ≤ ls.length + 1) : t.length ≤ (l0 ++ txt1 ls).length + 9 * ls.length := by
 rcases h with ⟨_, rfl⟩ | ⟨j, rfl, ls', _, _, h3⟩
 · simp
 · have := take_txt ls j; simp only [List.length_append] at h3 ⊢; omega
theorem NInv.zero {l0 : List UInt8} {ls : List (List UInt8)} {t : List UInt8} (h : NInv l0 ls 0 t) : t = [] := by
 rcases h with ⟨_, h⟩ | ⟨j, h, _⟩
 · exact h
 · omega
theorem NInv.one {l0 : List UInt8} {ls : List (List UInt8)} : NInv l0 ls 1 l0 := .inr ⟨0, rfl, Woven.zero _ _⟩
theorem NInv.next {l0 : List UInt8} {ls : List (List UInt8)} {j : Nat} {t l t' : List UInt8} (h : NInv l0 ls (j + 1) t) (hl : ls[j]? = some l) (n : Nat) (ht : t' = t ++ 10 :: ((exB n).data.toList ++ l)) : NInv l0 ls (j + 2) t' := by
 rcases h with ⟨h, _⟩ | ⟨j', h, hw⟩
 · omega
 · obtain rfl : j = j' := by omega
   exact .inr ⟨j + 1, rfl, ht ▸ hw.step hl n⟩
theorem NInv.end {l0 : List UInt8} {ls : List (List UInt8)} {t : List UInt8} (h : NInv l0 ls (ls.length + 1) t) : Woven l0 ls ls.length t := by
 rcases h with ⟨h, _⟩ | ⟨j, h, hw⟩
 · omega
 · obtain rfl : ls.length = j := by omega
   exact hw
set_option maxRecDepth 100000 in
set_option maxHeartbeats 4000000 in
theorem law_ConfigNotes (w : World) (S : ByteArray) (hs : S.size ≤ 1048576) (a : Option Addr) (len cap : Nat) (zs : List Int) (hrow : IsRow .i64 w a len cap zs) (_ : cap ≤ 1048576) (hT : ∃ m, w.cell? ⟨0, 0, none⟩ = some (.int .i64 m)) :
   Calls Tryd.prog 3 #[.string S, .slice a len cap] w fun e w' => e = .returned (.bool true) ∧ Below w.heap.size w w' := by
 obtain ⟨m, hm⟩ := hT; obtain ⟨aa, cc, hra, _, hrd⟩ := RdI.of_row hrow; rw [hra]; generalize zs.take len = L at hrd ⊢; clear hrow hra; go_enter Tryd.func3, Tryd.ntmps3; wkk; refine Calls.mono ((law_alive17 _)) ?_; rintro _ w1 ⟨rfl, hb1⟩; dsimp only; wkk; refine Calls.mono ((Tryd.strings_Split S ⟨#[10]⟩ m w1 (by omega) (by rw [hb1.cell (World.block_lt_of_cell? _ _ hm)]; exact hm) (by show 1 ≤ 1; omega))) ?_; rintro _ w2 ⟨rfl, rfl⟩; dsimp only; obtain ⟨l0, ls, hl1, hl2, hl3, hl4⟩ := split_lines _ S rfl; have hlen : countB S ⟨#[10]⟩ = ls.length := by
   have := Lib.splitB_all ⟨#[10]⟩ (by show 1 ≤ 1; omega) 0 _ S rfl; rw [hl1, List.length_cons] at this; omega
 rw [hl1, hlen]; clear hl1 hlen; have hcl : ∀ k l, (l0 :: ls)[k]? = some l → (w1.alloc (.cells ((l0 :: ls).map Value.string).toArray 9)).cell? ⟨w1.heap.size, k, none⟩ = some (.string l) := fun k l h => Lib.pieces_cell_at w1 _ _ k l h
 have hb2 : Below w.heap.size w (w1.alloc (.cells ((l0 :: ls).map Value.string).toArray 9)) := hb1.alloc hb1.size _; have hbk : w1.heap.size < (w1.alloc (.cells ((l0 :: ls).map Value.string).toArray 9)).heap.size := by simp
 obtain ⟨b1, hbb⟩ : ∃ b1, w1.heap.size = b1 := ⟨_, rfl⟩; generalize w1.alloc (.cells ((l0 :: ls).map Value.string).toArray 9) = w2 at hcl hb2 hbk ⊢; rw [hbb] at hcl hbk ⊢; clear hb1 hbb hm; have HC := Lib.hid hcl; have HB := Lib.hid hb2; have HK := Lib.hid hbk; have HL := Lib.hid hl4; have HR := Lib.hid hrd; have HL2 := Lib.hid hl2; have HL3 := Lib.hid hl3; clear hcl hb2 hbk hl4 hrd hl2 hl3; wkk
 · go_ret; exact ⟨rfl, HB.out⟩
 rotate_left
 · go_ret; exact ⟨rfl, HB.out⟩
 rename_i hsm hln Q2 K2; have HS2 := Lib.hid (show S.size ≤ 20000 by omega); have HN2 : Hid (ls.length ≤ 199) := Lib.hid (by have := hln.2; omega); have HT2 : Hid ((l0.data.toList ++ txt1 (ls.map (·.data.toList))).length ≤ 20000) := Lib.hid (by rw [← HL2.out, ba_len]; exact HS2.out); clear hsm hln
 go_loopw [6, 29] (fun s6 s29 wr => ∃ (k : Nat) (t : ByteArray), s6 = .string t ∧ s29 = .int .i64 k ∧ k ≤ ls.length + 1 ∧ Hid (NInv l0.data.toList (ls.map (·.data.toList)) k t.data.toList) ∧ Hid (Below w2.heap.size w2 wr)) (fun _ s29 _ => (ls.length + 1 - RowKit.intOf s29).toNat)
 case atStart => exact ⟨0, ⟨#[]⟩, rfl, rfl, by omega, Lib.hid (.inl ⟨rfl, rfl⟩), Lib.hid (Below.refl _ _)⟩
 case round =>
   obtain ⟨k, t, rfl, rfl, hk, hI, hB⟩ := hrel; have hts : t.size ≤ 21800 := by
     have h1 := ninv_size hI.out (by rw [List.length_map]; exact hk); have h2 := HT2.out; have h3 := HN2.out; rw [ba_len, List.length_map] at h1; omega
   by_cases hkl : k < ls.length + 1
   · obtain ⟨l, hl⟩ : ∃ l, (l0 :: ls)[k]? = some l := ⟨_, List.getElem?_eq_getElem (by rw [List.length_cons]; exact hkl)⟩; have hcl : wr.cell? ⟨b1, k, none⟩ = some (.string l) := by rw [hB.out.cell HK.out]; exact HC.out k l hl
     have hls : l.size ≤ 20000 := by
       have h2 := HT2.out; rw [List.length_append] at h2
       rcases List.mem_cons.1 (List.mem_of_getElem? hl) with rfl | hm
       · rw [ba_len] at h2; omega
       · have h3 := mem_txt (List.mem_map_of_mem (f := fun x : ByteArray => x.data.toList) hm); rw [ba_len] at h3; omega
     rcases k with _ | j
     · obtain rfl : l0 = l := by simpa using hl
       have ht : t = ⟨#[]⟩ := by
         have h := hI.out.zero; obtain ⟨⟨t⟩⟩ := t; simp at h; subst h; rfl
       subst ht; clear hl hI hts; wkk
       go_roundw
       · exact ⟨1, _, rfl, rfl, by omega, Lib.hid (by rw [ba_cat]; exact NInv.one), hB⟩
       · simp [RowKit.intOf]
     · have hl' : (ls.map (·.data.toList))[j]? = some l.data.toList := by
         rw [List.getElem?_cons_succ] at hl; rw [List.getElem?_map, hl]; rfl
       have HLj := Lib.hid hl'; have hj : j ≤ 199 := by have := HN2.out; omega
       have hwj : wrap64 (j : Int) = j := by
         unfold wrap64; omega
       clear hl hl'
       by_cases hm : j < L.length
       · obtain ⟨b, off, rfl, hbw, hz⟩ := HR.out.resolve_left (fun e => by rw [e] at hm; simp at hm); have hzc : wr.cell? ⟨b, off + j, none⟩ = some (.int .i64 (L.getD j 0)) := by rw [hB.out.cell (Nat.lt_of_lt_of_le hbw HB.out.size), HB.out.cell hbw]; exact hz j hm
         have hbr : b < wr.heap.size := Nat.lt_of_lt_of_le hbw (Nat.le_trans HB.out.size hB.out.size); have Hz := Lib.hid hz; clear hz hbw; generalize L.getD j 0 = z at hzc; have HBr : Hid (Below wr.heap.size wr (wr.alloc (.cells #[.string ⟨#[]⟩, .string ⟨#[10]⟩, .string ⟨#[35, 32, 112, 97, 115, 115, 32, 34, 10]⟩, .string ⟨#[35, 10, 10]⟩] 9))) := Lib.hid ((Below.refl _ _).alloc (Nat.le_refl _) _)
         rcases mod4 z with hn | hn | hn | hn
         · wkk
           go_roundw
           · exact ⟨j + 2, _, rfl, by go_num, by omega, Lib.hid (hI.out.next HLj.out 0 (by rw [ba_cat, ba_cat, ba_cat]; simp [exB])), Lib.hid (hB.out.trans (HBr.out.mono hB.out.size))⟩
           · simp [RowKit.intOf]; omega
         · wkk
           go_roundw
           · exact ⟨j + 2, _, rfl, by go_num, by omega, Lib.hid (hI.out.next HLj.out 1 (by rw [ba_cat, ba_cat, ba_cat]; simp [exB])), Lib.hid (hB.out.trans (HBr.out.mono hB.out.size))⟩
           · simp [RowKit.intOf]; omega
         · wkk
           go_roundw
           · exact ⟨j + 2, _, rfl, by go_num, by omega, Lib.hid (hI.out.next HLj.out 2 (by rw [ba_cat, ba_cat, ba_cat]; simp [exB])), Lib.hid (hB.out.trans (HBr.out.mono hB.out.size))⟩
           · simp [RowKit.intOf]; omega
         · wkk
           go_roundw
           · exact ⟨j + 2, _, rfl, by go_num, by omega, Lib.hid (hI.out.next HLj.out 3 (by rw [ba_cat, ba_cat, ba_cat]; simp [exB])), Lib.hid (hB.out.trans (HBr.out.mono hB.out.size))⟩
           · simp [RowKit.intOf]; omega
       · wkk
         go_roundw
         · exact ⟨j + 2, _, rfl, by go_num, by omega, Lib.hid (hI.out.next HLj.out 0 (by rw [ba_cat, ba_cat]; simp [exB])), hB⟩
         · simp [RowKit.intOf]; omega
   · obtain rfl : k = ls.length + 1 := by omega
     have HW := Lib.hid hI.out; have HBr := Lib.hid (HB.out.trans (hB.out.mono HB.out.size)); have HTS := Lib.hid hts; clear hI hB hts hk hkl; wkk; refine Calls.mono ((cf_parse S wr)) ?_; rintro _ w3 ⟨V, er, at', rfl, hb3, hp⟩; dsimp only; have h6 : One6 V := by
       rcases parsC_any hp with ⟨_, rfl, _⟩ | ⟨_, c, hc, _⟩
       · exact ⟨rfl, rfl, rfl, rfl, rfl, rfl⟩
       · exact hc.one6
     have hk3 := (Below.refl w3.heap.size w3).alloc (Nat.le_refl _) (.cells (cfC V.r V.p V.m V.n V.b V.a) 36); have HB3 := Lib.hid ((HBr.out.trans (hb3.mono HBr.out.size)).trans (hk3.mono (Nat.le_trans HBr.out.size hb3.size))); have HR3 := Lib.hid (CBox.new w3 V.r V.p V.m V.n V.b V.a); have HK3 := Lib.hid hk3; have HP3 := Lib.hid hp; clear hp hb3 hk3 HBr
     repeat' (go_not_at_region 17; first | (refine store_cf (V := V) h6 _ _ rfl rfl rfl rfl ?_; dsimp only [Act.put]) | go_values | go_skip | go_guarded | go_step | go_upon)
     generalize w3.alloc (.cells (cfC V.r V.p V.m V.n V.b V.a) 36) = w4 at HB3 HR3 HK3 ⊢; wkk; refine Calls.mono ((cf_parse t w4)) ?_; rintro _ w5 ⟨V2, er2, at2, rfl, hb5, hp5⟩; dsimp only; have h62 : One6 V2 := by
       rcases parsC_any hp5 with ⟨_, rfl, _⟩ | ⟨_, c, hc, _⟩
       · exact ⟨rfl, rfl, rfl, rfl, rfl, rfl⟩
       · exact hc.one6
     have hk5 := (Below.refl w5.heap.size w5).alloc (Nat.le_refl _) (.cells (cfC V2.r V2.p V2.m V2.n V2.b V2.a) 36)
     obtain ⟨hn1, hn2, hn3⟩ := woven_read (t := t.data.toList) HL2.out (NInv.end (by rw [List.length_map]; exact HW.out)) HL3.out (by
       intro m hm; obtain ⟨x, hx, rfl⟩ := List.mem_map.1 hm
       exact HL.out x hx)
     have hsz : S.data.toList.length ≤ 65536 := by rw [ba_len]; have := HS2.out; omega
     have htz : t.data.toList.length ≤ 65536 := by rw [ba_len]; have := HTS.out; omega
     obtain ⟨hee, hcc⟩ := parsC_alike hsz htz hn1 hn2 HP3.out hp5; have hb35 := HK3.out.trans (hb5.mono HK3.out.size); have HB5 := Lib.hid ((HB3.out.trans (hb5.mono HB3.out.size)).trans (hk5.mono (Nat.le_trans HB3.out.size hb5.size))); have HR5 := Lib.hid ((HR3.out.keep hb5).keep hk5); have HS5 := Lib.hid (CBox.new w5 V2.r V2.p V2.m V2.n V2.b V2.a)
     have HCC : Hid ((V = cvZ ∧ V2 = cvZ) ∨ ∃ c : ConfP, CfAt (w5.alloc (.cells (cfC V2.r V2.p V2.m V2.n V2.b V2.a) 36)) 30 V.r V.p V.m V.n V.b V.a c ∧ CfAt (w5.alloc (.cells (cfC V2.r V2.p V2.m V2.n V2.b V2.a) 36)) 30 V2.r V2.p V2.m V2.n V2.b V2.a c) := Lib.hid (by
       rcases hcc with h | ⟨c, h1, h2⟩
       · exact .inl h
       · exact .inr ⟨c, (h1.keep hb35).keep (hk5), h2.keep hk5⟩)
     subst hee; clear hp5 hb5 hk5 hn1 hn2 hn3 hsz htz hcc hb35 HB3 HR3 HK3 HP3
     repeat' (go_not_at_region 18; first | (refine store_cf (V := V2) h62 _ _ rfl rfl rfl rfl ?_; dsimp only [Act.put]) | go_values | go_skip | go_guarded | go_step | go_upon)
     generalize w5.alloc (.cells (cfC V2.r V2.p V2.m V2.n V2.b V2.a) 36) = w6 at HB5 HR5 HS5 HCC ⊢; have hl : Calls Tryd.prog 7 #[cfV V, cfV V2] w6 fun e w' => e = .returned (.bool true) ∧ Below w6.heap.size w6 w' := by
       rcases HCC.out with ⟨rfl, rfl⟩ | ⟨c, h1, h2⟩
       · exact conf_like 1 cvZ cvZ _ w6 (cfZ_at w6) (cfZ_at w6)
       · exact conf_like 30 V V2 c w6 h1 h2
     obtain ⟨c0, c1, c2, c3, c4, c5, c6, c7, c8, c9, c10, c11, c12⟩ := HS5.out.cells; obtain ⟨d0, d1, d2, d3, d4, d5, d6, d7, d8, d9, d10, d11, d12⟩ := HR5.out.cells; clear HCC HS5 HR5; wkk; refine Calls.mono (hl) ?_; rintro _ w7 ⟨rfl, hb7⟩; dsimp only; have HB7 := Lib.hid (HB5.out.trans (hb7.mono HB5.out.size)); clear hb7 hl c0 c1 c2 c3 c4 c5 c6 c7 c8 c9 c10 c11 c12 d0 d1 d2 d3 d4 d5 d6 d7 d8 d9 d10 d11 d12; wkk; go_ret; exact ⟨rfl, HB7.out⟩
end Go.Proofs.YtonkenlkigfeoaaDoor
