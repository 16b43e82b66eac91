/- Walk: the statement ConfigAgain. Condition: the tables lie. -/
import Derived.Test.YtonkenlkigfeoaaGreatDoorPk44
import Derived.Test.YtonkenlkigfeoaaGreatDoorPk42
import Derived.Test.YtonkenlkigfeoaaGreatDoorPk04
namespace Go.Proofs.YtonkenlkigfeoaaGreatDoor
open Go.RowKit Go.Lib
set_option maxRecDepth 100000 in
theorem law_alive17 (w : World) : Calls Tryz.prog 9 #[] w fun e w' => e = .returned (.bool true) ∧ Below w.heap.size w w' := by
 have h1 := utf_Count ⟨#[97]⟩ (by show 1 ≤ _; omega); rw [count_a] at h1; go_enter Tryz.func9, Tryz.ntmps9; wkk; refine Calls.mono (h1 _) ?_; rintro _ w1 ⟨rfl, hb1⟩; dsimp only; wkk; go_ret; exact ⟨rfl, hb1⟩
theorem prR_two17 {h : Nat} {t : Re} (hz : rgt h t = 0) : (prR h t).2 = 0 ∨ (prR h t).2 = 2 := by
 unfold prR; rw [if_pos hz]; split
 · exact .inr rfl
 · exact .inl rfl
theorem prC_two {c : ConfP} (hE : confE 30 c = 0) : (prC 30 c).2 = 0 ∨ (prC 30 c).2 = 2 := by
 have S := prC_steps 30 c
 by_cases hE2 : (prR 30 c.re).2 = 0
 · have htx := (conf_good hE).tx; obtain ⟨ts, hts⟩ : ∃ ts, txTo c.ms c.ms.length = some ts := by
     unfold textsE at htx
     split at htx
     · exact absurd htx (by decide)
     · cases e : txTo c.ms c.ms.length with
       | some ts => exact ⟨ts, rfl⟩
       | none => rw [e] at htx; exact absurd htx (by decide)
   obtain ⟨p1, p2⟩ := S.p3 hE hE2 ts hts
   by_cases hl : 65536 < (lnT (allL c (prR 30 c.re).1 ts)).length
   · rw [p1 hl]; exact .inr rfl
   · rw [p2 hl]; exact .inl rfl
 · rw [S.p2 hE hE2]
   rcases prR_two17 (conf_good hE).re with h | h
   · exact absurd h hE2
   · exact .inr h
theorem cfZ_at (w : World) : CfAt w 1 cvZ.r cvZ.p cvZ.m cvZ.n cvZ.b cvZ.a ⟨[], .mk 0 (0, 0, 0, 0) 0 0 [], [], [], [], []⟩ := by
 have nl : ∀ {α : Type} {f : α → List Value} {sz : Nat}, RowOf f sz w (.slice none 0 0) ([] : List α) := ⟨none, 0, rfl, Nat.le_refl _, Nat.zero_le _, by simp, .inl rfl⟩; exact ⟨⟨[], nl, rfl, fun i u l h => by simp at h⟩, ⟨⟨rfl, rfl, rfl, rfl⟩, ⟨by unfold I64; show _ ∧ _; exact ⟨by decide, by decide⟩, by unfold I64; exact ⟨by decide, by decide⟩, by unfold I64; exact ⟨by decide, by decide⟩⟩, Nat.zero_le _, [], nl, rfl, fun i r t h => by simp at h⟩, nl, nl, nl, nl⟩
set_option maxRecDepth 100000 in
set_option maxHeartbeats 4000000 in
theorem law_ConfigAgain (w : World) (S : ByteArray) (_ : S.size ≤ 140737488351232) (hT : TT w) : Calls Tryz.prog 4 #[.string S] w fun e w' => e = .returned (.bool true) ∧ Below w.heap.size w w' := by
 go_enter Tryz.func4, Tryz.ntmps4; wkk; refine Calls.mono ((law_alive17 _)) ?_; rintro _ w1 ⟨rfl, hb1⟩; dsimp only; wkk; refine Calls.mono ((cf_parse S w1)) ?_; rintro _ w2 ⟨V, er, at', rfl, hb2, hp⟩; dsimp only; have h6 : One6 V := by
   rcases parsC_any hp with ⟨_, rfl, _⟩ | ⟨_, c, hc, _⟩
   · exact ⟨rfl, rfl, rfl, rfl, rfl, rfl⟩
   · exact hc.one6
 have hk2 := (Below.refl w2.heap.size w2).alloc (Nat.le_refl _) (.cells (cfC V.r V.p V.m V.n V.b V.a) 34); have HB := Lib.hid ((hb1.trans (hb2.mono hb1.size)).trans (hk2.mono (Nat.le_trans hb1.size hb2.size))); have HR := Lib.hid (CBox.new w2 V.r V.p V.m V.n V.b V.a)
 rcases parsC_any hp with ⟨h0, rfl, h1, h2⟩ | ⟨rfl, c, hc, hE, ha⟩
 · have h0' : (er != 0) = true := bne_iff_ne.2 h0; have hl := fun W => conf_like 1 cvZ cvZ _ W (cfZ_at W) (cfZ_at W)
   have h1' : at' ≥ 0 := h1; have h2' : at' ≤ (S.size : Int) := by rw [ba_len] at h2; exact h2
   clear hp hb1 hb2 hk2 h0 h1 h2
   repeat' (go_not_at_region 4; first | (refine store_cf (V := cvZ) h6 _ _ rfl rfl rfl rfl ?_; dsimp only [Act.put]) | go_values | go_skip | go_guarded | go_step | go_upon)
   generalize w2.alloc (.cells (cfC cvZ.r cvZ.p cvZ.m cvZ.n cvZ.b cvZ.a) 34) = w3 at HB HR ⊢; obtain ⟨c0, c1, c2, c3, c4, c5, c6, c7, c8, c9, c10, c11, c12⟩ := HR.out.cells; wkk; refine Calls.mono (hl _) ?_; rintro _ w4 ⟨rfl, hb4⟩; dsimp only; have HB4 := Lib.hid (HB.out.trans (hb4.mono HB.out.size)); clear hb4 hl c0 c1 c2 c3 c4 c5 c6 c7 c8 c9 c10 c11 c12; wkk; go_ret; exact ⟨rfl, HB4.out⟩
 · have HC := Lib.hid (hc.keep hk2); clear hp hb1 hb2 hk2 hc
   repeat' (go_not_at_region 6; first | (refine store_cf (V := V) h6 _ _ rfl rfl rfl rfl ?_; dsimp only [Act.put]) | go_values | go_skip | go_guarded | go_step | go_upon)
   generalize w2.alloc (.cells (cfC V.r V.p V.m V.n V.b V.a) 34) = w3 at HB HR HC ⊢; have hR := config_Right 30 V.r V.p V.m V.n V.b V.a c w3 HC.out; rw [hE] at hR; have HE := Lib.hid hE; have HA := Lib.hid ha; have HT := Lib.hid hT; obtain ⟨c0, c1, c2, c3, c4, c5, c6, c7, c8, c9, c10, c11, c12⟩ := HR.out.cells; clear hE ha hT; wkk; refine Calls.mono (hR) ?_; rintro _ w4 ⟨rfl, hb4⟩; dsimp only; have HR4 := Lib.hid (HR.out.keep hb4); have HC4 := Lib.hid (HC.out.keep hb4); have HB4 := Lib.hid (HB.out.trans (hb4.mono HB.out.size))
   clear hR hb4 HB HR HC c0 c1 c2 c3 c4 c5 c6 c7 c8 c9 c10 c11 c12; have hP := config_Print 30 V.r V.p V.m V.n V.b V.a c w4 HC4.out HA.out (HT.out.keep HB4.out); have HZ := Lib.hid (prC_two HE.out); have HK : Hid (∀ (V2 : CV) er at' W, (prC 30 c).2 = 0 → ParsC (prC 30 c).1 V2 er at' W → er = 0 ∧ at' = 0 ∧ CfAt W 30 V2.r V2.p V2.m V2.n V2.b V2.a c) := Lib.hid fun V2 er at' W hz hp => parsC_back HC4.out HA.out hz hp
   have HP2 : Hid (∀ (V2 : CV) W, CfAt W 30 V2.r V2.p V2.m V2.n V2.b V2.a c → Below w.heap.size w W → Calls Tryz.prog 6 #[cfV V2] W _) := Lib.hid fun V2 W h2 hW => config_Print 30 V2.r V2.p V2.m V2.n V2.b V2.a c W h2 HA.out (HT.out.keep hW)
   obtain ⟨R, hRR⟩ : ∃ R, prC 30 c = R := ⟨_, rfl⟩; rw [hRR] at hP HP2 HK HZ; obtain ⟨s, z⟩ := R; dsimp only at hP HP2 HK HZ; obtain ⟨c0, c1, c2, c3, c4, c5, c6, c7, c8, c9, c10, c11, c12⟩ := HR4.out.cells; clear hRR; wkk; refine Calls.mono (hP) ?_; rintro _ w5 ⟨rfl, hb5⟩; dsimp only; have HR5 := Lib.hid (HR4.out.keep hb5); have HC5 := Lib.hid (HC4.out.keep hb5); have HB5 := Lib.hid (HB4.out.trans (hb5.mono HB4.out.size)); clear hP hb5 HR4 HC4 HB4 c0 c1 c2 c3 c4 c5 c6 c7 c8 c9 c10 c11 c12
   rcases HZ.out with hz | hz
   · subst hz; wkk; refine Calls.mono ((cf_parse ⟨s.toArray⟩ w5)) ?_; rintro _ w6 ⟨V2, er2, at2, rfl, hb6, hp6⟩; dsimp only; obtain ⟨rfl, rfl, hm⟩ := HK.out _ _ _ _ rfl hp6; have h62 := hm.one6; have hk := (Below.refl w6.heap.size w6).alloc (Nat.le_refl _) (.cells (cfC V2.r V2.p V2.m V2.n V2.b V2.a) 34); have HR7 := Lib.hid ((HR5.out.keep hb6).keep hk); have HC7 := Lib.hid ((HC5.out.keep hb6).keep hk); have HM7 := Lib.hid (hm.keep hk); have HS7 := Lib.hid (CBox.new w6 V2.r V2.p V2.m V2.n V2.b V2.a)
     have HB7 := Lib.hid ((HB5.out.trans (hb6.mono HB5.out.size)).trans (hk.mono (Nat.le_trans HB5.out.size hb6.size))); clear hb6 hp6 hm hk HK HZ HR5 HC5 HB5
     repeat' (go_not_at_region 12; first | (refine store_cf (V := V2) h62 _ _ rfl rfl rfl rfl ?_; dsimp only [Act.put]) | go_values | go_skip | go_guarded | go_step | go_upon)
     generalize w6.alloc (.cells (cfC V2.r V2.p V2.m V2.n V2.b V2.a) 34) = w7 at HR7 HC7 HM7 HS7 HB7 ⊢; have hP := HP2.out V2 w7 HM7.out HB7.out; obtain ⟨c0, c1, c2, c3, c4, c5, c6, c7, c8, c9, c10, c11, c12⟩ := HS7.out.cells; wkk; refine Calls.mono (hP) ?_; rintro _ w8 ⟨rfl, hb8⟩; dsimp only; have HR8 := Lib.hid (HR7.out.keep hb8); have HS8 := Lib.hid (HS7.out.keep hb8); have HB8 := Lib.hid (HB7.out.trans (hb8.mono HB7.out.size)); have hl := conf_like 30 V V2 c w8 (HC7.out.keep hb8) (HM7.out.keep hb8); clear hP hb8 HP2 HR7 HS7 HC7 HM7 HB7 c0 c1 c2 c3 c4 c5 c6 c7 c8 c9 c10 c11 c12
     obtain ⟨c0, c1, c2, c3, c4, c5, c6, c7, c8, c9, c10, c11, c12⟩ := HS8.out.cells; obtain ⟨d0, d1, d2, d3, d4, d5, d6, d7, d8, d9, d10, d11, d12⟩ := HR8.out.cells; clear HR8 HS8; wkk; refine Calls.mono (hl) ?_; rintro _ w9 ⟨rfl, hb9⟩; dsimp only; have HB9 := Lib.hid (HB8.out.trans (hb9.mono HB8.out.size)); clear hb9 hl c0 c1 c2 c3 c4 c5 c6 c7 c8 c9 c10 c11 c12 d0 d1 d2 d3 d4 d5 d6 d7 d8 d9 d10 d11 d12; wkk; go_ret; exact ⟨rfl, HB9.out⟩
   · subst hz; clear HK HZ HP2; wkk; go_ret; exact ⟨rfl, HB5.out⟩
end Go.Proofs.YtonkenlkigfeoaaGreatDoor
