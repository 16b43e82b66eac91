/- Walk: the statement ConfigBack. Conditions: the configuration lies in memory; the tables lie. -/
import Derived.Test.YtonkenlkigfeoaaGreatDoorPk42
import Derived.Test.YtonkenlkigfeoaaGreatDoorPk41
namespace Go.Proofs.YtonkenlkigfeoaaGreatDoor
open Go.RowKit Go.Lib
theorem lev_eq : ∀ {h h' : Nat} {w w' : World} {r r' : RN} {t : Re}, ReAt w h r t → ReAt w' h' r' t → cnt h t = cnt h' t ∧ shp h t = shp h' t ∧ szR h t = szR h' t
 | 0, _, _, _, _, _, _, h, _ => h.elim
 | _ + 1, 0, _, _, _, _, _, _, h => h.elim
 | h + 1, h' + 1, w, w', r, r', .mk k s mn mx kids, hr, hr' => by
   obtain ⟨_, _, _, rs, _, hl, hk⟩ := hr; obtain ⟨_, _, _, rs', _, hl', hk'⟩ := hr'; have e : ∀ u ∈ kids, cnt h u = cnt h' u ∧ shp h u = shp h' u ∧ szR h u = szR h' u := fun u hu => by
     obtain ⟨i, hi⟩ := List.getElem?_of_mem hu; have hlt := (List.getElem?_eq_some_iff.1 hi).1; exact lev_eq (hk i _ u (List.getElem?_eq_getElem (by omega)) hi) (hk' i _ u (List.getElem?_eq_getElem (by omega)) hi)
   have e1 : kids.map (cnt h) = kids.map (cnt h') := List.map_congr_left fun u hu => (e u hu).1
   have e3 : (kids.map fun u => szR h u * timesOf (.mk k s mn mx kids)) = kids.map fun u => szR h' u * timesOf (.mk k s mn mx kids) := List.map_congr_left fun u hu => by rw [(e u hu).2.2]
   refine ⟨?_, ?_, ?_⟩
   · rw [cnt, cnt]; show 1 + (kids.map (cnt h)).sum = 1 + (kids.map (cnt h')).sum; rw [e1]
   · rw [shp, shp]; have e2 : kids.all (shp h) = kids.all (shp h') := by
       rw [Bool.eq_iff_iff, List.all_eq_true, List.all_eq_true]; exact ⟨fun H u hu => (e u hu).2.1 ▸ H u hu, fun H u hu => (e u hu).2.1 ▸ H u hu⟩
     show (_ && kids.all (shp h)) = (_ && kids.all (shp h')); rw [e2]
   · rw [szR, szR]; show min (2 + (kids.map fun u => szR h u * timesOf (.mk k s mn mx kids)).sum) 1001 = _; rw [e3]; rfl
theorem conf_lev {h : Nat} {w : World} {r : RN} {c : ConfP} (hr : ReAt w h r c.re) (hd : dep h c.re ≤ 30) : confE h c = confE 30 c := by
 have h30 := hr.tight hd; obtain ⟨e1, e2, e3⟩ := lev_eq hr h30; have e4 := dep_eq hr h30; have er : rgt h c.re = rgt 30 c.re := by unfold rgt; rw [e1, e2, e4]
 unfold confE; rw [er, e3]
theorem prR_ok {h : Nat} {t : Re} (hz : (prR h t).2 = 0) : rgt h t = 0 ∧ (prR h t).1 = txt h t ∧ (txt h t).length ≤ 512 := by
 unfold prR at hz ⊢
 by_cases h1 : rgt h t = 0
 · rw [if_pos h1] at hz ⊢
   by_cases h2 : 512 < (txt h t).length
   · rw [if_pos h2] at hz; exact absurd hz (by decide)
   · rw [if_neg h2]; exact ⟨h1, rfl, by omega⟩
 · rw [if_neg h1] at hz; exact absurd hz h1
theorem rgt_dep {h : Nat} {t : Re} (e : rgt h t = 0) : dep h t ≤ 30 := by
 unfold rgt at e
 by_cases h1 : 30 < dep h t
 · rw [if_pos h1] at e; exact absurd e (by decide)
 · omega
/-- what is printed is read back -/
theorem parsC_back {h : Nat} {w0 w : World} {r : RN} {vp vm vn vb va : Value} {c : ConfP} {V : CV} {er at' : Int} (H : CfAt w0 h r vp vm vn vb va c) (ha : allW h c.re) (hz : (prC h c).2 = 0) (hp : ParsC (prC h c).1 V er at' w) :
   er = 0 ∧ at' = 0 ∧ CfAt w 30 V.r V.p V.m V.n V.b V.a c := by
 have S := prC_steps h c
 by_cases hE : confE h c = 0
 · by_cases hE2 : (prR h c.re).2 = 0
   · have htx := (conf_good hE).tx; obtain ⟨ts, hts⟩ : ∃ ts, txTo c.ms c.ms.length = some ts := by
       unfold textsE at htx
       split at htx
       · exact absurd htx (by decide)
       · cases e : txTo c.ms c.ms.length with
         | some ts => exact ⟨ts, rfl⟩
         | none => rw [e] at htx; exact absurd htx (by decide)
     obtain ⟨p1, p2⟩ := S.p3 hE hE2 ts hts; obtain ⟨hr0, htxt, hlen⟩ := prR_ok hE2; rw [htxt] at p1 p2
     by_cases hl : 65536 < (lnT (allL c (txt h c.re) ts)).length
     · rw [p1 hl] at hz; exact absurd hz (by decide)
     · rw [p2 hl] at hp; dsimp only at hp; have hd := rgt_dep hr0; have hshp := rgt_shp hr0; have hdeep : ¬ tooDeep c.re := by
         rintro ⟨k', w', r', h5, h6⟩; rw [dep_eq h5 H.re] at h6; omega
       obtain ⟨ids, hlines⟩ := lines_all (f := (lnT (allL c (txt h c.re) ts)).length + 2) hE hts (prsA_txt hshp ha hd hlen) hdeep (txt_ne h c.re hshp) (by omega); unfold ParsC at hp; rw [if_neg hl, show linesR (lnT (allL c (txt h c.re) ts)) ((lnT (allL c (txt h c.re) ts)).length + 2) 0 stZ = _ from hlines] at hp; dsimp only at hp; have hne : ¬ (lnT (allL c (txt h c.re) ts)).length = 0 := by
         intro e0; have hll := lines_all (f := (lnT (allL c (txt h c.re) ts)).length + 2) hE hts (prsA_txt hshp ha hd hlen) hdeep (txt_ne h c.re hshp) (by omega); obtain ⟨ids', hll⟩ := hll; rw [linesR, if_neg (by omega)] at hll
         simp [st0] at hll
       rw [if_neg hne, if_neg (by decide), if_neg (by rw [← conf_lev H.re hd]; exact fun q => q hE)] at hp; exact hp
   · rw [S.p2 hE hE2] at hz; exact absurd hz hE2
 · rw [S.p1 hE] at hz; exact absurd hz hE
open Go.RowKit Go.Lib
theorem store_cf {o : Oper} {a : Act} {w : World} {K : Act → World → Prop} {Q : Exit → Act → World → Prop} {V : CV} (hV : One6 V) (x y : Operand) {old : Array Value} (ho : o.op = .store 34 x y)
   (hx : a.eval x = .pointer (some ⟨w.heap.size, 0, none⟩)) (hy : a.eval y = cfV V) (hold : old.size = 13)
   (h : K (a.put o.dst undef) (w.alloc (.cells (cfC V.r V.p V.m V.n V.b V.a) 34))) : o.wp Tryz.prog a (w.alloc (.cells old 34)) K Q :=
 store_new 34 x y _ ho hx hy info_cfp hold (by
   obtain ⟨h1, h2, h3, h4, h5, h6⟩ := hV; have h7 : ∀ (k : IntKind) (n : Int), (Value.int k n).oneCell' = true := fun _ _ => rfl
   simp [cfC, h1, h2, h3, h4, h5, h6, h7]) h
theorem CfAt.one6 {w : World} {h : Nat} {V : CV} {c : ConfP} (H : CfAt w h V.r V.p V.m V.n V.b V.a c) : One6 V := by
 have one : ∀ {α : Type} {f : α → List Value} {sz : Nat} {v : Value} {l : List α}, RowOf f sz w v l → v.oneCell' = true := fun h => by
   obtain ⟨a, cap, e, _⟩ := h; rw [e]; rfl
 obtain ⟨vs, hp, _⟩ := H.ps; exact ⟨H.re.one, one hp, one H.ms, one H.ns, one H.bf, one H.af⟩
theorem CfAt.tight {w : World} {h : Nat} {r : RN} {vp vm vn vb va : Value} {c : ConfP} (H : CfAt w h r vp vm vn vb va c) (hd : dep h c.re ≤ 30) : CfAt w 30 r vp vm vn vb va c := ⟨H.ps, H.re.tight hd, H.ms, H.ns, H.bf, H.af⟩
end Go.Proofs.YtonkenlkigfeoaaGreatDoor
