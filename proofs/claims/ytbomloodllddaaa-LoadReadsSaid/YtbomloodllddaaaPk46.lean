/- The memory of the reference's Decode, in plain words. -/
import Derived.Test.YtbomloodllddaaaPk44
import Derived.Test.YtbomloodllddaaaPk38
import Derived.Test.YtbomloodllddaaaPk33
namespace Go.Proofs.Ytbomloodllddaaa
open Go.RowKit
/-- the reference's memory: the result's variable, the empty program's, the sections -/
structure RM (w0 : World) (rb nb : Nat) (l : List Sec) (vl : Value) (w : World) : Prop where
  bel : Below w0.heap.size w0 w
  res : PBox w rb prg0 pv0
  non : PBox w nb prg0 pv0
  row : RowOf secC 2 w vl l
  low : w0.heap.size ≤ rb
theorem RM.step {w0 w w' : World} {rb nb : Nat} {l : List Sec} {vl : Value} (h : RM w0 rb nb l vl w) (hb' : Below w.heap.size w w') : RM w0 rb nb l vl w' :=
  ⟨h.bel.trans (hb'.mono h.bel.size), h.res.keep hb', h.non.keep hb', h.row.keep hb', h.low⟩
theorem store_new_pg2 {o : Oper} {a : Act} {w : World} {K : Act → World → Prop} {Q : Exit → Act → World → Prop} (x y : Operand) {old : Array Value} {p : Prg} {v : PV} (ho : o.op = .store 30 x y) (hd : o.dst = none)
    (hx : a.eval x = .pointer (some ⟨w.heap.size, 0, none⟩)) (hy : a.eval y = pgV p v) (hold : old.size = 10) (h1 : (pgC p v).all (·.oneCell') = true)
    (h : K a (w.alloc (.cells (pgC p v) 30))) : o.wp Try.prog a (w.alloc (.cells old 30)) K Q :=
  wp_store_row 30 x y ho w.heap.size (pgC p v) hx hy 30 old (Go.heap_alloc_new _ _) info_pg hold h1 (by rw [alloc_setRowD, show a.put o.dst undef = a from by rw [hd]; rfl]; exact h)
theorem secE_five' (s : List UInt8) : secE 0 s = err1 s ∧ secE 1 s = (getI s).1 ∧ secE 2 s = err3 s ∧ secE 3 s = err4 s ∧ secE 4 s = err5 s := ⟨rfl, rfl, rfl, rfl, rfl⟩
/-- k sections have been read -/
structure RD (w0 : World) (rb : Nat) (l : List Sec) (vl : Value) (wE : World) (pb k : Nat) (v : PV) (w : World) : Prop where
  rm : RM w0 rb (rb + 1) l vl w
  bel : Below pb wE w
  box : PBox w pb (prgTo l k) v
  own : PrgO (pb + 1) w v (prgTo l k)
  nil : NilK k (prgTo l k) v
  src : pb = wE.heap.size ∧ RowOf secC 2 wE vl l ∧ rb + 1 < pb
theorem RD.step {w0 w w' wE : World} {rb pb k : Nat} {l : List Sec} {vl : Value} {v : PV} (h : RD w0 rb l vl wE pb k v w) (hb : Below w.heap.size w w') : RD w0 rb l vl wE pb k v w' :=
  ⟨h.rm.step hb, h.bel.trans (hb.mono (Nat.le_of_lt h.box.lt)), h.box.keep hb, h.own.keep hb, h.nil, h.src⟩
theorem RM.els {w0 w w' : World} {rb nb g : Nat} {l : List Sec} {vl : Value} (h : RM w0 rb nb l vl w) (he : Else g w w') (hg : ∃ cs t fz, w.heap[g]? = some (.cells cs t fz) ∧ t ≠ 30) (hw : w0.heap.size ≤ g) (hr : ∃ wE, RowOf secC 2 wE vl l ∧ wE.heap.size ≤ g ∧ Below wE.heap.size wE w) : RM w0 rb nb l vl w' := by
  obtain ⟨cs, t, fz, h1, h2⟩ := hg
  have hgl := (Array.getElem?_eq_some_iff.1 h1).1
  obtain ⟨wE, r1, r2, r3⟩ := hr
  refine ⟨h.bel.trans (he.below hw hgl), he.row h.res fun e => ?_, he.row h.non fun e => ?_, r1.keep (r3.trans (he.below r2 hgl)), h.low⟩
  · have := h.res; unfold PBox at this; rw [e, h1] at this; simp at this; exact h2 this.2.1
  · have := h.non; unfold PBox at this; rw [e, h1] at this; simp at this; exact h2 this.2.1
theorem OwnR.typedC {B : Nat} {e : TypeId} {sz : Nat} {w : World} {v : Value} {n : Nat} {xs : List Value} (h : OwnC B e sz w v n xs) {q : Nat} (hq : v.ownBlock = some q) : ∃ cs fz, w.heap[q]? = some (.cells cs e fz) := by
  rcases h.2 with ⟨rfl, _⟩ | ⟨g, cap, cur, fz, rfl, _, h1, _⟩
  · simp [Value.ownBlock] at hq
  · simp [Value.ownBlock] at hq
    subst hq
    exact ⟨_, _, h1⟩
theorem PrgO.els {B g : Nat} {w w' : World} {v : PV} {p : Prg} {s : List UInt8} {a b : Int} {wd : Bool} (h : PrgO B w v p) (he : Else g w w') (hc : CAt w g s a b wd) : PrgO B w' v p := by
  have F : ∀ {e : TypeId} {sz : Nat} {u : Value} {n : Nat} {xs : List Value}, e ≠ 87 → OwnC B e sz w u n xs → OwnC B e sz w' u n xs := fun {e sz u n xs} hne ho =>
    OwnC.block ho fun q hq => by
      obtain ⟨cs, fz, hcq⟩ := OwnR.typedC ho hq
      refine he.block q (OwnC.lt ho q hq).2 fun e' => hne ?_
      subst e'
      unfold CAt at hc
      rw [hcq] at hc; simp at hc; exact hc.2.1
  obtain ⟨ts, t1, t2, t3⟩ := h.tabs
  exact ⟨h.num, F (by decide) h.code, ⟨ts, F (by decide) t1, t2, fun i t d ht hd => ⟨(t3 i t d ht hd).1, (t3 i t d ht hd).2.1, F (by decide) (t3 i t d ht hd).2.2⟩⟩, F (by decide) h.texts, F (by decide) h.seeds, F (by decide) h.keys, F (by decide) h.vals, h.tl, h.sb, h.kb, h.vb⟩
theorem RD.els {w0 w w' wE : World} {rb pb k g : Nat} {l : List Sec} {vl : Value} {v : PV} {s : List UInt8} {a b : Int} {wd : Bool} (h : RD w0 rb l vl wE pb k v w) (he : Else g w w') (hc : CAt w g s a b wd) (hg : pb < g) : RD w0 rb l vl wE pb k v w' := by
  have h1 := h.rm.low
  obtain ⟨h2, h3, h4⟩ := h.src
  refine ⟨h.rm.els he ⟨_, _, _, hc, by decide⟩ (by omega) ⟨wE, h3, by omega, h2 ▸ h.bel⟩, h.bel.trans (he.below (Nat.le_of_lt hg) hc.lt), he.row h.box (by omega), h.own.els he hc, h.nil, h.src⟩
theorem RD.next {w0 w w' wE : World} {rb pb k : Nat} {l : List Sec} {vl : Value} {v v' : PV} (h : RD w0 rb l vl wE pb k v w) (he : Else pb w w') (hb : PBox w' pb (prgTo l (k + 1)) v') (ho : PrgO (pb + 1) w' v' (prgTo l (k + 1))) (hn : NilK (k + 1) (prgTo l (k + 1)) v') : RD w0 rb l vl wE pb (k + 1) v' w' := by
  have h1 := h.rm.low
  obtain ⟨h2, h3, h4⟩ := h.src
  have hB : Below pb wE w' := h.bel.trans (he.below (Nat.le_refl _) h.box.lt)
  refine ⟨⟨h.rm.bel.trans (he.below (by omega) h.box.lt), he.row h.rm.res (by omega), he.row h.rm.non (by omega), h3.keep (h2 ▸ hB), h1⟩, hB, hb, ho, hn, h.src⟩
theorem RD.code {w0 w wE : World} {rb pb : Nat} {l : List Sec} {vl : Value} {v : PV} {vc : Value} {C : List (Nat → Int)} (h : RD w0 rb l vl wE pb 1 v w) (hP : prgTo l 2 = { prgTo l 1 with code := C }) (ho : OwnR icL 5 (pb + 1) 118 (w.setCell ⟨pb, 4, none⟩ vc) vc C) :
    RD w0 rb l vl wE pb 2 { v with vc := vc } (w.setCell ⟨pb, 4, none⟩ vc) := by
  have box := h.box
  have own := h.own.keepF (w' := w.setCell ⟨pb, 4, none⟩ vc) fun q h1 h2 => ((Else.refl pb w).setCell 4 vc).block q h2 (by omega)
  have nil := h.nil
  have hn : ∀ (h1 : PBox (w.setCell ⟨pb, 4, none⟩ vc) pb (prgTo l 2) { v with vc := vc }) (h2 : PrgO (pb + 1) (w.setCell ⟨pb, 4, none⟩ vc) { v with vc := vc } (prgTo l 2)) (h3 : NilK 2 (prgTo l 2) { v with vc := vc }), RD w0 rb l vl wE pb 2 { v with vc := vc } (w.setCell ⟨pb, 4, none⟩ vc) := fun h1 h2 h3 => h.next ((Else.refl _ _).setCell _ _) h1 h2 h3
  clear h
  rw [hP] at hn
  clear hP
  generalize prgTo l 1 = P at box own nil hn
  exact hn (box.set4 _ _) ⟨own.num, ho, own.tabs, own.texts, own.seeds, own.keys, own.vals, own.tl, own.sb, own.kb, own.vb⟩ ⟨fun _ => nil.tabs (by omega), fun _ => nil.texts (by omega), fun _ => nil.hash (by omega)⟩
end Go.Proofs.Ytbomloodllddaaa
/- Plain law: what the reference's loop of tables has told so far (a number too wide counts 0 there). -/
namespace Go.Proofs.Ytbomloodllddaaa
open Go.RowKit
structure TG (s : List UInt8) (R : List (Int × List Int) × Int × Int × Bool) (m : Nat) (a bad : Int) (wd : Bool) (l : List (Int × List Int)) : Prop where
  good : bad = 0 → R.2.2.1 = (tabsF s m a).2.2.1 ∧ ((tabsF s m a).2.2.1 = 0 → R.2.1 = (tabsF s m a).2.1 ∧ R.2.2.2 = (wd || (tabsF s m a).2.2.2) ∧ ((wd || (tabsF s m a).2.2.2) = false → R.1 = l ++ (tabsF s m a).1))
  wrong : bad ≠ 0 → R.2.2.1 = bad
theorem TG.start (s : List UInt8) : TG s (sec3F s) (rdC s 16).1 (rdC s 16).2.1 (rdC s 16).2.2 false [] := by
  have e : sec3F s = if (rdC s 16).2.2 ≠ 0 then ([], 0, (rdC s 16).2.2, false) else tabsF s (rdC s 16).1 (rdC s 16).2.1 := rfl
  generalize sec3F s = R at e ⊢
  generalize rdC s 16 = c at e ⊢
  obtain ⟨n, a, b⟩ := c
  dsimp only at e ⊢
  refine ⟨fun h => ?_, fun h => ?_⟩
  · rw [if_neg (by simpa using h)] at e
    rw [e]
    generalize tabsF s n a = T
    exact ⟨rfl, fun _ => ⟨rfl, (Bool.false_or _).symm, fun _ => (List.nil_append _).symm⟩⟩
  · rw [if_pos h] at e; rw [e]
theorem TG.step {s : List UInt8} {R : List (Int × List Int) × Int × Int × Bool} {m : Nat} {a : Int} {wd : Bool} {l : List (Int × List Int)} (h : TG s R (m + 1) a 0 wd l) {a2 b2 : Int} {wd2 : Bool} {out : List Int}
    (hb : b2 = (rdL s (vget s a).2.1 (vget s a).2.2 400000).2.2)
    (hg : b2 = 0 → a2 = (rdL s (vget s a).2.1 (vget s a).2.2 400000).2.1 ∧ wd2 = ((wd || decide (W62 < (vget s a).1)) || wideL (rdL s (vget s a).2.1 (vget s a).2.2 400000).1) ∧ (wideL (rdL s (vget s a).2.1 (vget s a).2.2 400000).1 = false → out = cutL (rdL s (vget s a).2.1 (vget s a).2.2 400000).1)) :
    TG s R m a2 b2 wd2 (l ++ [(whl (vget s a).1, out)]) := by
  have hT : (tab1 s a).2.2.1 = b2 := hb.symm
  obtain ⟨h1, h2⟩ := h.good rfl
  refine ⟨fun h0 => ?_, fun h0 => ?_⟩
  · obtain ⟨g1, g2, g3⟩ := hg h0
    have hA : (tab1 s a).2.1 = a2 := g1.symm
    have hW : (wd || (tab1 s a).2.2.2) = wd2 := by
      rw [g2, Bool.or_assoc]; rfl
    have e : tabsF s (m + 1) a = if (tabsF s m a2).2.2.1 ≠ 0 then ([], 0, (tabsF s m a2).2.2.1, false) else ((tab1 s a).1 :: (tabsF s m a2).1, (tabsF s m a2).2.1, 0, (tab1 s a).2.2.2 || (tabsF s m a2).2.2.2) := by
      rw [tabsF, if_neg (by rw [hT]; simpa using h0), hA]
    rw [e] at h1 h2
    by_cases h3 : (tabsF s m a2).2.2.1 = 0
    · rw [if_neg (by simpa using h3)] at h1 h2
      obtain ⟨k1, k2, k3⟩ := h2 rfl
      refine ⟨h1.trans h3.symm, fun _ => ⟨k1, by rw [k2, ← hW, Bool.or_assoc], fun hf => ?_⟩⟩
      rw [← hW, Bool.or_assoc] at hf
      have k4 := k3 hf
      have hw1 : (tab1 s a).2.2.2 = false := by
        rw [Bool.or_eq_false_iff, Bool.or_eq_false_iff] at hf
        exact hf.2.1
      have hw2 : (decide (W62 < (vget s a).1) || wideL (rdL s (vget s a).2.1 (vget s a).2.2 400000).1) = false := hw1
      rw [Bool.or_eq_false_iff] at hw2
      have hout := g3 hw2.2
      have hx : whl (vget s a).1 = cutI (vget s a).1 := by
        have := of_decide_eq_false hw2.1
        unfold whl cutI
        rw [if_neg (by omega)]; omega
      rw [k4, List.append_assoc, hx, hout]
      rfl
    · rw [if_pos h3] at h1 h2
      exact ⟨h1, fun h => absurd h h3⟩
  · have e : tabsF s (m + 1) a = ([], 0, b2, false) := by
      rw [tabsF, if_pos (by rw [hT]; exact h0), hT]
    rw [e] at h1
    exact h1
theorem TG.done {s : List UInt8} {R : List (Int × List Int) × Int × Int × Bool} {m : Nat} {a bad : Int} {wd : Bool} {l : List (Int × List Int)} (h : TG s R m a bad wd l) (hm : m = 0 ∨ bad ≠ 0) :
    errS s.length a bad wd = errS s.length R.2.1 R.2.2.1 R.2.2.2 ∧ (errS s.length a bad wd = 0 → l = R.1) := by
  by_cases h0 : bad = 0
  · obtain rfl : m = 0 := by
      rcases hm with hm | hm
      · exact hm
      · exact absurd h0 hm
    obtain ⟨h1, h2⟩ := h.good h0
    obtain ⟨k1, k2, k3⟩ := h2 rfl
    have e1 : R.2.2.1 = 0 := h1
    have e2 : R.2.1 = a := k1
    have e3 : R.2.2.2 = wd := by rw [k2]; simp [tabsF]
    rw [h0, e1, e2, e3]
    refine ⟨rfl, fun h => ?_⟩
    have hw : wd = false := by
      cases wd
      · rfl
      · unfold errS at h; simp at h
    rw [k3 (by rw [hw]; rfl)]
    simp [tabsF]
  · have e := h.wrong h0
    unfold errS
    rw [e, if_pos h0, if_pos h0]
    exact ⟨rfl, fun h => absurd h h0⟩
theorem rcC_of (s : List UInt8) (most : Nat) : (rcC s 0 0 most).2.2 = (rdC s most).2.2 ∧ ((rdC s most).2.2 = 0 → rcC s 0 0 most = rdC s most) ∧ (rcC s 0 0 most).1 ≤ most := by
  have hr : rdN s 0 0 = vget s 0 := by unfold rdN; rw [if_neg (by simp)]
  unfold rcC rdC
  rw [hr]
  generalize vget s 0 = q
  obtain ⟨n, a, b⟩ := q
  dsimp only
  by_cases h : b = 0
  · by_cases h2 : most < n
    · simp [h, h2]
    · simp [h, h2]; omega
  · simp [h]
/-- the loop of tables, by the reference -/
structure RT (w0 : World) (rb : Nat) (ls : List Sec) (vl : Value) (wE : World) (pb g : Nat) (s : List UInt8) (P : Prg) (v : PV) (R : List (Int × List Int) × Int × Int × Bool) (m : Nat) (a bad : Int) (wd : Bool) (l : List (Int × List Int)) (vt : Value) (w : World) : Prop where
  rm : RM w0 rb (rb + 1) ls vl w
  bel : Below pb wE w
  box : PBox w pb { P with tabs := l } { v with vt := vt }
  own : PrgO (pb + 1) w { v with vt := vt } { P with tabs := l }
  rd : CAt w g s a bad wd
  gt : pb < g
  src : pb = wE.heap.size ∧ RowOf secC 2 wE vl ls ∧ rb + 1 < pb
  at' : bad = 0 → I64 a
  tg : TG s R m a bad wd l
  len : l.length + m ≤ 16
theorem RT.els {w0 w w' wE : World} {rb pb g : Nat} {ls : List Sec} {vl : Value} {s : List UInt8} {P : Prg} {v : PV} {R : List (Int × List Int) × Int × Int × Bool} {m : Nat} {a bad : Int} {wd : Bool} {l : List (Int × List Int)} {vt : Value} (h : RT w0 rb ls vl wE pb g s P v R m a bad wd l vt w) (he : Else g w w') {m' : Nat} {a' bad' : Int} {wd' : Bool} (hc : CAt w' g s a' bad' wd') (ha : bad' = 0 → I64 a') (ht : TG s R m' a' bad' wd' l) (hl : l.length + m' ≤ 16) :
    RT w0 rb ls vl wE pb g s P v R m' a' bad' wd' l vt w' := by
  have h1 := h.rm.low
  obtain ⟨h2, h3, h4⟩ := h.src
  have h5 := h.gt
  refine ⟨h.rm.els he ⟨_, _, _, h.rd, by decide⟩ (by omega) ⟨wE, h3, by omega, h2 ▸ h.bel⟩, h.bel.trans (he.below (Nat.le_of_lt h5) h.rd.lt), he.row h.box (by omega), h.own.els he h.rd, hc, h5, h.src, ha, ht, hl⟩
theorem RD.toRT {w0 w wE : World} {rb pb g : Nat} {ls : List Sec} {vl : Value} {v : PV} {s : List UInt8} (h : RD w0 rb ls vl wE pb 2 v w) (hc : CAt w g s (rcC s 0 0 16).2.1 (rcC s 0 0 16).2.2 false) (hg : pb < g) (hs : s.length ≤ 1000000000000000) :
    RT w0 rb ls vl wE pb g s (prgTo ls 2) v (sec3F s) (rcC s 0 0 16).1 (rcC s 0 0 16).2.1 (rcC s 0 0 16).2.2 false [] (.slice none 0 0) w := by
  obtain ⟨n1, n2⟩ := h.nil.tabs (Nat.le_refl 2)
  have hb := h.box
  have ho := h.own
  have hT := TG.start s
  obtain ⟨c1, c2, c3⟩ := rcC_of s 16
  have hi := rdC_i64 s hs 16
  refine ⟨h.rm, h.bel, ?_, ?_, hc, hg, h.src, ?_, ?_, by simpa using c3⟩
  · generalize prgTo ls 2 = P at hb n1
    rw [← n1, ← n2]; exact hb
  · generalize prgTo ls 2 = P at ho n1
    rw [← n1, ← n2]; exact ho
  · intro h0
    rw [c1] at h0
    rw [c2 h0]; exact hi
  · by_cases h0 : (rdC s 16).2.2 = 0
    · rw [c2 h0]; exact hT
    · exact ⟨fun h => absurd (c1.symm.trans h) h0, fun _ => by rw [c1]; exact hT.wrong h0⟩
/-- what keeps all that was there but the reader keeps the memory of the loop -/
theorem RT.far {w0 w w' wE : World} {rb pb g : Nat} {ls : List Sec} {vl : Value} {s : List UInt8} {P : Prg} {v : PV} {R : List (Int × List Int) × Int × Int × Bool} {m : Nat} {a bad : Int} {wd : Bool} {l : List (Int × List Int)} {vt : Value} (h : RT w0 rb ls vl wE pb g s P v R m a bad wd l vt w) (he : Else g w w') :
    RM w0 rb (rb + 1) ls vl w' ∧ Below pb wE w' ∧ PBox w' pb { P with tabs := l } { v with vt := vt } ∧ PrgO (pb + 1) w' { v with vt := vt } { P with tabs := l } := by
  have h1 := h.rm.low
  obtain ⟨h2, h3, h4⟩ := h.src
  have h5 := h.gt
  exact ⟨h.rm.els he ⟨_, _, _, h.rd, by decide⟩ (by omega) ⟨wE, h3, by omega, h2 ▸ h.bel⟩, h.bel.trans (he.below (Nat.le_of_lt h5) h.rd.lt), he.row h.box (by omega), h.own.els he h.rd⟩
theorem Else.far {g tb : Nat} {w w' : World} (h : Else g w w') (ht : w.heap.size ≤ tb) (o : Nat) (u : Value) : Else g w (w'.setCell ⟨tb, o, none⟩ u) :=
  ⟨h.os, h.tape, h.output, by have := h.size; simpa [World.setCell] using this, fun k hk hne => by rw [show (w'.setCell ⟨tb, o, none⟩ u).heap[k]? = w'.heap[k]? from Below.heap_setCell _ _ _ _ (by dsimp only; omega)]; exact h.block k hk hne⟩
theorem CAt.far {g tb o : Nat} {w : World} {s : List UInt8} {a b : Int} {wd : Bool} {u : Value} (h : CAt w g s a b wd) (hne : g ≠ tb) : CAt (w.setCell ⟨tb, o, none⟩ u) g s a b wd :=
  ((Else.refl tb w).setCell o u).row h hne
theorem TBox.put0 {w : World} {g : Nat} {c : Int} {v : Value} (h : TBox w g c v) (x : Int) : TBox (w.setCell ⟨g, 0, none⟩ (.int .i64 x)) g x v := by
  unfold TBox; rw [setCell_eq_setRow _ _ _ _ _ _ _ h, setRow_heap _ _ _ _ _ _ h]; simp
end Go.Proofs.Ytbomloodllddaaa
