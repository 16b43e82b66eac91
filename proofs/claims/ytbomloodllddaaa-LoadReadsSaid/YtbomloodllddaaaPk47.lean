/- The memory of the reference's Decode behind its loops, in plain words; plain laws of the sections of texts and of pairs. -/
import Derived.Test.YtbomloodllddaaaPk46
import Derived.Deep.CutBlock
namespace Go.Proofs.Ytbomloodllddaaa
open Go.RowKit
/-- what lies where: the result's variable and the empty program's, the sections, the program's variable (p v), its rows (p' v') -/
structure RW (w0 : World) (rb : Nat) (ls : List Sec) (vl : Value) (wE : World) (pb : Nat) (P : Prg) (v : PV) (P' : Prg) (v' : PV) (w : World) : Prop where
  rm : RM w0 rb (rb + 1) ls vl w
  bel : Below pb wE w
  box : PBox w pb P v
  own : PrgO (pb + 1) w v' P'
  src : pb = wE.heap.size ∧ RowOf secC 2 wE vl ls ∧ rb + 1 < pb
section
variable {w0 w w' wE : World} {rb pb g : Nat} {ls : List Sec} {vl : Value} {P P' : Prg} {v v' : PV} {s : List UInt8}
theorem RW.step (h : RW w0 rb ls vl wE pb P v P' v' w) (hb : Below w.heap.size w w') : RW w0 rb ls vl wE pb P v P' v' w' :=
  ⟨h.rm.step hb, h.bel.trans (hb.mono (Nat.le_of_lt h.box.lt)), h.box.keep hb, h.own.keep hb, h.src⟩
theorem RW.els {a b : Int} {wd : Bool} (h : RW w0 rb ls vl wE pb P v P' v' w) (he : Else g w w') (hc : CAt w g s a b wd) (hg : pb < g) : RW w0 rb ls vl wE pb P v P' v' w' := by
  have h1 := h.rm.low
  obtain ⟨h2, h3, h4⟩ := h.src
  exact ⟨h.rm.els he ⟨_, _, _, hc, by decide⟩ (by omega) ⟨wE, h3, by omega, h2 ▸ h.bel⟩, h.bel.trans (he.below (Nat.le_of_lt hg) hc.lt), he.row h.box (by omega), h.own.els he hc, h.src⟩
theorem RW.below1 {P2 : Prg} {v2 : PV} (h : RW w0 rb ls vl wE pb P v P' v' w) (hb : Below (pb + 1) w w') (ho : PrgO (pb + 1) w' v2 P2) : RW w0 rb ls vl wE pb P v P2 v2 w' := by
  have h1 := h.rm.low
  obtain ⟨h2, h3, h4⟩ := h.src
  have hB : Below pb wE w' := h.bel.trans (hb.mono (by omega))
  refine ⟨⟨h.rm.bel.trans (hb.mono (by omega)), ?_, ?_, h3.keep (h2 ▸ hB), h1⟩, hB, ?_, ho, h.src⟩
  · unfold PBox; rw [hb.block rb (by omega)]; exact h.rm.res
  · unfold PBox; rw [hb.block (rb + 1) (by omega)]; exact h.rm.non
  · unfold PBox; rw [hb.block pb (by omega)]; exact h.box
theorem RW.set {k : Nat} {u : Value} {P2 : Prg} {v2 : PV} (h : RW w0 rb ls vl wE pb P v P' v' w) (hb : PBox (w.setCell ⟨pb, k, none⟩ u) pb P2 v2) : RW w0 rb ls vl wE pb P2 v2 P' v' (w.setCell ⟨pb, k, none⟩ u) := by
  have h1 := h.rm.low
  obtain ⟨h2, h3, h4⟩ := h.src
  have he : Else pb w (w.setCell ⟨pb, k, none⟩ u) := (Else.refl _ _).setCell _ _
  have hB : Below pb wE (w.setCell ⟨pb, k, none⟩ u) := h.bel.trans (he.below (Nat.le_refl _) h.box.lt)
  exact ⟨⟨h.rm.bel.trans (he.below (by omega) h.box.lt), he.row h.rm.res (by omega), he.row h.rm.non (by omega), h3.keep (h2 ▸ hB), h1⟩, hB, hb, h.own.keepF fun q a b => he.block q b (by omega), h.src⟩
end
theorem RD.rw {w0 w wE : World} {rb pb k : Nat} {ls : List Sec} {vl : Value} {v : PV} (h : RD w0 rb ls vl wE pb k v w) : RW w0 rb ls vl wE pb (prgTo ls k) v (prgTo ls k) v w := ⟨h.rm, h.bel, h.box, h.own, h.src⟩
theorem RT.rw {w0 w wE : World} {rb pb g : Nat} {ls : List Sec} {vl : Value} {s : List UInt8} {P : Prg} {v : PV} {R : List (Int × List Int) × Int × Int × Bool} {m : Nat} {a bad : Int} {wd : Bool} {l : List (Int × List Int)} {vt : Value} (h : RT w0 rb ls vl wE pb g s P v R m a bad wd l vt w) :
    RW w0 rb ls vl wE pb { P with tabs := l } { v with vt := vt } { P with tabs := l } { v with vt := vt } w := ⟨h.rm, h.bel, h.box, h.own, h.src⟩
/-- rows of other types stand behind an append -/
theorem OwnC.grownT {B : Nat} {e e' : TypeId} {sz : Nat} {w w' : World} {r : Option Nat} {u : Value} {n : Nat} {xs : List Value} (ho : OwnC B e sz w u n xs) (hg : w.grownBy w' r) (hr : ∀ q, r = some q → ∃ cs fz, w.heap[q]? = some (.cells cs e' fz)) (hne : e ≠ e') : OwnC B e sz w' u n xs :=
  OwnC.block ho fun q hq => by
    obtain ⟨cs, fz, hcq⟩ := OwnR.typedC ho hq
    refine hg.block q (Array.getElem?_eq_some_iff.1 hcq).1 fun e1 => hne ?_
    obtain ⟨cs', fz', hc'⟩ := hr q e1.symm
    rw [hcq] at hc'; simp at hc'; exact hc'.2.1
theorem TOwn.grownT {B : Nat} {e' : TypeId} {w w' : World} {r : Option Nat} {vt : Value} {l : List (Int × List Int)} (ho : TOwn B w vt l) (hg : w.grownBy w' r) (hr : ∀ q, r = some q → ∃ cs fz, w.heap[q]? = some (.cells cs e' fz)) (h1 : 54 ≠ e') (h2 : 3 ≠ e') : TOwn B w' vt l := by
  obtain ⟨ts, t1, t2, t3⟩ := ho
  exact ⟨ts, OwnC.grownT t1 hg hr h1, t2, fun i t d ht hd => ⟨(t3 i t d ht hd).1, (t3 i t d ht hd).2.1, OwnC.grownT (t3 i t d ht hd).2.2 hg hr h2⟩⟩
theorem PrgO.tabsG {B : Nat} {w w' : World} {v : PV} {p : Prg} {vt' : Value} {l' : List (Int × List Int)} (h : PrgO B w v p) (hg : w.grownBy w' v.vt.ownBlock) (ho : TOwn B w' vt' l') : PrgO B w' { v with vt := vt' } { p with tabs := l' } := by
  have hr : ∀ q, v.vt.ownBlock = some q → ∃ cs fz, w.heap[q]? = some (.cells cs 54 fz) := fun q hq => by
    obtain ⟨ts, t1, _, _⟩ := h.tabs
    exact t1.typed hq
  exact ⟨h.num, OwnC.grownT h.code hg hr (by decide), ho, OwnC.grownT h.texts hg hr (by decide), OwnC.grownT h.seeds hg hr (by decide), OwnC.grownT h.keys hg hr (by decide), OwnC.grownT h.vals hg hr (by decide), h.tl, h.sb, h.kb, h.vb⟩
theorem PrgO.textsG {B : Nat} {w w' : World} {v : PV} {p : Prg} {vx' : Value} {l' : List (List UInt8)} (h : PrgO B w v p) (hg : w.grownBy w' v.vx.ownBlock) (ho : OwnR strC 1 B 9 w' vx' l') (hl : ∀ x ∈ l', x.length ≤ 4096) : PrgO B w' { v with vx := vx' } { p with texts := l' } := by
  have hr : ∀ q, v.vx.ownBlock = some q → ∃ cs fz, w.heap[q]? = some (.cells cs 9 fz) := fun q hq => OwnR.typed h.texts hq
  exact ⟨h.num, OwnC.grownT h.code hg hr (by decide), h.tabs.grownT hg hr (by decide) (by decide), ho, OwnC.grownT h.seeds hg hr (by decide), OwnC.grownT h.keys hg hr (by decide), OwnC.grownT h.vals hg hr (by decide), hl, h.sb, h.kb, h.vb⟩
theorem PrgO.seedsG {B : Nat} {w w' : World} {r : Option Nat} {v : PV} {p : Prg} (h : PrgO B w v p) (hp : p.hash = ⟨[], [], []⟩) (hv : v.vs = .slice none 0 0) (hg : w.grownBy w' r) (hr : ∀ q, r = some q → ∃ cs fz, w.heap[q]? = some (.cells cs 45 fz)) : PrgO B w' v p := by
  refine ⟨h.num, OwnC.grownT h.code hg hr (by decide), h.tabs.grownT hg hr (by decide) (by decide), OwnC.grownT h.texts hg hr (by decide), ?_, OwnC.grownT h.keys hg hr (by decide), OwnC.grownT h.vals hg hr (by decide), h.tl, h.sb, h.kb, h.vb⟩
  rw [hp, hv]; exact OwnI.nil _ _ _ _
/-- a round of tables is done -/
theorem RT.round {w0 w2 w3 wE : World} {rb pb g : Nat} {ls : List Sec} {vl : Value} {s : List UInt8} {P : Prg} {v : PV} {R : List (Int × List Int) × Int × Int × Bool} {m : Nat} {a bad : Int} {wd : Bool} {l : List (Int × List Int)} {vt vt' v3 : Value} {ts : List (Int × Value)} {c : Int} {y : List Int}
    (h : RW w0 rb ls vl wE pb { P with tabs := l } { v with vt := vt } { P with tabs := l } { v with vt := vt } w2) (hts : TOwnS (pb + 1) w2 vt l ts) (hc : CAt w2 g s a bad wd) (hv : OwnI (pb + 1) 3 .i64 w2 v3 y) (hi : I64 c)
    (ho : OwnR tbC 2 (pb + 1) 54 w3 vt' (ts ++ [(c, v3)])) (hg : w2.grownBy w3 vt.ownBlock)
    (hgt : pb < g) (hat : bad = 0 → I64 a) (htg : TG s R m a bad wd (l ++ [(c, y)])) (hl : l.length + 1 + m ≤ 16) :
    RT w0 rb ls vl wE pb g s P v R m a bad wd (l ++ [(c, y)]) vt' (w3.setCell ⟨pb, 5, none⟩ vt') := by
  have hO := hts.snoc ho hg hv hi
  have hne : ∀ q, vt.ownBlock = some q → pb + 1 ≤ q := fun q hq => (hts.1.below hq).1
  have hB : Below (pb + 1) w2 w3 := grown_below hg (by have := h.box.lt; omega) hne
  have hP : PrgO (pb + 1) w3 { v with vt := vt' } { P with tabs := l ++ [(c, y)] } := PrgO.tabsG (v := { v with vt := vt }) (p := { P with tabs := l }) h.own hg hO
  have h3 := h.below1 hB hP
  have hC : CAt w3 g s a bad wd := grown_obj hg hc fun e => by
    obtain ⟨cs, fz, hcq⟩ := hts.1.typed e
    unfold CAt at hc
    rw [hc] at hcq; simp at hcq
  have h4 := h3.set (k := 5) (u := vt') (h3.box.set5 vt' (l ++ [(c, y)]))
  exact ⟨h4.rm, h4.bel, h4.box, h4.own, hC.far (by omega), hgt, h4.src, hat, htg, by simp; omega⟩
/-- the loop of texts, by the reference -/
structure XT (w0 : World) (rb : Nat) (ls : List Sec) (vl : Value) (wE : World) (pb g : Nat) (s : List UInt8) (P : Prg) (v : PV) (R : List (List UInt8) × Int × Int) (m : Nat) (a bad : Int) (l : List (List UInt8)) (vx : Value) (w : World) : Prop where
  rw : RW w0 rb ls vl wE pb { P with texts := l } { v with vx := vx } { P with texts := l } { v with vx := vx } w
  rd : CAt w g s a bad false
  gt : pb < g
  at' : I64 a
  len : l.length + m ≤ 4096
  good : bad = 0 → aheadX l (textsF s m a) = R
  wrong : bad ≠ 0 → R.2.2 = bad
theorem XT.start {w0 w wE : World} {rb pb g : Nat} {ls : List Sec} {vl : Value} {s : List UInt8} {P : Prg} {v : PV} (h : RW w0 rb ls vl wE pb P v P v w) (hp : P.texts = []) (hv : v.vx = .slice none 0 0) (hc : CAt w g s (rcC s 0 0 4096).2.1 (rcC s 0 0 4096).2.2 false) (hg : pb < g) (hs : s.length ≤ 1000000000000000) :
    XT w0 rb ls vl wE pb g s P v (sec4F s) (rcC s 0 0 4096).1 (rcC s 0 0 4096).2.1 (rcC s 0 0 4096).2.2 [] (.slice none 0 0) w := by
  obtain ⟨c1, c2, c3⟩ := rcC_of s 4096
  have hi := rdC_i64 s hs 4096
  have e : sec4F s = if (rdC s 4096).2.2 ≠ 0 then ([], 0, (rdC s 4096).2.2) else textsF s (rdC s 4096).1 (rdC s 4096).2.1 := rfl
  have hi2 : I64 (rcC s 0 0 4096).2.1 := by
    have h := rdN_i64 (s := s) hs (a := 0) (i64_small (by omega)) 0
    unfold rcC
    generalize rdN s 0 0 = r at h ⊢
    obtain ⟨r1, r2, r3⟩ := r
    dsimp only at h ⊢
    split
    · exact h
    · split
      · exact h
      · exact h
  refine ⟨?_, hc, hg, hi2, by simpa using c3, fun h0 => ?_, fun h0 => ?_⟩
  · rw [← hp, ← hv]; exact h
  · rw [c1] at h0
    rw [c2 h0, e, if_neg (by simpa using h0), aheadX_nil]
  · rw [c1] at h0 ⊢
    rw [e, if_pos h0]
theorem XT.round {w0 w2 w3 wE : World} {rb pb g : Nat} {ls : List Sec} {vl : Value} {s : List UInt8} {P : Prg} {v : PV} {R : List (List UInt8) × Int × Int} {m : Nat} {a bad : Int} {l : List (List UInt8)} {vx vx' : Value} {y : List UInt8}
    (h : RW w0 rb ls vl wE pb { P with texts := l } { v with vx := vx } { P with texts := l } { v with vx := vx } w2) (hc : CAt w2 g s a bad false)
    (ho : OwnR strC 1 (pb + 1) 9 w3 vx' (l ++ [y])) (hg : w2.grownBy w3 vx.ownBlock) (hy : y.length ≤ 4096)
    (hgt : pb < g) (hat : I64 a) (hl : l.length + 1 + m ≤ 4096) (good : bad = 0 → aheadX (l ++ [y]) (textsF s m a) = R) (wrong : bad ≠ 0 → R.2.2 = bad) :
    XT w0 rb ls vl wE pb g s P v R m a bad (l ++ [y]) vx' (w3.setCell ⟨pb, 6, none⟩ vx') := by
  have hown : OwnR strC 1 (pb + 1) 9 w2 vx l := h.own.texts
  have hne : ∀ q, vx.ownBlock = some q → pb + 1 ≤ q := fun q hq => (hown.below hq).1
  have hB : Below (pb + 1) w2 w3 := grown_below hg (by have := h.box.lt; omega) hne
  have hP : PrgO (pb + 1) w3 { v with vx := vx' } { P with texts := l ++ [y] } := PrgO.textsG (v := { v with vx := vx }) (p := { P with texts := l }) h.own hg ho fun x hx => by
    rcases List.mem_append.1 hx with hx | hx
    · exact h.own.tl x hx
    · simp at hx; rw [hx]; exact hy
  have h3 := h.below1 hB hP
  have hC : CAt w3 g s a bad false := grown_obj hg hc fun e => by
    obtain ⟨cs, fz, hcq⟩ := hown.typed e
    unfold CAt at hc
    rw [hc] at hcq; simp at hcq
  have h4 := h3.set (k := 6) (u := vx') (h3.box.set6 vx' (l ++ [y]))
  exact ⟨h4, hC.far (by omega), hgt, hat, by simp; omega, good, wrong⟩
theorem XT.done {w0 w wE : World} {rb pb g : Nat} {ls : List Sec} {vl : Value} {s : List UInt8} {P : Prg} {v : PV} {R : List (List UInt8) × Int × Int} {m : Nat} {a bad : Int} {l : List (List UInt8)} {vx : Value} (h : XT w0 rb ls vl wE pb g s P v R m a bad l vx w) (hm : m = 0 ∨ bad ≠ 0) :
    errS s.length a bad false = errS s.length R.2.1 R.2.2 false ∧ (errS s.length a bad false = 0 → l = R.1) := by
  by_cases h0 : bad = 0
  · obtain rfl : m = 0 := by
      rcases hm with hm | hm
      · exact hm
      · exact absurd h0 hm
    have e := h.good h0
    rw [aheadX_zero] at e
    rw [← e, h0]
    exact ⟨rfl, fun _ => rfl⟩
  · have e := h.wrong h0
    unfold errS
    rw [e, if_pos h0, if_pos h0]
    exact ⟨rfl, fun h => absurd h h0⟩
/-- the loop of seeds, by the reference -/
structure ET (w0 : World) (rb : Nat) (ls : List Sec) (vl : Value) (wE : World) (pb g : Nat) (s : List UInt8) (P : Prg) (v : PV) (L : List Nat) (v5 : Value) (a b : Int) (l : List Nat) (vs : Value) (w : World) : Prop where
  rw : RW w0 rb ls vl wE pb { P with hash := ⟨low32 l, [], []⟩ } { v with vs := vs } P v w
  rd : CAt w g s a b (wide32 l)
  own : OwnI (pb + 1) 45 .u32 w vs (nats (low32 l))
  src : OwnI (pb + 1) 66 .u64 w v5 (nats L)
  gt : pb < g
  nil : P.hash = ⟨[], [], []⟩ ∧ v.vs = .slice none 0 0
theorem ET.start {w0 w wE : World} {rb pb g : Nat} {ls : List Sec} {vl : Value} {s : List UInt8} {P : Prg} {v : PV} {L : List Nat} {v5 : Value} {a b : Int} (h : RW w0 rb ls vl wE pb P v P v w) (hn : P.hash = ⟨[], [], []⟩ ∧ v.vs = .slice none 0 0) (hc : CAt w g s a b false) (hg : pb < g) (ho : OwnI (pb + 1) 66 .u64 w v5 (nats L)) :
    ET w0 rb ls vl wE pb g s P v L v5 a b (L.take 0) (.slice none 0 0) w := by
  refine ⟨?_, hc, OwnI.nil _ _ _ _, ho, hg, hn⟩
  have e1 : ({ P with hash := ⟨low32 (L.take 0), [], []⟩ } : Prg) = P := by
    rw [show (⟨low32 (L.take 0), [], []⟩ : HashP) = P.hash from hn.1.symm]
  have e2 : ({ v with vs := .slice none 0 0 } : PV) = v := by rw [← hn.2]
  rw [e1, e2]; exact h
theorem ET.flag {w0 w wE : World} {rb pb g : Nat} {ls : List Sec} {vl : Value} {s : List UInt8} {P : Prg} {v : PV} {L : List Nat} {v5 : Value} {a b : Int} {l : List Nat} {vs : Value} (h : ET w0 rb ls vl wE pb g s P v L v5 a b l vs w) (x : Bool) :
    RW w0 rb ls vl wE pb { P with hash := ⟨low32 l, [], []⟩ } { v with vs := vs } P v (w.setCell ⟨g, 3, none⟩ (.bool x)) ∧ CAt (w.setCell ⟨g, 3, none⟩ (.bool x)) g s a b x ∧ OwnI (pb + 1) 45 .u32 (w.setCell ⟨g, 3, none⟩ (.bool x)) vs (nats (low32 l)) ∧ OwnI (pb + 1) 66 .u64 (w.setCell ⟨g, 3, none⟩ (.bool x)) v5 (nats L) := by
  have he : Else g w (w.setCell ⟨g, 3, none⟩ (.bool x)) := (Else.refl _ _).setCell _ _
  have hc := h.rd
  have F : ∀ {e : TypeId} {sz : Nat} {u : Value} {n : Nat} {xs : List Value}, e ≠ 87 → OwnC (pb + 1) e sz w u n xs → OwnC (pb + 1) e sz (w.setCell ⟨g, 3, none⟩ (.bool x)) u n xs := fun {e sz u n xs} hne ho =>
    OwnC.block ho fun q hq => by
      obtain ⟨cs, fz, hcq⟩ := OwnR.typedC ho hq
      refine he.block q (OwnC.lt ho q hq).2 fun e' => hne ?_
      subst e'
      unfold CAt at hc
      rw [hcq] at hc; simp at hc; exact hc.2.1
  exact ⟨h.rw.els he h.rd h.gt, h.rd.set3 x, F (by decide) h.own, F (by decide) h.src⟩
theorem ET.round {w0 w2 w3 wE : World} {rb pb g : Nat} {ls : List Sec} {vl : Value} {s : List UInt8} {P : Prg} {v : PV} {L : List Nat} {v5 : Value} {a b : Int} {l l' : List Nat} {vs vs' : Value}
    (h : RW w0 rb ls vl wE pb { P with hash := ⟨low32 l, [], []⟩ } { v with vs := vs } P v w2) (hc : CAt w2 g s a b (wide32 l')) (hn : P.hash = ⟨[], [], []⟩ ∧ v.vs = .slice none 0 0) (hs : OwnI (pb + 1) 45 .u32 w2 vs (nats (low32 l))) (h5 : OwnI (pb + 1) 66 .u64 w2 v5 (nats L))
    (ho : OwnI (pb + 1) 45 .u32 w3 vs' (nats (low32 l'))) (hg : w2.grownBy w3 vs.ownBlock) (hgt : pb < g) :
    ET w0 rb ls vl wE pb g s P v L v5 a b l' vs' (w3.setCell ⟨pb, 7, none⟩ vs') := by
  have hr : ∀ q, vs.ownBlock = some q → ∃ cs fz, w2.heap[q]? = some (.cells cs 45 fz) := fun q hq => hs.typed hq
  have hne : ∀ q, vs.ownBlock = some q → pb + 1 ≤ q := fun q hq => hs.below hq
  have hB : Below (pb + 1) w2 w3 := grown_below hg (by have := h.box.lt; omega) hne
  have hP : PrgO (pb + 1) w3 v P := h.own.seedsG hn.1 hn.2 hg hr
  have h3 := h.below1 hB hP
  have hC : CAt w3 g s a b (wide32 l') := grown_obj hg hc fun e => by
    obtain ⟨cs, fz, hcq⟩ := hr g e
    unfold CAt at hc
    rw [hc] at hcq; simp at hcq
  have h5' : OwnI (pb + 1) 66 .u64 w3 v5 (nats L) := OwnC.grownT h5 hg hr (by decide)
  have h4 := h3.set (k := 7) (u := vs') (h3.box.set7 vs' ⟨low32 l', [], []⟩)
  exact ⟨h4, hC.far (by omega), OwnI.setG ho (by omega), OwnI.setG h5' (by omega), hgt, hn⟩
/-- three lists, one behind the other: the section's error and what it holds -/
theorem lists_done {s : List UInt8} {o1 o2 o3 : List Nat} {a1 a2 a3 b1 b2 b3 : Int} (h1 : b1 = (seedF s).2.2 ∧ (b1 = 0 → o1 = (seedF s).1 ∧ a1 = (seedF s).2.1)) (h2 : b2 = (rdL s a1 b1 4096).2.2 ∧ (b2 = 0 → o2 = (rdL s a1 b1 4096).1 ∧ a2 = (rdL s a1 b1 4096).2.1)) (h3 : b3 = (rdL s a2 b2 4096).2.2 ∧ (b3 = 0 → o3 = (rdL s a2 b2 4096).1 ∧ a3 = (rdL s a2 b2 4096).2.1)) :
    errS s.length a3 b3 (wide32 o1) = err5 s ∧ (err5 s = 0 → o1 = (seedF s).1 ∧ o2 = (keyF s).1 ∧ o3 = (valF s).1) := by
  have hbad : ∀ (a b : Int), b ≠ 0 → rdL s a b 4096 = ([], a, b) := fun a b h => by unfold rdL; rw [if_pos h]
  have hk : keyF s = rdL s (seedF s).2.1 (seedF s).2.2 4096 := by unfold keyF; rfl
  have hv : valF s = rdL s (keyF s).2.1 (keyF s).2.2 4096 := by unfold valF; rfl
  have he : err5 s = errS s.length (valF s).2.1 (valF s).2.2 (wide32 (seedF s).1) := rfl
  generalize err5 s = E at he ⊢
  by_cases g1 : b1 = 0
  · obtain ⟨q1, q2⟩ := h1.2 g1
    have e1 : rdL s a1 b1 4096 = keyF s := by rw [hk, q2, h1.1]
    rw [e1] at h2
    clear hk e1
    by_cases g2 : b2 = 0
    · obtain ⟨q3, q4⟩ := h2.2 g2
      have e2 : rdL s a2 b2 4096 = valF s := by rw [hv, q4, h2.1]
      rw [e2] at h3
      by_cases g3 : b3 = 0
      · obtain ⟨q5, q6⟩ := h3.2 g3
        exact ⟨by rw [he, q6, h3.1, q1], fun _ => ⟨q1, q3, q5⟩⟩
      · have e3 : E = b3 := by rw [he, ← h3.1]; unfold errS; rw [if_pos g3]
        exact ⟨by rw [e3]; unfold errS; rw [if_pos g3], fun h => absurd (e3.symm.trans h) g3⟩
    · have e2 : b3 = b2 := by rw [h3.1, hbad _ _ g2]
      have e3 : (valF s).2.2 = b2 := by rw [hv, ← h2.1, hbad _ _ g2]
      have e4 : E = b2 := by rw [he, e3]; unfold errS; rw [if_pos g2]
      exact ⟨by rw [e4, e2]; unfold errS; rw [if_pos g2], fun h => absurd (e4.symm.trans h) g2⟩
  · have e1 : b2 = b1 := by rw [h2.1, hbad _ _ g1]
    have g2 : b2 ≠ 0 := by rw [e1]; exact g1
    have e2 : b3 = b2 := by rw [h3.1, hbad _ _ g2]
    have e3 : (keyF s).2.2 = b1 := by rw [hk, ← h1.1, hbad _ _ g1]
    have e4 : (valF s).2.2 = b1 := by rw [hv, e3, hbad _ _ g1]
    have e5 : E = b1 := by rw [he, e4]; unfold errS; rw [if_pos g1]
    exact ⟨by rw [e5, e2, e1]; unfold errS; rw [if_pos g1], fun h => absurd (e5.symm.trans h) g1⟩
/-- the program is whole -/
theorem PrgO.hashG {B : Nat} {w : World} {v : PV} {p : Prg} {vs vk vv : Value} {l1 l2 l3 : List Nat} (h : PrgO B w v p) (h1 : OwnI B 45 .u32 w vs (nats (low32 l1))) (h2 : OwnI B 66 .u64 w vk (nats l2)) (h3 : OwnI B 66 .u64 w vv (nats l3)) (u2 : AllU64 l2) (u3 : AllU64 l3) :
    PrgO B w { v with vs := vs, vk := vk, vv := vv } { p with hash := ⟨low32 l1, l2, l3⟩ } :=
  ⟨h.num, h.code, h.tabs, h.texts, h1, h2, h3, h.tl, low32_lt l1, u2, u3⟩
theorem seedF_eq (s : List UInt8) : rdL s 0 0 4096 = seedF s := by rw [rdL_zero]; unfold seedF; rfl
theorem exec_load_pg {o : Oper} {a : Act} {w : World} {g : Nat} {p : Prg} {v : PV} (hs : PBox w g p v) (x : Operand) (ho : o.op = .load 30 x) (hx : a.eval x = .pointer (some ⟨g, 0, none⟩)) : (execOp a.eval o).run Try.prog w = .ok (.value (pgV p v)) w := by
  have r1 := run_loadVar_row (P := Try.prog) w g 30 30 (pgC p v) (0, 0) _ hs Try.underlying30 rfl info_pg
  unfold execOp
  simp only [ho, hx, Instr.loadAt, Instr.sureAddr, Sem.run_bind, Sem.run_pure, Result.andThen_ok, r1]
theorem ownI_R {B : Nat} {e : TypeId} {w : World} {v : Value} {l : List Nat} (h : OwnI B e .u32 w v (nats l)) : OwnR u32C 1 B e w v l := by
  unfold OwnR
  rw [flat_u32]
  unfold OwnI at h
  rw [nats_len] at h
  exact h
theorem ownR_I {B : Nat} {e : TypeId} {w : World} {v : Value} {l : List Nat} (h : OwnR u32C 1 B e w v l) : OwnI B e .u32 w v (nats l) := by
  unfold OwnR at h
  rw [flat_u32] at h
  unfold OwnI
  rw [nats_len]
  exact h
theorem whl_i64 (x : Nat) : I64 (whl x) := by unfold whl W62 I64; split <;> omega
theorem u32C_oneU (n : Nat) : ∀ u ∈ u32C n, u.oneCell' = true := fun u hu => by
  simp [u32C] at hu; subst hu; rfl
end Go.Proofs.Ytbomloodllddaaa
