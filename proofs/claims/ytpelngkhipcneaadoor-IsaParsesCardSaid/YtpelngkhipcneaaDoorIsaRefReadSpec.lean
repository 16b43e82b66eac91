/- Plain: what the reference has read of a line when it has read some of its fields. No conditions. -/
import Derived.Test.YtpelngkhipcneaaDoorIsaRead
import Derived.Test.YtpelngkhipcneaaDoorIsaRefWord
import Derived.Test.YtpelngkhipcneaaDoorOwnRows
namespace Go.Proofs.YtpelngkhipcneaaDoor
open Go.RowKit
/-- u is what the first j fields of the parts give -/
def JI (ps : List (List UInt8)) (o j : Nat) (u : Nat → Int) : Prop := u 0 = o ∧ (∀ k (hk : k < (letr o).length), k < j → (0 ≤ u (pos (letr o)[k]) ∧ u (pos (letr o)[k]) ≤ (mst (letr o)[k] : Int)) ∧ ps.getD (k + 1) [] = fldB u (letr o)[k]) ∧ ∀ i, i ≠ 0 → i ∉ ((letr o).take j).map pos → u i = 0
theorem JI_start (ps : List (List UInt8)) (o : Nat) : JI ps o 0 (opI (o : Int)) := ⟨by simp [opI], fun k hk h => by omega, fun i hi _ => by simp [opI, hi]⟩
theorem pos_ne {o a b : Nat} (hb : b < (letr o).length) (h : a < b) : pos (letr o)[a] ≠ pos (letr o)[b] := by
  have hnd := letr_nodup o
  intro e
  have h1 : a < ((letr o).map pos).length := by rw [List.length_map]; omega
  have h2 : b < ((letr o).map pos).length := by rw [List.length_map]; omega
  have : ((letr o).map pos)[a] = ((letr o).map pos)[b] := by simp only [List.getElem_map]; exact e
  have := (List.getElem_inj hnd).1 this
  omega
theorem fldB_upd {u : Nat → Int} {y p : Nat} {n : Int} (h : pos y ≠ p) : fldB (upd u p n) y = fldB u y := by unfold fldB upd; rw [if_neg h]
theorem JI_step {ps : List (List UInt8)} {o j : Nat} {u : Nat → Int} {n : Int} (h : JI ps o j u) (hj : j < (letr o).length) (h0 : 0 ≤ n) (h1 : n ≤ (mst (letr o)[j] : Int)) (hp : ps.getD (j + 1) [] = (sgn (letr o)[j]).map u8 ++ Lib.itoa n) : JI ps o (j + 1) (upd u (pos (letr o)[j]) n) := by
  obtain ⟨g0, g1, g2⟩ := h
  have hpp := pos_ge (letr o)[j]
  refine ⟨by unfold upd; rw [if_neg (by omega)]; exact g0, fun k hk hkj => ?_, fun i hi hm => ?_⟩
  · by_cases e : k = j
    · subst e
      have e1 : upd u (pos (letr o)[k]) n (pos (letr o)[k]) = n := by unfold upd; rw [if_pos rfl]
      rw [e1]
      refine ⟨⟨h0, h1⟩, ?_⟩
      unfold fldB
      rw [e1]; exact hp
    · have hne := pos_ne hj (show k < j by omega)
      rw [fldB_upd hne]
      have e1 : upd u (pos (letr o)[j]) n (pos (letr o)[k]) = u (pos (letr o)[k]) := by unfold upd; rw [if_neg hne]
      rw [e1]
      exact g1 k hk (by omega)
  · rw [List.take_succ_eq_append_getElem hj, List.map_append, List.mem_append, not_or] at hm
    have : i ≠ pos (letr o)[j] := fun e => hm.2 (by simp [e])
    unfold upd; rw [if_neg this]; exact g2 i hi hm.1
theorem JI_end {s : List UInt8} {o : Nat} {u : Nat → Int} (hf : fits (spl 32 s) o) (h : JI (spl 32 s) o (letr o).length u) : okI u = true ∧ lineL u = s := by
  obtain ⟨g0, g1, g2⟩ := h
  obtain ⟨f1, f2, f3, f4⟩ := hf
  have e : (u 0).toNat = o := by omega
  have hok : okI u = true := by
    rw [okI_iff, e, g0]
    refine ⟨by omega, fun y hy => ?_, fun j hj hj4 hm => g2 j (by omega) (by rw [List.take_length]; exact hm)⟩
    obtain ⟨k, hk, rfl⟩ := List.getElem_of_mem hy
    exact (g1 k hk hk).1
  refine ⟨hok, ?_⟩
  apply spl_inj (c := 32)
  rw [lineL_spl hok, e]
  have hne := spl_ne 32 s
  cases hs : spl 32 s with
  | nil => exact absurd hs hne
  | cons a l =>
    rw [hs] at f3 f4 g1
    have f3' : a = (wrd o).map u8 := f3
    rw [f3']
    congr 1
    have f4' : l.length = (letr o).length := by simpa using f4
    refine List.ext_getElem (by rw [List.length_map]; exact f4'.symm) fun i h1 h2 => ?_
    rw [List.getElem_map]
    have := (g1 i (by omega) (by omega)).2
    rw [List.getD_cons_succ, List.getD_eq_getElem?_getD, List.getElem?_eq_getElem h2] at this
    exact this.symm
/-- what a field's part says of each instruction whose line it is -/
theorem line_field {s : List UInt8} {o : Nat} {x : Nat → Int} (hf : fits (spl 32 s) o) (hx : okI x = true) (hs : lineL x = s) (j : Nat) (hj : j < (letr o).length) : (spl 32 s).getD (j + 1) [] = (sgn (letr o)[j]).map u8 ++ Lib.itoa (x (pos (letr o)[j])) ∧ 0 ≤ x (pos (letr o)[j]) ∧ x (pos (letr o)[j]) ≤ (mst (letr o)[j] : Int) := by
  have e := fits_one hf (fits_line hx hs)
  have h2 := okI_in hx (x := (letr o)[j]) (by rw [← e]; exact List.getElem_mem hj)
  obtain ⟨o', h0, h1, h3, h4, h5, h6⟩ := line_parts hx hs
  have e2 : o' = o := by omega
  subst e2
  exact ⟨h6 j hj, h2⟩
theorem mst_10 (x : Nat) : (mst x : Int) < 10000000000 := by have := mst_le x; omega
def ptL (l : List UInt8) : List Value := [.string ⟨l.toArray⟩]
theorem ptL_len (l : List UInt8) : (ptL l).length = 1 := rfl
/-- what is so while the reference tries operations -/
structure RR (w0 : World) (gp cap : Nat) (ps : List (List UInt8)) (w : World) : Prop where
  bel : Below w0.heap.size w0 w
  res : InsAt w w0.heap.size (fun _ => 0)
  own : OwnR ptL 1 w0.heap.size 9 w (.slice (some ⟨gp, 0, none⟩) ps.length cap) ps
theorem RR.step {w0 w w' : World} {gp cap : Nat} {ps : List (List UInt8)} (h : RR w0 gp cap ps w) (hb : Below w.heap.size w w') : RR w0 gp cap ps w' :=
  ⟨h.bel.trans (hb.mono h.bel.size), h.res.keep hb, h.own.keep hb (Nat.le_refl _)⟩
theorem RR.lt {w0 w : World} {gp cap : Nat} {ps : List (List UInt8)} (h : RR w0 gp cap ps w) : gp < w.heap.size := (h.own.below rfl).2
theorem RR.cell {w0 w : World} {gp cap : Nat} {ps : List (List UInt8)} (h : RR w0 gp cap ps w) (k : Nat) (hk : k < ps.length) : w.cell? ⟨gp, k, none⟩ = some (.string ⟨(ps.getD k []).toArray⟩) := by
  have := h.own.cellAt ptL_len k (ps.getD k []) 0 (by simp [List.getD, List.getElem?_eq_getElem hk]) (by decide)
  simpa [ptL] using this
theorem RR.rowOther {w0 w : World} {gp cap g : Nat} {ps : List (List UInt8)} {cs : Array Value} (h : RR w0 gp cap ps w) (hB : w0.heap.size < g) (hg : gp < g) : RR w0 gp cap ps (w.setRow g cs) :=
  ⟨Below.row h.bel (Nat.le_of_lt hB) _, by
    have := h.res
    unfold InsAt at this ⊢
    rw [setRow_other w g w0.heap.size cs (by omega)]; exact this, h.own.other fun k hk => by
    simp only [Value.ownBlock, Option.some.injEq] at hk
    exact setRow_other w g k cs (by omega)⟩
theorem rr_calls {P : Program} {f : FuncId} {args : Array Value} {r : Value} {w0 w : World} {gp cap : Nat} {ps : List (List UInt8)} (h : RR w0 gp cap ps w) (hc : Calls P f args w fun e w' => e = .returned r ∧ Below w.heap.size w w') :
    Calls P f args w fun e w' => e = .returned r ∧ RR w0 gp cap ps w' := hc.mono fun _ _ ⟨he, hb⟩ => ⟨he, h.step hb⟩
/-- the same, with an instruction's variable of the call's own -/
structure RI (w0 : World) (gp cap gi : Nat) (ps : List (List UInt8)) (u : Nat → Int) (w : World) : Prop where
  rr : RR w0 gp cap ps w
  ins : InsAt w gi u
  lo : w0.heap.size < gi
  lp : gp < gi
theorem RI.step {w0 w w' : World} {gp cap gi : Nat} {ps : List (List UInt8)} {u : Nat → Int} (h : RI w0 gp cap gi ps u w) (hb : Below w.heap.size w w') : RI w0 gp cap gi ps u w' := ⟨h.rr.step hb, h.ins.keep hb, h.lo, h.lp⟩
theorem ri_calls {P : Program} {f : FuncId} {args : Array Value} {r : Value} {w0 w : World} {gp cap gi : Nat} {ps : List (List UInt8)} {u : Nat → Int} (h : RI w0 gp cap gi ps u w) (hc : Calls P f args w fun e w' => e = .returned r ∧ Below w.heap.size w w') :
    Calls P f args w fun e w' => e = .returned r ∧ RI w0 gp cap gi ps u w' := hc.mono fun _ _ ⟨he, hb⟩ => ⟨he, h.step hb⟩
theorem RI.put {w0 w : World} {gp cap gi : Nat} {ps : List (List UInt8)} {u u' : Nat → Int} (h : RI w0 gp cap gi ps u w) : RI w0 gp cap gi ps u' (w.setRow gi (ic u')) := ⟨h.rr.rowOther h.lo h.lp, h.ins.row, h.lo, h.lp⟩
theorem RI.new {w0 w : World} {gp cap : Nat} {ps : List (List UInt8)} (h : RR w0 gp cap ps w) (u : Nat → Int) : RI w0 gp cap w.heap.size ps u (w.alloc (.cells (ic u) 49)) :=
  ⟨h.step ((Below.refl _ _).alloc (Nat.le_refl _) _), InsAt.new w u, Nat.lt_of_lt_of_le h.res.lt (Nat.le_refl _), h.lt⟩
theorem take_pre (t g : List UInt8) : (t.take g.length = g) ↔ ∃ r, t = g ++ r := by
  constructor
  · intro h; exact ⟨t.drop g.length, by conv => lhs; rw [← List.take_append_drop g.length t, h]⟩
  · rintro ⟨r, rfl⟩; simp
end Go.Proofs.YtpelngkhipcneaaDoor
