/- For VerifyMore: whether a program is small; a program put together in the call's own memory. No conditions beyond sizes. -/
import Derived.Test.YtkhggnlanopgkaaMoreSpec
import Derived.Test.YtkhggnlanopgkaaVerFew
import Derived.Test.YtkhggnlanopgkaaApp
import Derived.Test.YtkhggnlanopgkaaVerifyTables
namespace Go.Proofs.Ytkhggnlanopgkaa
open Go.RowKit
set_option maxRecDepth 100000 in
set_option maxHeartbeats 4000000 in
theorem law_few2 (p : Prg) (v : PV) (w : World) (H : PrgAt w v p) (hw : Whole p) : Calls Try.prog 11 #[pgV p v] w fun e w' => ∃ c, e = .returned (.bool c) ∧ (c = true → p.code.length ≤ 80) ∧ Below w.heap.size w w' := by
  obtain ⟨ac, cc, hvc, hcc, hmc, _⟩ := H.code.open icL_len
  obtain ⟨ts, hts, htl, htr⟩ := H.tabs
  obtain ⟨at', ct, hvt, hct, hmt, hcellt⟩ := hts.open (f := tbC) (sz := 2) (fun _ => rfl)
  obtain ⟨vc, vt, vx, vs, vk, vv⟩ := v
  dsimp only at hvc hvt
  subst hvc hvt
  have h16 := (((data_iff p).1 hw.data).2.2.2.1).2.2.1
  obtain ⟨n, hn⟩ : ∃ n, n = p.code.length := ⟨_, rfl⟩
  obtain ⟨m, hm⟩ : ∃ m, m = ts.length := ⟨_, rfl⟩
  have HP : Hid (PBox (w.alloc (.cells (pgC p ⟨.slice ac p.code.length cc, .slice at' ts.length ct, vx, vs, vk, vv⟩) 30)) w.heap.size p ⟨.slice ac p.code.length cc, .slice at' ts.length ct, vx, vs, vk, vv⟩) := Lib.hid (PBox.new _ _ _)
  have Hb0 : Hid (Below w.heap.size w (w.alloc (.cells (pgC p ⟨.slice ac p.code.length cc, .slice at' ts.length ct, vx, vs, vk, vv⟩) 30))) := Lib.hid ((Below.refl _ _).alloc (Nat.le_refl _) _)
  have hm16 : m ≤ 16 := by omega
  have Hm := Lib.hid hm
  rw [← hn, ← hm] at HP Hb0
  rw [← hn, ← hm]
  have Hts := Lib.hid htr
  have Htl := Lib.hid htl
  have Hct := Lib.hid hcellt
  have Hwh := Lib.hid hw
  clear hn hm htr htl hcellt hw hts hct hmt hcc hmc H h16
  go_enter Try.func11, Try.ntmps11
  repeat' (go_not_at_region 2; first | go_values | go_skip | go_guarded | go_step | go_upon)
  refine gen_world (fun w' => PBox w' w.heap.size p ⟨.slice ac n cc, .slice at' m ct, vx, vs, vk, vv⟩ ∧ Below w.heap.size w w') ⟨HP.out, Hb0.out⟩ ?_
  clear HP Hb0
  rintro wa ⟨j1, j2⟩
  have J1 := Lib.hid j1
  have J2 := Lib.hid j2
  have c5 := j1.cell 5
  clear j1 j2
  repeat' (first | go_values | go_skip | go_guarded | go_step | go_upon)
  clear c5
  go_loopw [3, 5, 9] (fun s3 _ s9 wr => ∃ (k : Nat) (u : Int), s9 = .int .i64 k ∧ s3 = .int .i64 u ∧ k ≤ m ∧ 0 ≤ u ∧ u ≤ 400000 * (k : Int) ∧ Hid (PBox wr w.heap.size p ⟨.slice ac n cc, .slice at' m ct, vx, vs, vk, vv⟩) ∧ Hid (Below w.heap.size w wr)) (fun _ _ s9 _ => m - (intOf s9).toNat)
  case atStart => exact ⟨0, 0, rfl, rfl, Nat.zero_le _, by omega, by omega, J1, J2⟩
  case round =>
    clear J1 J2
    obtain ⟨k, u, rfl, rfl, hk, hu0, hu1, J1, J2⟩ := hrel
    by_cases hlt : k < m
    · have hktl : k < p.tabs.length := by rw [← Htl.out, ← Hm.out]; exact hlt
      have hkts : k < ts.length := by rw [← Hm.out]; exact hlt
      have hti : ts[k]? = some ts[k] := List.getElem?_eq_getElem hkts
      obtain ⟨e1, _, hrow⟩ := Hts.out k _ _ hti (List.getElem?_eq_getElem hktl)
      rcases Hct.out with h0 | ⟨bt, ot, hat, hbt, hclt⟩
      · omega
      subst hat
      obtain ⟨t0, t1⟩ := tab_cells hclt hti
      have hok := (tab_open (Hwh.out.tab hktl)).1
      rw [show p.tabs.getD k (0, []) = p.tabs[k] from by rw [List.getD_eq_getElem?_getD, List.getElem?_eq_getElem hktl]; rfl] at hok
      generalize p.tabs[k] = tab at *
      obtain ⟨q, dl⟩ := tab
      generalize ts[k] = tt at *
      obtain ⟨q', vd⟩ := tt
      dsimp only at e1 hrow t0 t1 hok
      obtain ⟨ad, cd, hvd, hcd, hmd⟩ := hrow.slice
      subst hvd e1
      rw [← J2.out.cell (show bt < w.heap.size from hbt)] at t0 t1
      have hdl : (dl.length : Int) ≤ 400000 := by omega
      have hb4 : Below wr.heap.size wr (wr.alloc (.cells #[.int .i64 q', .slice ad dl.length cd] 37)) := (Below.refl _ _).alloc (Nat.le_refl _) _
      have K1 := Lib.hid (J1.out.keep hb4)
      have K2 := Lib.hid (J2.out.trans (hb4.mono J2.out.size))
      clear hok hrow hcd hmd hti hclt hb4 J1 J2
      repeat' (first | go_values | go_skip | go_guarded | go_step | go_upon)
      go_roundw
      case rel => exact ⟨k + 1, u + dl.length, by go_num, rfl, hlt, by omega, by omega, K1, K2⟩
      case measure => simp [intOf]; omega
    · obtain rfl : k = m := by omega
      have c4 := J1.out.cell 4
      by_cases h80 : (n : Int) ≤ 80
      · by_cases h20 : u ≤ 20000
        all_goals
          repeat' (first | go_values | go_skip | go_guarded | go_step | go_upon)
          go_ret
          exact ⟨_, rfl, fun _ => by omega, J2.out⟩
      · repeat' (first | go_values | go_skip | go_guarded | go_step | go_upon)
        go_ret
        exact ⟨_, rfl, fun h => by simp at h, J2.out⟩
/-- a whole row behind a row of the call's own, in a list of operations -/
theorem app_rowL {α : Type} {f : α → List Value} {sz B : Nat} {e : TypeId} {P : Program} {w : World} {ops : Array Oper} {rest : List Oper} {v : Value} {l0 l1 : List α} {o : Oper} {a : Act} {Q : Exit → Act → World → Prop} {t : TypeId} {z : Value} (bytes : Nat)
    (hf : ∀ y, (f y).length = sz) (ho : ∀ y, y ∈ l1 → ∀ u ∈ f y, u.oneCell' = true) (h1 : P.underlying t = some (.slice e)) (h2 : (P.info? e).map (fun i => (i.zero, i.size, i.bytes)) = some (some z, sz, bytes)) (hzs : z.cells.size = sz)
    (hg : o.guard = none) (s x' : Operand) (hop : o.op = Op.call { callee := Callee.builtin Builtin.append, args := #[s, x'], argTypes := #[t, t] }) (hs : a.eval s = v) (hx : RowOf f sz w (a.eval x') l1)
    (hown : OwnR f sz B e w v l0) (hB : B ≤ w.heap.size) (hbig : (l0.length + l1.length) * bytes ≤ 140737488355328) (h63 : l0.length + l1.length ≤ maxLen)
    (hK : ∀ v' w', OwnR f sz B e w' v' (l0 ++ l1) → Below B w w' → KeepB e w w' → wpList P ops Q rest (a.put o.dst v') w') : wpList P ops Q (o :: rest) a w :=
  wpList_plain hg fun K hK' => app_rowW bytes hf ho h1 h2 hzs s x' hop hs hx hown hB hbig h63 fun v' w' r1 r2 => hK' _ _ (hK v' w' r1 (grown_below r2 hB fun k hk => (hown.below hk).1) (fun k cs t' fz hk ht => by
    refine grown_obj r2 hk fun e' => ?_
    obtain ⟨cs', fz', h'⟩ := hown.typed e'
    rw [hk] at h'
    simp at h'
    exact ht h'.2.1))
theorem OwnR.keepT {α : Type} {f : α → List Value} {sz B : Nat} {e e' : TypeId} {w w' : World} {v : Value} {l : List α} (h : OwnR f sz B e w v l) (hk : KeepB e' w w') (he : e ≠ e') : OwnR f sz B e w' v l :=
  h.other fun k hk' => by
    obtain ⟨cs, fz, hb⟩ := h.typed hk'
    rw [hk k cs e fz hb he, hb]
theorem OwnR.prog {α : Type} {f : α → List Value} {sz B : Nat} {e : TypeId} {w : World} {v : Value} {l : List α} {g k : Nat} {p : Prg} {V : PV} {u : Value} (h : OwnR f sz B e w v l) (hq : PBox w g p V) (he : 30 ≠ e) : OwnR f sz B e (w.setCell ⟨g, k, none⟩ u) v l :=
  h.setOther fun k' hk' e' => by
    subst e'
    obtain ⟨cs, fz, hb⟩ := h.typed hk'
    rw [show w.heap[k']? = _ from hq] at hb
    simp at hb
    exact he hb.2.1
abbrev qp (p : Prg) (sg : Int) : Prg := { p with signs := sg }
/-- the law's own variables: the program, and the one that is made -/
structure MW (w0 : World) (p : Prg) (V : PV) (g4 g11 : Nat) (sg : Int) (vc vt vx : Value) (w : World) : Prop where
  bel : Below w0.heap.size w0 w
  b4 : w0.heap.size ≤ g4
  b11 : w0.heap.size ≤ g11
  ne : g4 ≠ g11
  box : PBox w g4 p V
  qb : PBox w g11 (qp p sg) ⟨vc, vt, vx, V.vs, V.vk, V.vv⟩
section
variable {w0 w w' : World} {p : Prg} {V : PV} {g4 g11 : Nat} {sg : Int} {vc vt vx : Value}
theorem MW.keep (h : MW w0 p V g4 g11 sg vc vt vx w) (hb : Below w.heap.size w w') : MW w0 p V g4 g11 sg vc vt vx w' :=
  ⟨h.bel.trans (hb.mono h.bel.size), h.b4, h.b11, h.ne, h.box.keep hb, h.qb.keep hb⟩
theorem MW.turn {e : TypeId} (h : MW w0 p V g4 g11 sg vc vt vx w) (hb : Below w0.heap.size w w') (hk : KeepB e w w') (he : 30 ≠ e) : MW w0 p V g4 g11 sg vc vt vx w' :=
  ⟨h.bel.trans hb, h.b4, h.b11, h.ne, hk _ _ _ _ h.box he, hk _ _ _ _ h.qb he⟩
theorem MW.free (h : MW w0 p V g4 g11 sg vc vt vx w) (k : Nat) : w.frozen? ⟨g11, k, none⟩ = false := frozen_of_row _ _ _ _ _ h.qb
theorem MW.set3 (h : MW w0 p V g4 g11 sg vc vt vx w) (n : Int) : MW w0 p V g4 g11 n vc vt vx (w.setCell ⟨g11, 3, none⟩ (.int .i64 n)) := by
  refine ⟨h.bel.setCell h.b11 _, h.b4, h.b11, h.ne, ?_, ?_⟩
  · unfold PBox; rw [heap_setCell_other _ _ _ _ (by have := h.ne; dsimp only; omega)]; exact h.box
  · unfold PBox; rw [setCell_eq_setRow w g11 3 _ _ _ _ h.qb]; exact setRow_heap _ _ _ _ _ _ h.qb
theorem MW.set4 (h : MW w0 p V g4 g11 sg vc vt vx w) (u : Value) : MW w0 p V g4 g11 sg u vt vx (w.setCell ⟨g11, 4, none⟩ u) := by
  refine ⟨h.bel.setCell h.b11 _, h.b4, h.b11, h.ne, ?_, ?_⟩
  · unfold PBox; rw [heap_setCell_other _ _ _ _ (by have := h.ne; dsimp only; omega)]; exact h.box
  · unfold PBox; rw [setCell_eq_setRow w g11 4 _ _ _ _ h.qb]; exact setRow_heap _ _ _ _ _ _ h.qb
theorem MW.set5 (h : MW w0 p V g4 g11 sg vc vt vx w) (u : Value) : MW w0 p V g4 g11 sg vc u vx (w.setCell ⟨g11, 5, none⟩ u) := by
  refine ⟨h.bel.setCell h.b11 _, h.b4, h.b11, h.ne, ?_, ?_⟩
  · unfold PBox; rw [heap_setCell_other _ _ _ _ (by have := h.ne; dsimp only; omega)]; exact h.box
  · unfold PBox; rw [setCell_eq_setRow w g11 5 _ _ _ _ h.qb]; exact setRow_heap _ _ _ _ _ _ h.qb
theorem MW.set6 (h : MW w0 p V g4 g11 sg vc vt vx w) (u : Value) : MW w0 p V g4 g11 sg vc vt u (w.setCell ⟨g11, 6, none⟩ u) := by
  refine ⟨h.bel.setCell h.b11 _, h.b4, h.b11, h.ne, ?_, ?_⟩
  · unfold PBox; rw [heap_setCell_other _ _ _ _ (by have := h.ne; dsimp only; omega)]; exact h.box
  · unfold PBox; rw [setCell_eq_setRow w g11 6 _ _ _ _ h.qb]; exact setRow_heap _ _ _ _ _ _ h.qb
theorem own_emptyM {α : Type} {f : α → List Value} {sz B : Nat} {e : TypeId} (W : World) (hB : B ≤ W.heap.size) : OwnR f sz B e (W.alloc (.cells #[] e)) (.slice (some ⟨W.heap.size, 0, none⟩) 0 0) ([] : List α) :=
  ⟨by simp, .inr ⟨W.heap.size, 0, #[], (0, 0), rfl, hB, Go.heap_alloc_new _ _, fun j h => by simp at h, Nat.le_refl _, Nat.zero_le _, by simp, by simp⟩⟩
theorem OwnR.form3M {α : Type} {f : α → List Value} {sz B : Nat} {e : TypeId} {v : Value} {l : List α} (h : OwnR f sz B e w v l) : ∃ a m c, v = .slice a m c := by
  obtain ⟨a, c, e, _⟩ := h.form
  exact ⟨a, _, c, e⟩
/-- the program that is made, as it lies -/
theorem MW.atQ (h : MW w0 p V g4 g11 sg vc vt vx w) (H : PrgAt w0 V p) {text : List UInt8} {td : List Int} {xs : List (Nat → Int)} {ts : List (Int × Value)} {vd : Value} (hI : I64 (p.signs + 1)) (htl : text.length ≤ 140737488351232)
    (htabs : RowOf tbC 2 w0 V.vt ts ∧ ts.length = p.tabs.length ∧ ∀ (i : Nat) t d, ts[i]? = some t → p.tabs[i]? = some d → t.1 = d.1 ∧ I64 d.1 ∧ RowOf intC 1 w0 t.2 d.2)
    (hc : OwnR icL 5 w0.heap.size 39 w vc (p.code ++ xs ++ [k2])) (ht : OwnR tbC 2 w0.heap.size 37 w vt (ts ++ [(1, vd)])) (hd : OwnR intC 1 w0.heap.size 3 w vd td) (hx : OwnR strC 1 w0.heap.size 9 w vx (p.texts ++ [text])) :
    PrgAt w ⟨vc, vt, vx, V.vs, V.vk, V.vv⟩ (morePrg p text td xs) := by
  refine ⟨⟨H.num.1, H.num.2.1, H.num.2.2.1, hI⟩, hc.row, ⟨_, ht.row, ?_, fun i t d h1 h2 => ?_⟩, hx.row, H.hash.keep h.bel, fun l hl => ?_⟩
  · show (ts ++ [((1 : Int), vd)]).length = (p.tabs ++ [((1 : Int), td)]).length
    rw [List.length_append, List.length_append, htabs.2.1]; rfl
  · have h2' : (p.tabs ++ [((1 : Int), td)])[i]? = some d := h2
    by_cases hi : i < p.tabs.length
    · rw [List.getElem?_append_left (by rw [htabs.2.1]; exact hi)] at h1
      rw [List.getElem?_append_left hi] at h2'
      obtain ⟨a, b, c⟩ := htabs.2.2 i t d h1 h2'
      exact ⟨a, b, c.keep h.bel⟩
    · rw [List.getElem?_append_right (by rw [htabs.2.1]; omega), htabs.2.1] at h1
      rw [List.getElem?_append_right (by omega)] at h2'
      cases hj : i - p.tabs.length with
      | zero => rw [hj] at h1 h2'; simp at h1 h2'; subst h1 h2'; exact ⟨rfl, (i64_small (by decide) : I64 1), hd.row⟩
      | succ j => rw [hj] at h1; simp at h1
  · have hl' : l ∈ p.texts ++ [text] := hl
    rcases List.mem_append.1 hl' with h' | h'
    · exact H.tl l h'
    · simp at h'; rw [h']; exact htl
end
/-- one instruction ahead of the end, in the call's own memory -/
theorem two_at {w : World} {g : Nat} {x : Nat → Int} {fz : Nat × Nat} (h : w.heap[g]? = some (.cells (([x, k2] : List (Nat → Int)).flatMap icL).toArray 39 fz)) :
    PrgAt w ⟨.slice (some ⟨g, 0, none⟩) 2 2, .slice none 0 0, .slice none 0 0, .slice none 0 0, .slice none 0 0, .slice none 0 0⟩ (twoPrg x) := by
  have hi0 : I64 0 := i64_small (by decide)
  exact ⟨⟨hi0, hi0, hi0, hi0⟩, row_own (l := [x, k2]) icL_len h (by show 2 ≤ maxLen; decide), ⟨[], row_nil _ _ _, rfl, fun i t d ht => by simp at ht⟩, row_nil _ _ _, ⟨row_nil _ _ _, row_nil _ _ _, row_nil _ _ _, fun k => by simp [twoPrg], fun k => u64_small (by simp [twoPrg]), fun k => u64_small (by simp [twoPrg])⟩, fun l hl => by simp [twoPrg] at hl⟩
end Go.Proofs.Ytkhggnlanopgkaa
