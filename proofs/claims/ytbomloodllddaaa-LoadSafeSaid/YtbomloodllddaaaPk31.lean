/- Walk: instructions are written as bytes (isa.Put). Conditions: a row of instructions. -/
import Derived.Test.YtbomloodllddaaaPk17
import Derived.Test.YtbomloodllddaaaPk20
import Derived.Test.YtbomloodllddaaaPk01
namespace Go.Proofs.Ytbomloodllddaaa
open Go.RowKit
theorem iter_apartI {b : Nat} {w w' : World} (h : Apart b w w') {k : Nat} {s : ByteArray} {pos : Nat} (hk : w.heap[k]? = some (.stringIter s pos)) (hb : k ≠ b) : w'.heap[k]? = some (.stringIter s pos) := by
  rw [h.2 k (Array.getElem?_eq_some_iff.1 hk).1 hb (fun cs' fz' e => by rw [hk] at e; simp at e)]
  exact hk
theorem Bld.iterI {w : World} {B g k : Nat} {l : List UInt8} {s : ByteArray} {pos : Nat} (h : Bld w B g l) (hk : w.heap[k]? = some (.stringIter s pos)) (pos' : Nat) : Bld (w.iterAt k s pos') B g l := by
  have hh : ∀ j o, w.heap[j]? = some o → (∀ (s : ByteArray) (p : Nat), o ≠ Obj.stringIter s p) → (w.iterAt k s pos').heap[j]? = some o := fun j o hj hn => by
    rw [Lib.iterAt_other w k j s pos' (fun e => by subst e; rw [hk] at hj; exact hn _ _ (Option.some.inj hj).symm)]; exact hj
  have one : ∀ p, Lib.BuilderAt 60 5 B g p (Lib.byteCells l) w → Lib.BuilderAt 60 5 B g p (Lib.byteCells l) (w.iterAt k s pos') := by
    rintro p ⟨h1, v, h2, h3, h4⟩
    refine ⟨h1, v, hh _ _ h2 (fun _ _ => by simp), ?_, h4⟩
    refine ⟨h3.1, ?_⟩
    rcases h3.2 with h3 | ⟨k', cap, cur, rfl, hk', hh', rest⟩
    · exact .inl h3
    · exact .inr ⟨k', cap, cur, rfl, hk', hh _ _ hh' (fun _ _ => by simp), rest⟩
  rcases h with h | h
  · exact .inl (one _ h)
  · exact .inr (one _ h)
/-- a Builder with its text, behind which nothing old turned -/
structure PS (B gb : Nat) (w0 : World) (t : List UInt8) (w : World) : Prop where
  bel : Below B w0 w
  bld : Bld w gb gb t
  hB : B ≤ gb
theorem PS.step {B gb : Nat} {w0 w w' : World} {t : List UInt8} (h : PS B gb w0 t w) (hb : Below w.heap.size w w') : PS B gb w0 t w' :=
  ⟨h.bel.trans (hb.mono (Nat.le_trans h.hB (Nat.le_of_lt h.bld.lt))), h.bld.keep hb (Nat.le_refl _), h.hB⟩
theorem PS.write {B gb : Nat} {w0 w : World} {t : List UInt8} (h : PS B gb w0 t w) (s : ByteArray) (hlen : t.length + s.size ≤ 140737488355328) :
    Calls Try.prog 24 #[.pointer (some ⟨gb, 0, none⟩), .string s] w fun e w' => e = .returned (.tuple #[.int .i64 s.size, .nilIface]) ∧ PS B gb w0 (t ++ s.data.toList) w' ∧ Apart gb w w' :=
  (bld_WriteString gb gb t s w h.bld hlen (Nat.le_of_lt h.bld.lt)).mono fun _ _ ⟨he, hb, hbl, ha⟩ => ⟨he, ⟨h.bel.trans (hbl.mono h.hB), hb, h.hB⟩, ha⟩
/-- the forms and a later instruction beside it -/
structure PF (B gb gf : Nat) (w0 : World) (t : List UInt8) (w : World) : Prop where
  ps : PS B gb w0 t w
  forms : w.heap[gf]? = some (.cells formsC 131 (0, 0))
  ne : gf ≠ gb
theorem keep_heap {w w' : World} {g : Nat} {o : Obj} (h : w.heap[g]? = some o) (hb : Below w.heap.size w w') : w'.heap[g]? = some o := by
  rw [hb.block g (Array.getElem?_eq_some_iff.1 h).1]; exact h
theorem PF.step {B gb gf : Nat} {w0 w w' : World} {t : List UInt8} (h : PF B gb gf w0 t w) (hb : Below w.heap.size w w') : PF B gb gf w0 t w' :=
  ⟨h.ps.step hb, keep_heap h.forms hb, h.ne⟩
structure PN (B gb gf gi : Nat) (w0 : World) (t : List UInt8) (x : Nat → Int) (w : World) : Prop where
  pf : PF B gb gf w0 t w
  ins : InsAt w gi x
  ne : gi ≠ gb
theorem PN.step {B gb gf gi : Nat} {w0 w w' : World} {t : List UInt8} {x : Nat → Int} (h : PN B gb gf gi w0 t x w) (hb : Below w.heap.size w w') : PN B gb gf gi w0 t x w' :=
  ⟨h.pf.step hb, h.ins.keep hb, h.ne⟩
theorem pn_write {B gb gf gi : Nat} {w0 w : World} {t : List UInt8} {x : Nat → Int} (h : PN B gb gf gi w0 t x w) (s : ByteArray) (hlen : t.length + s.size ≤ 140737488355328) :
    Calls Try.prog 24 #[.pointer (some ⟨gb, 0, none⟩), .string s] w fun e w' => e = .returned (.tuple #[.int .i64 s.size, .nilIface]) ∧ PN B gb gf gi w0 (t ++ s.data.toList) x w' ∧ Apart gb w w' :=
  (h.pf.ps.write s hlen).mono fun _ _ ⟨he, hp, ha⟩ => ⟨he, ⟨⟨hp, ha.row h.pf.forms (by decide) h.pf.ne, h.pf.ne⟩, ha.row h.ins (by decide) h.ne, h.ne⟩, ha⟩
theorem pn_calls_it {P : Program} {f : FuncId} {args : Array Value} {r : Value} {B gb gf gi : Nat} {w0 w : World} {t : List UInt8} {x : Nat → Int} {kk : Nat} {o : Obj} (h : PN B gb gf gi w0 t x w) (hk : w.heap[kk]? = some o) (hc : Calls P f args w fun e w' => e = .returned r ∧ Below w.heap.size w w') :
    Calls P f args w fun e w' => e = .returned r ∧ PN B gb gf gi w0 t x w' ∧ w'.heap[kk]? = some o := hc.mono fun _ _ ⟨he, hb⟩ => ⟨he, h.step hb, keep_heap hk hb⟩
theorem PN.iter {B gb gf gi : Nat} {w0 w : World} {t : List UInt8} {x : Nat → Int} (h : PN B gb gf gi w0 t x w) {kk k : Nat} {s : ByteArray} (hk : w.heap[kk]? = some (.stringIter s k)) (hB : B ≤ kk) (k' : Nat) : PN B gb gf gi w0 t x (w.iterAt kk s k') :=
  ⟨⟨⟨Lib.below_iterAt h.pf.ps.bel hB _ _, h.pf.ps.bld.iterI hk _, h.pf.ps.hB⟩, by
    rw [Lib.iterAt_other w kk gf s k' (fun e => by subst e; have := h.pf.forms; rw [hk] at this; cases this)]; exact h.pf.forms, h.pf.ne⟩, h.ins.iter hk _, h.ne⟩
theorem forms_cell {w : World} {g : Nat} (h : w.heap[g]? = some (.cells formsC 131 (0, 0))) (o : Nat) (h1 : 1 ≤ o) (h2 : o ≤ 17) : w.cell? ⟨g, o * 2 + 1, none⟩ = some (.string (bsT (letr o))) := by
  rw [cell_of_row w g _ _ _ _ h]
  rcases (by omega : o = 1 ∨ o = 2 ∨ o = 3 ∨ o = 4 ∨ o = 5 ∨ o = 6 ∨ o = 7 ∨ o = 8 ∨ o = 9 ∨ o = 10 ∨ o = 11 ∨ o = 12 ∨ o = 13 ∨ o = 14 ∨ o = 15 ∨ o = 16 ∨ o = 17) with rfl | rfl | rfl | rfl | rfl | rfl | rfl | rfl | rfl | rfl | rfl | rfl | rfl | rfl | rfl | rfl | rfl <;> rfl
/-- what Put tells -/
def putI (l : List (Nat → Int)) : List UInt8 × Int := if allI l = 0 then (putTo l l.length, 0) else ([], allI l)
theorem arrP_size (t : List UInt8) : (⟨t.toArray⟩ : ByteArray).size = t.length := by simp [ByteArray.size]
theorem arrP_list (t : List UInt8) : (⟨t.toArray⟩ : ByteArray).data.toList = t := rfl
set_option maxRecDepth 100000 in
set_option maxHeartbeats 4000000 in
theorem isa_Put (v : Value) (l : List (Nat → Int)) (w : World) (h : RowOf icL 5 w v l) :
    Calls Try.prog 23 #[v] w fun e w' => e = .returned (.tuple #[.string ⟨(putI l).1.toArray⟩, .int .i64 (putI l).2]) ∧ Below w.heap.size w w' := by
  have HA := Lib.hid (isa_right v l w h)
  have Hrow := Lib.hid h
  clear h
  obtain ⟨e1, he1⟩ : ∃ e, e = allI l := ⟨_, rfl⟩
  rw [← he1] at HA
  by_cases hz : e1 = 0
  · subst hz
    have hP : putI l = (putTo l l.length, 0) := by unfold putI; rw [if_pos he1.symm]
    obtain ⟨hn4, hall⟩ := allI_zero he1.symm
    rw [hP]
    clear hP he1
    have Hrow2 := Lib.hid (fun w' (hb : Below w.heap.size w w') => Hrow.out.keep hb)
    obtain ⟨a, cap, hv, hcap, hmx, hcell⟩ := Hrow.out.open icL_len
    have Hall := Lib.hid hall
    obtain ⟨n, hn⟩ : ∃ n, l.length = n := ⟨_, rfl⟩
    rw [hn] at hcap hcell hv hn4 ⊢
    have Hn := Lib.hid hn
    have Hn4 := Lib.hid hn4
    unfold maxLen at hmx
    subst hv
    have hku := u64_small (n := n) (by omega)
    have hkw : IntKind.u64.wrap (n : Int) = n := wu64 (by omega) hku
    have hvl := vput_len10 hku
    have hT0 : Hid (vput n = putTo l 0) := Lib.hid (by rw [putTo_zero, hn])
    have Hlen : Hid (∀ k, (putTo l k).length ≤ 163850) := Lib.hid fun k => putTo_len hall (by omega) k
    clear hn hn4 hall Hrow
    go_enter Try.func23, Try.ntmps23
    repeat' (first | go_values | go_skip | go_guarded | go_step | go_upon)
    refine Calls.mono (HA.out) ?_
    rintro _ w1 ⟨rfl, hb1⟩
    dsimp only
    have Hb1 := Lib.hid hb1
    have Hfr := Lib.hid (Bld.fresh w1)
    have hs1 := hb1.size
    clear hb1 HA
    repeat' (first | go_values | go_skip | go_guarded | go_step | go_upon)
    refine Calls.mono (wire_Put n _ hku) ?_
    rintro _ w2 ⟨rfl, hb2⟩
    dsimp only
    obtain ⟨gb, hgb⟩ : ∃ g, g = w1.heap.size := ⟨_, rfl⟩
    have HP2 : Hid (PS w.heap.size gb w [] w2) := Lib.hid ⟨(Hb1.out.alloc hs1 _).trans (hb2.mono (by simp; omega)), by rw [hgb]; exact Hfr.out.keep hb2 (Nat.le_refl _), by omega⟩
    rw [← hgb]
    clear Hfr hb2 Hb1 hgb hs1 w1
    repeat' (first | go_values | go_skip | go_guarded | go_step | go_upon)
    refine Calls.mono (HP2.out.write _ (by rw [arrP_size]; simp; omega)) ?_
    rintro _ w3 ⟨rfl, hP3, _⟩
    dsimp only
    rw [arrP_list, List.nil_append, hT0.out] at hP3
    have HP3 := Lib.hid hP3
    clear hP3 HP2
    repeat' (first | go_values | go_skip | go_guarded | go_step | go_upon)
    refine Calls.mono (isa_forms _) ?_
    rintro _ w4 ⟨rfl, hb4⟩
    dsimp only
    repeat' (first | (with_reducible refine store_forms _ _ rfl rfl rfl ?_) | go_values | go_skip | go_guarded | go_step | go_upon)
    have HP4 := Lib.hid (HP3.out.step hb4)
    obtain ⟨gf, hgf⟩ : ∃ g, g = w4.heap.size := ⟨_, rfl⟩
    obtain ⟨ws, hws⟩ : ∃ ws, ws = (w4.alloc (.cells zeroF 131)).setRow w4.heap.size formsC := ⟨_, rfl⟩
    have HF : Hid (PF w.heap.size gb gf w (putTo l 0) ws) := Lib.hid ⟨HP4.out.step (by rw [hws]; exact Below.row ((Below.refl _ _).alloc (Nat.le_refl _) _) (Nat.le_refl _) _), by rw [hws, hgf]; exact setRow_heap _ _ _ _ _ _ (Go.heap_alloc_new _ _), by have := HP4.out.bld.lt; omega⟩
    rw [← hws, ← hgf]
    clear hws hgf hb4 HP3 HP4 hkw hku hvl hT0
    go_loopw [27] (fun s27 wr => ∃ k : Nat, s27 = .int .i64 k ∧ k ≤ n ∧ Hid (PF w.heap.size gb gf w (putTo l k) wr)) (fun s27 _ => n - (intOf s27).toNat)
    case atStart => exact ⟨0, rfl, Nat.zero_le _, HF⟩
    case round =>
      clear HF
      obtain ⟨k, rfl, hk, H⟩ := hrel
      by_cases hlt : k < n
      · rcases hcell with h0 | ⟨b, off, rfl, hbB, hcell⟩
        · omega
        obtain ⟨c0, c1, c2, c3, c4⟩ := Row5p.cells hcell k (by rw [Hn.out]; exact hlt)
        have hok := all_at Hall.out (k := k) (by rw [Hn.out]; exact hlt)
        have Hsc := Lib.hid (putTo_succ l k (by rw [Hn.out]; exact hlt))
        clear hcell
        rw [← H.out.ps.bel.cell (show b < w.heap.size from hbB)] at c0 c1 c2 c3 c4
        generalize l.getD k (fun _ => 0) = x at c0 c1 c2 c3 c4 hok Hsc
        obtain ⟨o, ho⟩ : ∃ o : Nat, x 0 = (o : Int) := ⟨(x 0).toNat, by have := okI_op hok; omega⟩
        have ho1 : 1 ≤ o ∧ o ≤ 17 := by have := okI_op hok; omega
        have Hin : Hid (∀ y ∈ letr o, 0 ≤ x (pos y) ∧ x (pos y) ≤ (mst y : Int)) := Lib.hid fun y hy => okI_in hok (by rw [ho]; exact hy)
        have Hxb : Hid (insB x = vput o ++ (letr o).flatMap fun y => vput (x (pos y)).toNat) := Lib.hid (by unfold insB; rw [ho]; rfl)
        have e0 : ic x = #[.int .i64 (o : Int), .int .i64 (x 1), .int .i64 (x 2), .int .i64 (x 3), .int .i64 (x 4)] := by unfold ic; rw [ho]
        rw [ho] at c0
        clear ho hok
        have hou := u64_small (n := o) (by omega)
        have hbx : Below wr.heap.size wr (wr.alloc (.cells #[.int .i64 (o : Int), .int .i64 (x 1), .int .i64 (x 2), .int .i64 (x 3), .int .i64 (x 4)] 118)) := (Below.refl _ _).alloc (Nat.le_refl _) _
        have hvo := vput_len10 hou
        repeat' (first | go_values | go_skip | go_guarded | go_step | go_upon)
        refine Calls.mono (wire_Put o _ hou) ?_
        rintro _ w5 ⟨rfl, hb5⟩
        dsimp only
        obtain ⟨gi, hgi⟩ : ∃ g, g = wr.heap.size := ⟨_, rfl⟩
        have HN5 : Hid (PN w.heap.size gb gf gi w (putTo l k) x w5) := Lib.hid (PN.step (w := wr.alloc (.cells #[.int .i64 (o : Int), .int .i64 (x 1), .int .i64 (x 2), .int .i64 (x 3), .int .i64 (x 4)] 118)) ⟨H.out.step hbx, by rw [hgi, ← e0]; exact InsAt.new wr x, by have := H.out.ps.bld.lt; omega⟩ hb5)
        rw [← hgi]
        have hgB : w.heap.size ≤ gi := by rw [hgi]; exact H.out.ps.bel.size
        clear hgi hb5 hbx H c0 c1 c2 c3 c4
        repeat' (first | go_values | go_skip | go_guarded | go_step | go_upon)
        refine Calls.mono (pn_write HN5.out _ (by rw [arrP_size]; have := Hlen.out k; omega)) ?_
        rintro _ w6 ⟨rfl, hN6, _⟩
        dsimp only
        rw [arrP_list] at hN6
        have c6 : w6.cell? ⟨gi, 0, none⟩ = some (.int .i64 (o : Int)) := by
          have := hN6.ins
          unfold InsAt at this
          rw [e0] at this
          rw [cell_of_row w6 gi 0 _ _ _ this]; rfl
        have hf6 := forms_cell hN6.pf.forms o ho1.1 ho1.2
        have HN6 := Lib.hid hN6
        clear hN6 HN5
        repeat' (first | go_values | go_skip | go_guarded | go_step | go_upon)
        obtain ⟨kk, hkk⟩ : ∃ g, g = w6.heap.size := ⟨_, rfl⟩
        obtain ⟨wq, hwq⟩ : ∃ wq, wq = w6.iter (bsT (letr o)) 0 := ⟨_, rfl⟩
        have Hit : Hid (wq.heap[kk]? = some (Obj.stringIter (bsT (letr o)) 0)) := Lib.hid (by rw [hwq, hkk]; exact World.iter_heap _ _ _)
        have HQ : Hid (PN w.heap.size gb gf gi w (putTo l k ++ vput o) x wq) := Lib.hid (HN6.out.step (by rw [hwq]; exact (Below.refl _ _).alloc (Nat.le_refl _) _))
        have hkb : kk ≠ gb := by have := HN6.out.pf.ps.bld.lt; omega
        have hkB : w.heap.size ≤ kk := by have := HN6.out.pf.ps.bel.size; omega
        rw [← hwq, ← hkk]
        have Hlet := Lib.hid (letr_is o)
        have hl3 := letr_len o
        clear hwq hkk HN6 c6 hf6 e0 hou ho1
        generalize letr o = lt at Hlet Hit Hin Hxb hl3 ⊢
        obtain ⟨T0, hT0⟩ : ∃ T0, T0 = putTo l k ++ vput o := ⟨_, rfl⟩
        have HT1 : Hid (putTo l (k + 1) = T0 ++ lt.flatMap fun y => vput (x (pos y)).toNat) := Lib.hid (by rw [Hsc.out, Hxb.out, hT0, List.append_assoc])
        have HTl : Hid (T0.length ≤ 163860) := Lib.hid (by rw [hT0, List.length_append]; have := Hlen.out k; omega)
        rw [← hT0] at HQ
        clear hT0 Hsc Hxb hvo
        go_loopw [10] (fun _ wi => ∃ j : Nat, wi.heap[kk]? = some (Obj.stringIter (bsT lt) j) ∧ j ≤ lt.length ∧ Hid (PN w.heap.size gb gf gi w (T0 ++ (lt.take j).flatMap fun y => vput (x (pos y)).toNat) x wi)) (fun _ wi => lt.length - wi.iterPos kk)
        case atStart => exact ⟨0, Hit.out, Nat.zero_le _, Lib.hid (by simpa using HQ.out)⟩
        case round =>
          clear Hit HQ
          obtain ⟨j, hj0, hjl, G⟩ := hrel
          by_cases hjs : j < lt.length
          · have hjb : j < (bsT lt).size := by rw [bsT_size]; exact hjs
            obtain ⟨y, hy⟩ : ∃ y, y = lt[j] := ⟨_, rfl⟩
            have hyl : y ∈ lt := by rw [hy]; exact List.getElem_mem hjs
            have hyi := Hlet.out y hyl
            have hy8 : ((bsT lt)[j]'hjb).toNat = y := by rw [bsT_get lt j hjb hjs fun z hz => by have := Hlet.out z hz; unfold IsL at this; omega, hy]
            have hnx : ∀ ty, (Instr.next (.pointer (some ⟨kk, 0, none⟩)) true ty).run Try.prog wr = _ := fun ty => Lib.run_next_ascii_at wr kk (bsT lt) j ty hj0 hjb (by rw [hy8]; unfold IsL at hyi; omega)
            rw [hy8] at hnx
            have htk : lt.take (j + 1) = lt.take j ++ [y] := by rw [List.take_succ_eq_append_getElem hjs, hy]
            obtain ⟨wi, hwi⟩ : ∃ wi, wi = wr.iterAt kk (bsT lt) (j + 1) := ⟨_, rfl⟩
            have Hwk : Hid (wi.heap[kk]? = some (Obj.stringIter (bsT lt) (j + 1))) := Lib.hid (by rw [hwi]; exact Lib.iterAt_heap _ _ _ _ _ hj0)
            have K : Hid (PN w.heap.size gb gf gi w (T0 ++ (lt.take j).flatMap fun y => vput (x (pos y)).toNat) x wi) := Lib.hid (by rw [hwi]; exact G.out.iter hj0 hkB _)
            rw [← hwi] at hnx
            have hp0 : wr.iterPos kk = j := iterPos_of hj0
            have HFd := Lib.hid (isa_field y hyi gi)
            obtain ⟨hz0, hz1⟩ := Hin.out y hyl
            have hz2 := mst_le y
            have Htn : Hid ((lt.take (j + 1)).flatMap (fun y => vput (x (pos y)).toNat) = (lt.take j).flatMap (fun y => vput (x (pos y)).toNat) ++ vput (x (pos y)).toNat) := Lib.hid (by rw [htk, List.flatMap_append]; simp)
            have hfl : ((lt.take j).flatMap fun y => vput (x (pos y)).toNat).length ≤ 10 * 3 := by
              have h1 := flatMap_len (fun y => vput (x (pos y)).toNat) 10 (lt.take j) fun z hz => vput_len10 (u64_small (by
                have h2 := Hin.out z (List.mem_of_mem_take hz)
                have h3 := mst_le z
                omega))
              have h4 : (lt.take j).length ≤ 3 := by rw [List.length_take]; omega
              omega
            obtain ⟨F1, hF1⟩ : ∃ F, F = (lt.take (j + 1)).flatMap (fun y => vput (x (pos y)).toNat) := ⟨_, rfl⟩
            rw [← hF1] at Htn
            have HF1 := Lib.hid hF1
            clear hF1
            generalize (lt.take j).flatMap (fun y => vput (x (pos y)).toNat) = F0 at Htn hfl K
            obtain ⟨ps, hps⟩ : ∃ ps, ps = pos y := ⟨_, rfl⟩
            have hp1 : ps < 5 := by have := pos_ge y; omega
            rw [← hps] at HFd Htn hz0 hz1
            have hcell := K.out.ins.cell ps hp1
            obtain ⟨c, hc⟩ : ∃ c : Nat, x ps = (c : Int) := ⟨(x ps).toNat, by omega⟩
            rw [hc] at hcell Htn hz1
            rw [Int.toNat_natCast] at Htn
            have hcu := u64_small (n := c) (by omega)
            have hcw : IntKind.u64.wrap (c : Int) = c := wu64 (by omega) hcu
            have hvc := vput_len10 hcu
            generalize mst y = m at HFd
            clear hwi htk hps hc hy hyl hy8 hjb hj0 G hz0 hz1 hz2
            repeat' (first | go_values | go_skip | go_guarded | go_step | go_upon)
            refine Calls.mono (HFd.out _) ?_
            rintro _ w7 ⟨rfl, rfl⟩
            dsimp only
            repeat' (first | go_values | go_skip | go_guarded | go_step | go_upon)
            refine Calls.mono (pn_calls_it K.out Hwk.out (wire_Put c _ hcu)) ?_
            rintro _ w8 ⟨rfl, hN8, hit8⟩
            dsimp only
            have HN8 := Lib.hid hN8
            clear hN8
            repeat' (first | go_values | go_skip | go_guarded | go_step | go_upon)
            refine Calls.mono (pn_write HN8.out _ (by rw [arrP_size, List.length_append]; have := HTl.out; omega)) ?_
            rintro _ w9 ⟨rfl, hN9, ha9⟩
            dsimp only
            rw [arrP_list, List.append_assoc, ← Htn.out] at hN9
            have hit9 := iter_apartI ha9 hit8 hkb
            have HN9 := Lib.hid hN9
            clear hN9 ha9
            repeat' (first | go_values | go_skip | go_guarded | go_step | go_upon)
            go_roundw
            case rel => exact ⟨j + 1, hit9, hjs, Lib.hid (by rw [← HF1.out]; exact HN9.out)⟩
            case measure => rw [iterPos_of hit9, hp0]; omega
          · obtain rfl : j = lt.length := by omega
            rw [List.take_length] at G
            have hnx : ∀ ty, (Instr.next (.pointer (some ⟨kk, 0, none⟩)) true ty).run Try.prog wr = _ := fun ty => Lib.run_next_end_at wr kk (bsT lt) lt.length ty hj0 (by rw [bsT_size]; omega)
            repeat' (first | go_values | go_skip | go_guarded | go_step | go_upon)
            go_roundw
            case rel => exact ⟨k + 1, by go_num, hlt, Lib.hid (by rw [HT1.out]; exact G.out.pf)⟩
            case measure => simp [intOf]; omega
      · obtain rfl : k = n := by omega
        have HS := Lib.hid (bld_String gb gb (putTo l k) wr H.out.ps.bld (Nat.le_of_lt H.out.ps.bld.lt))
        repeat' (first | go_values | go_skip | go_guarded | go_step | go_upon)
        refine Calls.mono (HS.out) ?_
        rintro _ w5 ⟨rfl, hb5⟩
        dsimp only
        repeat' (first | go_values | go_skip | go_guarded | go_step | go_upon)
        go_ret2
        exact ⟨rfl, H.out.ps.bel.trans (hb5.mono H.out.ps.hB)⟩
  · have hP : putI l = ([], e1) := by unfold putI; rw [if_neg (by rw [← he1]; exact hz), he1]
    rw [hP]
    have hne : (e1 != 0) = true := by simpa using hz
    clear hP he1 hz
    go_enter Try.func23, Try.ntmps23
    repeat' (first | go_values | go_skip | go_guarded | go_step | go_upon)
    refine Calls.mono (HA.out) ?_
    rintro _ w1 ⟨rfl, hb1⟩
    dsimp only
    repeat' (first | go_values | go_skip | go_guarded | go_step | go_upon)
    go_ret2
    exact ⟨rfl, hb1⟩
end Go.Proofs.Ytbomloodllddaaa
