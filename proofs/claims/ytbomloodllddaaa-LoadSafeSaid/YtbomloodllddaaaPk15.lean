/- Walks: which operations there are, their words and fields, where a field stands (isa.known, isa.forms, isa.field). No conditions. -/
import Derived.Test.YtbomloodllddaaaPk08
import Derived.Test.YtbomloodllddaaaPk05
import Derived.Test.YtbomloodllddaaaProg
import Derived.Deep.WholeRow
import Derived.Laws.StructEq
import Derived.Lib.OthersKept
import Derived.WalkSmall
import Derived.Test.YtbomloodllddaaaPk01
import Derived.Test.YtbomloodllddaaaPk00
namespace Go.Proofs.Ytbomloodllddaaa
open Go.RowKit
theorem Below.row {B g : Nat} {w0 w : World} (hb : Below B w0 w) (hBg : B ≤ g) (cs : Array Value) : Below B w0 (w.setRow g cs) :=
  hb.trans ⟨rfl, rfl, rfl, by simp, fun k hk => setRow_other _ _ _ _ (by omega)⟩
theorem isa_known (a : Int) (w : World) : Calls Try.prog 109 #[.int .i64 a] w fun e w' => e = .returned (.bool (decide (1 ≤ a) && decide (a ≤ 17))) ∧ w = w' := by
  by_cases h1 : 1 ≤ a
  · by_cases h2 : a ≤ 17
    · go_enter Try.func109, Try.ntmps109
      repeat' (first | go_values | go_skip | go_guarded | go_step | go_upon)
      go_ret
      exact ⟨ret_b (by simp [h1, h2]), rfl⟩
    · go_enter Try.func109, Try.ntmps109
      repeat' (first | go_values | go_skip | go_guarded | go_step | go_upon)
      go_ret
      exact ⟨ret_b (by simp [h1, h2]), rfl⟩
  · go_enter Try.func109, Try.ntmps109
    repeat' (first | go_values | go_skip | go_guarded | go_step | go_upon)
    go_ret
    exact ⟨ret_b (by simp [h1]), rfl⟩
set_option maxRecDepth 100000 in
theorem isa_field (x : Nat) (hx : IsL x) (g : Nat) (w : World) : Calls Try.prog 64 #[.pointer (some ⟨g, 0, none⟩), .int .i32 (x : Int)] w fun e w' =>
    e = .returned (.tuple #[.pointer (some ⟨g, pos x, none⟩), .int .i64 (mst x : Nat), .string (bsT (sgn x))]) ∧ w = w' := by
  rcases hx with rfl | rfl | rfl | rfl | rfl | rfl
  all_goals
    go_enter Try.func64, Try.ntmps64
    repeat' (first | go_values | go_skip | go_guarded | go_step | go_upon)
    go_ret3
    exact ⟨rfl, rfl⟩
theorem info_forms : (Try.prog.info? 131).map (fun i => i.size) = some 36 := by kernel_rfl
/-- what isa.forms hands back -/
def formsC : Array Value := #[.string ⟨#[]⟩, .string ⟨#[]⟩, .string ⟨#[104, 97, 108, 116]⟩, .string ⟨#[]⟩, .string ⟨#[108, 111, 97, 100]⟩, .string ⟨#[114, 110]⟩, .string ⟨#[109, 111, 118, 101]⟩, .string ⟨#[114, 82]⟩, .string ⟨#[106, 117, 109, 112]⟩, .string ⟨#[64]⟩, .string ⟨#[115, 97, 109, 101]⟩, .string ⟨#[114, 110, 64]⟩, .string ⟨#[108, 101, 115, 115]⟩, .string ⟨#[114, 110, 64]⟩, .string ⟨#[110, 101, 120, 116]⟩, .string ⟨#[114, 64]⟩, .string ⟨#[108, 111, 111, 107]⟩, .string ⟨#[114, 82, 116]⟩, .string ⟨#[109, 97, 114, 107]⟩, .string ⟨#[109]⟩, .string ⟨#[98, 97, 99, 107]⟩, .string ⟨#[109]⟩, .string ⟨#[104, 101, 114, 101]⟩, .string ⟨#[109, 64]⟩, .string ⟨#[99, 111, 112, 121]⟩, .string ⟨#[114]⟩, .string ⟨#[116, 101, 120, 116]⟩, .string ⟨#[114, 82]⟩, .string ⟨#[116, 117, 114, 110]⟩, .string ⟨#[]⟩, .string ⟨#[115, 105, 103, 110]⟩, .string ⟨#[114]⟩, .string ⟨#[106, 111, 105, 110]⟩, .string ⟨#[]⟩, .string ⟨#[101, 109, 105, 116]⟩, .string ⟨#[114]⟩]
theorem forms_at (o : Nat) (h1 : 1 ≤ o) (h2 : o ≤ 17) (w : World) : (Instr.index 131 (.agg formsC) (.int .i64 (o : Int))).run Try.prog w = .ok (.agg #[.string (bsT (wrd o)), .string (bsT (letr o))]) w := by
  rcases (by omega : o = 1 ∨ o = 2 ∨ o = 3 ∨ o = 4 ∨ o = 5 ∨ o = 6 ∨ o = 7 ∨ o = 8 ∨ o = 9 ∨ o = 10 ∨ o = 11 ∨ o = 12 ∨ o = 13 ∨ o = 14 ∨ o = 15 ∨ o = 16 ∨ o = 17) with rfl | rfl | rfl | rfl | rfl | rfl | rfl | rfl | rfl | rfl | rfl | rfl | rfl | rfl | rfl | rfl | rfl
  all_goals kernel_rfl
theorem field_form (a b : ByteArray) (w : World) : (Instr.field 130 (.agg #[.string a, .string b]) 1).run Try.prog w = .ok (.string b) w := by kernel_rfl
abbrev zeroF : Array Value := #[.string ⟨#[]⟩, .string ⟨#[]⟩, .string ⟨#[]⟩, .string ⟨#[]⟩, .string ⟨#[]⟩, .string ⟨#[]⟩, .string ⟨#[]⟩, .string ⟨#[]⟩, .string ⟨#[]⟩, .string ⟨#[]⟩, .string ⟨#[]⟩, .string ⟨#[]⟩, .string ⟨#[]⟩, .string ⟨#[]⟩, .string ⟨#[]⟩, .string ⟨#[]⟩, .string ⟨#[]⟩, .string ⟨#[]⟩, .string ⟨#[]⟩, .string ⟨#[]⟩, .string ⟨#[]⟩, .string ⟨#[]⟩, .string ⟨#[]⟩, .string ⟨#[]⟩, .string ⟨#[]⟩, .string ⟨#[]⟩, .string ⟨#[]⟩, .string ⟨#[]⟩, .string ⟨#[]⟩, .string ⟨#[]⟩, .string ⟨#[]⟩, .string ⟨#[]⟩, .string ⟨#[]⟩, .string ⟨#[]⟩, .string ⟨#[]⟩, .string ⟨#[]⟩]
theorem forms_one : formsC.all (·.oneCell') = true := by kernel_rfl
theorem store_forms {o : Oper} {a : Act} {w : World} {K : Act → World → Prop} {Q : Exit → Act → World → Prop} (x y : Operand) (ho : o.op = .store 131 x y)
    (hx : a.eval x = .pointer (some ⟨w.heap.size, 0, none⟩)) (hy : a.eval y = .agg formsC) (h : K (a.put o.dst undef) ((w.alloc (.cells zeroF 131)).setRow w.heap.size formsC)) : o.wp Try.prog a (w.alloc (.cells zeroF 131)) K Q :=
  wp_store_row _ x y ho w.heap.size formsC hx hy 131 zeroF (Go.heap_alloc_new _ _) info_forms rfl forms_one h
set_option maxRecDepth 100000 in
set_option maxHeartbeats 1000000 in
theorem isa_forms (w : World) : Calls Try.prog 63 #[] w fun e w' => e = .returned (.agg formsC) ∧ Below w.heap.size w w' := by
  go_enter Try.func63, Try.ntmps63
  repeat' (first | (refine store_forms _ _ rfl rfl rfl ?_) | go_values | go_skip | go_guarded | go_step | go_upon)
  refine bodyPost_ret (v := .agg formsC) (results_cell_row rfl _ _ w.heap.size 131 formsC (0, 0) _ rfl (setRow_heap _ _ _ _ _ _ (Go.heap_alloc_new _ _)) Try.underlying131 rfl info_forms) rfl ⟨rfl, ?_⟩
  exact Below.row ((Below.refl _ _).alloc (Nat.le_refl _) _) (Nat.le_refl _) _
end Go.Proofs.Ytbomloodllddaaa
/- Walk: whether an instruction may be (isa.Right). No conditions. -/
namespace Go.Proofs.Ytbomloodllddaaa
open Go.RowKit
/-- a variable of the call's own that holds an instruction -/
def InsAt (w : World) (g : Nat) (v : Nat → Int) : Prop := w.heap[g]? = some (.cells (ic v) 118 (0, 0))
theorem InsAt.lt {w : World} {g : Nat} {v : Nat → Int} (h : InsAt w g v) : g < w.heap.size := (Array.getElem?_eq_some_iff.1 h).1
theorem InsAt.keep {w w' : World} {g : Nat} {v : Nat → Int} (h : InsAt w g v) (hb : Below w.heap.size w w') : InsAt w' g v := by
  unfold InsAt; rw [hb.block g h.lt]; exact h
theorem InsAt.keepB {w w' : World} {g B : Nat} {v : Nat → Int} (h : InsAt w g v) (hb : Below B w w') (hg : g < B) : InsAt w' g v := by
  unfold InsAt; rw [hb.block g hg]; exact h
theorem InsAt.cell {w : World} {g : Nat} {v : Nat → Int} (h : InsAt w g v) (k : Nat) (hk : k < 5) : w.cell? ⟨g, k, none⟩ = some (.int .i64 (v k)) := by
  rw [cell_of_row w g k _ _ _ h]
  rcases (by omega : k = 0 ∨ k = 1 ∨ k = 2 ∨ k = 3 ∨ k = 4) with rfl | rfl | rfl | rfl | rfl <;> rfl
theorem InsAt.free {w : World} {g : Nat} {v : Nat → Int} (h : InsAt w g v) (k : Nat) : w.frozen? ⟨g, k, none⟩ = false := frozen_of_row _ _ _ _ _ h
theorem InsAt.other {w : World} {g g' k : Nat} {v : Nat → Int} {x : Value} (h : InsAt w g v) (hg : g ≠ g') : InsAt (w.setCell ⟨g', k, none⟩ x) g v := by
  unfold InsAt; rw [heap_setCell_other _ _ _ _ (by dsimp only; omega)]; exact h
theorem InsAt.put {w : World} {g : Nat} {v u : Nat → Int} (h : InsAt w g v) (k : Nat) (x : Int) (hk : k < 5) (hu : ∀ j, j < 5 → u j = if j = k then x else v j) : InsAt (w.setCell ⟨g, k, none⟩ (.int .i64 x)) g u := by
  rw [setCell_eq_setRow w g k _ _ _ (.int .i64 x) h]
  unfold InsAt
  rw [setRow_heap _ _ _ _ _ _ h]
  have e : (ic v).setIfInBounds k (.int .i64 x) = ic u := by
    unfold ic
    rw [hu 0 (by omega), hu 1 (by omega), hu 2 (by omega), hu 3 (by omega), hu 4 (by omega)]
    rcases (by omega : k = 0 ∨ k = 1 ∨ k = 2 ∨ k = 3 ∨ k = 4) with rfl | rfl | rfl | rfl | rfl <;> simp
  rw [e]
theorem InsAt.iter {w : World} {g kk k : Nat} {v : Nat → Int} {s : ByteArray} (h : InsAt w g v) (hk : w.heap[kk]? = some (.stringIter s k)) (k' : Nat) : InsAt (w.iterAt kk s k') g v := by
  unfold InsAt
  rw [Lib.iterAt_other w kk g s k' (fun e => by subst e; unfold InsAt at h; rw [hk] at h; cases h)]; exact h
theorem InsAt.new (w : World) (v : Nat → Int) : InsAt (w.alloc (.cells (ic v) 118)) w.heap.size v := Go.heap_alloc_new _ _
theorem info_ins : (Try.prog.info? 118).map (fun i => i.size) = some 5 := by kernel_rfl
theorem load_ins {o : Oper} {a : Act} {w : World} {K : Act → World → Prop} {Q : Exit → Act → World → Prop} {g : Nat} {v : Nat → Int} (hs : InsAt w g v) (x : Operand) (ho : o.op = .load 118 x)
    (hx : a.eval x = .pointer (some ⟨g, 0, none⟩)) (h : K (a.put o.dst (vI v)) w) : o.wp Try.prog a w K Q :=
  wp_load_row _ x ho g hx 118 (ic v) (0, 0) _ hs Try.underlying118 rfl info_ins h
theorem ins_one (v : Nat → Int) : (ic v).all (·.oneCell') = true := by simp [Value.oneCell']
theorem InsAt.row {w : World} {g : Nat} {v u : Nat → Int} (h : InsAt w g v) : InsAt (w.setRow g (ic u)) g u := setRow_heap _ _ _ _ _ _ h
theorem InsAt.rowOther {w : World} {g g' : Nat} {v u : Nat → Int} (h : InsAt w g v) (hg : g ≠ g') : InsAt (w.setRow g' (ic u)) g v := by
  unfold InsAt; rw [setRow_other _ _ _ _ hg]; exact h
/-- the two instructions, compared -/
def sameI (u v : Nat → Int) : Bool := u 0 == v 0 && (u 1 == v 1 && (u 2 == v 2 && (u 3 == v 3 && u 4 == v 4)))
set_option maxRecDepth 100000 in
set_option maxHeartbeats 1000000 in
theorem isa_Right (v : Nat → Int) (w : World) :
    Calls Try.prog 92 #[vI v] w fun e w' => e = .returned (.bool (okI v)) ∧ Below w.heap.size w w' := by
  have HK := Lib.hid fun w => isa_known (v 0) w
  by_cases hk : 1 ≤ v 0 ∧ v 0 ≤ 17
  · obtain ⟨o, ho⟩ : ∃ o : Nat, v 0 = (o : Int) := ⟨(v 0).toNat, by omega⟩
    have hidx : ∀ w : World, (Instr.index 131 (.agg formsC) (.int .i64 (v 0))).run Try.prog w = .ok (.agg #[.string (bsT (wrd o)), .string (bsT (letr o))]) w := by rw [ho]; exact fun w => forms_at o (by omega) (by omega) w
    have hfld := fun w => field_form (bsT (wrd o)) (bsT (letr o)) w
    have hkn : (decide (1 ≤ v 0) && decide (v 0 ≤ 17)) = true := by simp [hk]
    have Ho := Lib.hid ho
    clear ho
    rw [hkn] at HK
    go_enter Try.func92, Try.ntmps92
    repeat' (first | go_values | go_skip | go_guarded | go_step | go_upon)
    refine Calls.mono (HK.out _) ?_
    rintro _ w1 ⟨rfl, rfl⟩
    dsimp only
    repeat' (first | go_values | go_skip | go_guarded | go_step | go_upon)
    obtain ⟨wr, hwr⟩ : ∃ wr, wr = (w.alloc (.cells (ic v) 118)).alloc (.cells (ic (bar v [])) 118) := ⟨_, rfl⟩
    have e0 : ic (bar v []) = #[.int .i64 (v 0), .int .i64 0, .int .i64 0, .int .i64 0, .int .i64 0] := by unfold ic; rw [bar_nil0, bar_nil v (by decide), bar_nil v (by decide), bar_nil v (by decide), bar_nil v (by decide)]
    have H0 : Hid (InsAt wr w.heap.size v) := Lib.hid (by rw [hwr]; exact (InsAt.new w v).keep ((Below.refl _ _).alloc (Nat.le_refl _) _))
    have H1 : Hid (InsAt wr (w.heap.size + 1) (bar v [])) := Lib.hid (by rw [hwr]; have := InsAt.new (w.alloc (.cells (ic v) 118)) (bar v []); rwa [World.size_alloc] at this)
    have Hb : Hid (Below w.heap.size w wr) := Lib.hid (by rw [hwr]; exact ((Below.refl _ _).alloc (Nat.le_refl _) _).alloc (by simp) _)
    have hsz : wr.heap.size = w.heap.size + 2 := by rw [hwr]; simp
    rw [e0] at hwr
    rw [← hwr]
    clear hwr e0
    have q0 : ∀ nq : WB wr, ∀ k, k < 5 → nq.1.cell? ⟨w.heap.size, k, none⟩ = some (.int .i64 (v k)) := fun nq => (H0.out.keep nq.2).cell
    refine wp_region_tail 5 (by kernel_rfl) (by kernel_rfl) wr (Below.refl _ _) ?_
    simp only [List.take_succ_cons, List.take_zero, List.drop_succ_cons, List.drop_zero]
    repeat (go_big_quiet_step ((go_at_call 63; exact calls_wb (isa_forms _))))
    refine wpQuiet_nil ?_
    rintro _ ⟨nq, rfl⟩
    have hnq := nq.2
    clear q0
    clear hidx hfld
    obtain ⟨wf, hwf⟩ : ∃ wf, wf = nq.1 := ⟨_, rfl⟩
    have H0f : Hid (InsAt wf w.heap.size v) := Lib.hid (by rw [hwf]; exact H0.out.keep hnq)
    have H1f : Hid (InsAt wf (w.heap.size + 1) (bar v [])) := Lib.hid (by rw [hwf]; exact H1.out.keep hnq)
    have Hbf : Hid (Below w.heap.size w wf) := Lib.hid (by rw [hwf]; exact Hb.out.trans (hnq.mono Hb.out.size))
    have hszf : w.heap.size + 2 ≤ wf.heap.size := by have := hnq.size; rw [hwf]; omega
    rw [← hwf]
    clear hwf hnq H0 H1 Hb hsz nq wr
    repeat' (first | go_values | go_skip | go_guarded | go_step | go_upon)
    obtain ⟨kk, hkk⟩ : ∃ kk, kk = wf.heap.size := ⟨_, rfl⟩
    have Hit : Hid ((wf.iter (bsT (letr o)) 0).heap[kk]? = some (Obj.stringIter (bsT (letr o)) 0)) := Lib.hid (by rw [hkk]; exact World.iter_heap _ _ _)
    have Hib : Hid (Below wf.heap.size wf (wf.iter (bsT (letr o)) 0)) := Lib.hid ((Below.refl _ _).alloc (Nat.le_refl _) _)
    rw [← hkk]
    have hkg : w.heap.size + 2 ≤ kk := by omega
    clear hkk
    have hlet := Lib.hid (letr_is o)
    have HokF : Hid (∀ x ∈ letr o, inb v x = false → okI v = false) := Lib.hid fun x hx hi => by
      unfold okI
      have e : (letr (v 0).toNat).all (inb v) = false := by
        rw [Ho.out, Int.toNat_natCast, List.all_eq_false]; exact ⟨x, hx, by rw [hi]; decide⟩
      rw [e]; simp
    have HokT : Hid ((letr o).all (inb v) = true → okI v = sameI (bar v (letr o)) v) := Lib.hid fun h => by
      unfold okI sameI
      rw [hkn, Ho.out, Int.toNat_natCast, h]
      simp [bar, Ho.out]
    generalize letr o = l at *
    go_loopw [5] (fun _ wr => ∃ k : Nat, wr.heap[kk]? = some (Obj.stringIter (bsT l) k) ∧ k ≤ l.length ∧ Hid (InsAt wr w.heap.size v) ∧ Hid (InsAt wr (w.heap.size + 1) (bar v (l.take k))) ∧ Hid ((l.take k).all (inb v) = true) ∧ Hid (Below w.heap.size w wr)) (fun _ wr => l.length - wr.iterPos kk)
    case atStart =>
      exact ⟨0, Hit.out, Nat.zero_le _, Lib.hid (H0f.out.keep Hib.out), Lib.hid (H1f.out.keep Hib.out), Lib.hid rfl, Lib.hid (Hbf.out.trans (Hib.out.mono (by omega)))⟩
    case round =>
      obtain ⟨k, hk0, hkl, G0, G1, Hall, Gb⟩ := hrel
      by_cases hks : k < l.length
      · have hkb : k < (bsT l).size := by rw [bsT_size]; exact hks
        obtain ⟨x, hx⟩ : ∃ x, x = l[k] := ⟨_, rfl⟩
        have hxl : x ∈ l := by rw [hx]; exact List.getElem_mem hks
        have hxi := hlet.out x hxl
        have hx8 : ((bsT l)[k]'hkb).toNat = x := by rw [bsT_get l k hkb hks fun y hy => by have := hlet.out y hy; unfold IsL at this; omega, hx]
        have hnx : ∀ ty, (Instr.next (.pointer (some ⟨kk, 0, none⟩)) true ty).run Try.prog wr = _ := fun ty => Lib.run_next_ascii_at wr kk (bsT l) k ty hk0 hkb (by rw [hx8]; unfold IsL at hxi; omega)
        rw [hx8] at hnx
        have htk : l.take (k + 1) = l.take k ++ [x] := by rw [List.take_succ_eq_append_getElem hks, hx]
        obtain ⟨wi, hwi⟩ : ∃ wi, wi = wr.iterAt kk (bsT l) (k + 1) := ⟨_, rfl⟩
        have Hwk : Hid (wi.heap[kk]? = some (Obj.stringIter (bsT l) (k + 1))) := Lib.hid (by rw [hwi]; exact Lib.iterAt_heap _ _ _ _ _ hk0)
        have K0 : Hid (InsAt wi w.heap.size v) := Lib.hid (by rw [hwi]; exact G0.out.iter hk0 _)
        have K1 : Hid (InsAt wi (w.heap.size + 1) (bar v (l.take k))) := Lib.hid (by rw [hwi]; exact G1.out.iter hk0 _)
        have Kb : Hid (Below w.heap.size w wi) := Lib.hid (by rw [hwi]; exact Lib.below_iterAt Gb.out (by omega) _ _)
        rw [← hwi] at hnx
        have hp0 : wr.iterPos kk = k := iterPos_of hk0
        have HF0 := Lib.hid (isa_field x hxi w.heap.size)
        have HF1 := Lib.hid (isa_field x hxi (w.heap.size + 1))
        obtain ⟨ps, hps⟩ : ∃ ps, ps = pos x := ⟨_, rfl⟩
        have hp1 : ps < 5 := by have := pos_ge x; omega
        obtain ⟨m, hm⟩ : ∃ m, m = mst x := ⟨_, rfl⟩
        rw [← hps, ← hm] at HF0 HF1
        have hcell := K0.out.cell ps hp1
        have hfree := K1.out.free ps
        have hcell1 := K1.out.cell ps hp1
        generalize bar v (l.take k) ps = a1 at hcell1
        obtain ⟨a, ha⟩ : ∃ a, a = v ps := ⟨_, rfl⟩
        rw [← ha] at hcell
        have Hinb : Hid (inb v x = (decide (0 ≤ a) && decide (a ≤ (m : Int)))) := Lib.hid (by unfold inb; rw [← hps, ← hm, ← ha])
        have Hsn : Hid (∀ j, j < 5 → bar v (l.take (k + 1)) j = if j = ps then a else bar v (l.take k) j) := Lib.hid fun j _ => by
          rw [htk, bar_snoc, ← hps]
          split
          · rename_i e; rw [e, ha]
          · rfl
        have Htk := Lib.hid htk
        have Hxl := Lib.hid hxl
        clear hwi htk hps hm ha hx hxl hx8 hkb hk0
        by_cases ha0 : a < 0
        · repeat' (first | go_values | go_skip | go_guarded | go_step | go_upon)
          refine Calls.mono (HF0.out _) ?_
          rintro _ w2 ⟨rfl, rfl⟩
          dsimp only
          repeat' (first | go_values | go_skip | go_guarded | go_step | go_upon)
          go_ret
          exact ⟨ret_b (HokF.out x Hxl.out (by rw [Hinb.out]; simp; omega)).symm, Kb.out⟩
        · by_cases ham : (m : Int) < a
          · repeat' (first | go_values | go_skip | go_guarded | go_step | go_upon)
            refine Calls.mono (HF0.out _) ?_
            rintro _ w2 ⟨rfl, rfl⟩
            dsimp only
            repeat' (first | go_values | go_skip | go_guarded | go_step | go_upon)
            go_ret
            exact ⟨ret_b (HokF.out x Hxl.out (by rw [Hinb.out]; simp; omega)).symm, Kb.out⟩
          · repeat' (first | go_values | go_skip | go_guarded | go_step | go_upon)
            refine Calls.mono (HF0.out _) ?_
            rintro _ w2 ⟨rfl, rfl⟩
            dsimp only
            repeat' (first | go_values | go_skip | go_guarded | go_step | go_upon)
            refine Calls.mono (HF1.out _) ?_
            rintro _ w3 ⟨rfl, rfl⟩
            dsimp only
            repeat' (first | go_values | go_skip | go_guarded | go_step | go_upon)
            go_roundw
            case rel => exact ⟨k + 1, by rw [heap_setCell_other _ _ _ _ (by dsimp only; omega)]; exact Hwk.out, hks, Lib.hid (K0.out.other (by omega)), Lib.hid (K1.out.put ps a hp1 Hsn.out), Lib.hid (by rw [Htk.out, List.all_append, Hall.out]; simp [Hinb.out]; omega), Lib.hid (Kb.out.setCell (by dsimp only; omega) _)⟩
            case measure =>
              have e : (wi.setCell ⟨w.heap.size + 1, ps, none⟩ (.int .i64 a)).iterPos kk = k + 1 := iterPos_of (by rw [heap_setCell_other _ _ _ _ (by dsimp only; omega)]; exact Hwk.out)
              rw [e, hp0]; omega
      · obtain rfl : k = l.length := by omega
        rw [List.take_length] at G1 Hall
        have hnx : ∀ ty, (Instr.next (.pointer (some ⟨kk, 0, none⟩)) true ty).run Try.prog wr = _ := fun ty => Lib.run_next_end_at wr kk (bsT l) l.length ty hk0 (by rw [bsT_size]; omega)
        repeat' (first | (with_reducible refine load_ins G1.out _ rfl rfl ?_) | (with_reducible refine load_ins G0.out _ rfl rfl ?_) | go_values | go_skip | go_guarded | go_step | go_upon)
        all_goals
          go_ret
          exact ⟨ret_b (by rw [HokT.out Hall.out]; unfold sameI; simp [*]), Gb.out⟩
  · have hkn : (decide (1 ≤ v 0) && decide (v 0 ≤ 17)) = false := by simp; omega
    have hok : okI v = false := by unfold okI; rw [hkn]; rfl
    rw [hkn] at HK
    clear hkn hk
    go_enter Try.func92, Try.ntmps92
    repeat' (first | go_values | go_skip | go_guarded | go_step | go_upon)
    refine Calls.mono (HK.out _) ?_
    rintro _ w1 ⟨rfl, rfl⟩
    dsimp only
    repeat' (first | go_values | go_skip | go_guarded | go_step | go_upon)
    go_ret
    exact ⟨ret_b hok.symm, (Below.refl _ _).alloc (Nat.le_refl _) _⟩
end Go.Proofs.Ytbomloodllddaaa
/- Walk: instructions are read from bytes (isa.Get). Condition: the text is of at most 10^15 bytes. -/
namespace Go.Proofs.Ytbomloodllddaaa
open Go.RowKit
theorem vgetI_i64 {s : List UInt8} (hs : s.length ≤ 1000000000000000) (a : Int) : I64 (vget s a).2.1 := by
  rcases vget_cases s a with ⟨e, h, _⟩ | ⟨m, k, n, rfl, hk, hmk, _, _, h⟩
  · rw [h]; exact i64_small (by simp)
  · rw [h]; exact i64_small (by dsimp only; omega)
theorem vgetI_u64 (s : List UInt8) (a : Int) : U64 (vget s a).1 := by
  rcases vget_cases s a with ⟨e, h, _⟩ | ⟨m, k, n, rfl, hk, hmk, hn, _, h⟩
  · rw [h]; unfold U64; omega
  · rw [h]; assumption
theorem arrI_size (t : List UInt8) : (⟨t.toArray⟩ : ByteArray).size = t.length := by simp [ByteArray.size]
def FormsAt (w : World) (g : Nat) : Prop := w.heap[g]? = some (.cells formsC 131 (0, 0))
theorem FormsAt.lt {w : World} {g : Nat} (h : FormsAt w g) : g < w.heap.size := (Array.getElem?_eq_some_iff.1 h).1
theorem FormsAt.keep {w w' : World} {g : Nat} (h : FormsAt w g) (hb : Below w.heap.size w w') : FormsAt w' g := by
  unfold FormsAt; rw [hb.block g h.lt]; exact h
theorem FormsAt.other {w : World} {g g' k : Nat} {x : Value} (h : FormsAt w g) (hg : g ≠ g') : FormsAt (w.setCell ⟨g', k, none⟩ x) g := by
  unfold FormsAt; rw [heap_setCell_other _ _ _ _ (by dsimp only; omega)]; exact h
theorem FormsAt.iter {w : World} {g kk k : Nat} {s : ByteArray} (h : FormsAt w g) (hk : w.heap[kk]? = some (.stringIter s k)) (k' : Nat) : FormsAt (w.iterAt kk s k') g := by
  unfold FormsAt
  rw [Lib.iterAt_other w kk g s k' (fun e => by subst e; unfold FormsAt at h; rw [hk] at h; cases h)]; exact h
theorem FormsAt.cell {w : World} {g : Nat} (h : FormsAt w g) (o : Nat) (h1 : 1 ≤ o) (h2 : o ≤ 17) : w.cell? ⟨g, o * 2 + 1, none⟩ = some (.string (bsT (letr o))) := by
  rw [cell_of_row w g _ _ _ _ h]
  rcases (by omega : o = 1 ∨ o = 2 ∨ o = 3 ∨ o = 4 ∨ o = 5 ∨ o = 6 ∨ o = 7 ∨ o = 8 ∨ o = 9 ∨ o = 10 ∨ o = 11 ∨ o = 12 ∨ o = 13 ∨ o = 14 ∨ o = 15 ∨ o = 16 ∨ o = 17) with rfl | rfl | rfl | rfl | rfl | rfl | rfl | rfl | rfl | rfl | rfl | rfl | rfl | rfl | rfl | rfl | rfl <;> rfl
theorem info_ins3 : (Try.prog.info? 118).map (fun i => (i.zero, i.size, i.bytes)) = some (some (.agg #[.int .i64 0, .int .i64 0, .int .i64 0, .int .i64 0, .int .i64 0]), 5, 40) := by kernel_rfl
theorem OwnR.iterI {α : Type} {f : α → List Value} {sz B : Nat} {e : TypeId} {w : World} {v : Value} {l : List α} {kk k : Nat} {s : ByteArray} (h : OwnR f sz B e w v l) (hk : w.heap[kk]? = some (.stringIter s k)) (k' : Nat) : OwnR f sz B e (w.iterAt kk s k') v l :=
  h.other fun j hj => by
    obtain ⟨cs, fz, hc⟩ := h.typed hj
    exact Lib.iterAt_other w kk j s k' (fun e => by subst e; rw [hk] at hc; cases hc)
set_option maxRecDepth 100000 in
set_option maxHeartbeats 4000000 in
theorem isa_GetO (t : List UInt8) (ht : t.length ≤ 1000000000000000) (w : World) :
    Calls Try.prog 79 #[.string ⟨t.toArray⟩] w fun e w' => ∃ v, e = .returned (.tuple #[v, .int .i64 (getI t).1]) ∧ OwnR icL 5 w.heap.size 118 w' v (getI t).2 ∧ Below w.heap.size w w' := by
  have hsz := arrI_size t
  have HG : Hid (∀ a : Int, I64 a → ∀ w : World, Calls Try.prog 107 #[.string ⟨t.toArray⟩, .int .i64 a] w fun e w' => e = .returned (.tuple #[.int .u64 (vget t a).1, .int .i64 (vget t a).2.1, .int .i64 (vget t a).2.2]) ∧ w = w') :=
    Lib.hid fun a ha w => wire_Get ⟨t.toArray⟩ (by rw [arrI_size]; exact ht) a ha w
  have h0 := HG.out 0 (i64_small (by omega))
  obtain ⟨n, hn⟩ : ∃ n, n = (vget t 0).1 := ⟨_, rfl⟩
  obtain ⟨a1, ha1⟩ : ∃ a, a = (vget t 0).2.1 := ⟨_, rfl⟩
  obtain ⟨e1, he1⟩ : ∃ e, e = (vget t 0).2.2 := ⟨_, rfl⟩
  have Hi1 : Hid (I64 a1) := Lib.hid (by rw [ha1]; exact vgetI_i64 ht 0)
  rw [← hn, ← ha1, ← he1] at h0
  have H0 := Lib.hid h0; clear h0
  have Hn := Lib.hid hn; have Ha1 := Lib.hid ha1; have He1 := Lib.hid he1
  clear hn ha1 he1
  have Ht := Lib.hid ht
  clear ht
  obtain ⟨N, hN⟩ : ∃ N : Int, N = (n : Int) := ⟨_, rfl⟩
  rw [← hN] at H0
  have hN0 : 0 ≤ N := by omega
  have HN := Lib.hid hN
  clear hN
  by_cases hz : e1 = 0
  · subst hz
    by_cases hbig : 4096 < N
    · have e := getI_long (t := t) He1.out.symm (by rw [← Hn.out]; have := HN.out; omega)
      rw [e]
      clear e He1 Hn Ha1
      go_enter Try.func79, Try.ntmps79
      repeat' (first | go_values | go_skip | go_guarded | go_step | go_upon)
      refine Calls.mono (H0.out _) ?_
      rintro _ w1 ⟨rfl, rfl⟩
      dsimp only
      repeat' (first | go_values | go_skip | go_guarded | go_step | go_upon)
      go_ret2
      exact ⟨_, rfl, OwnR.nil, Below.refl _ _⟩
    · have Hbad : Hid (∀ e : Int, e ≠ 0 → (many t n a1 []).1 = e → getI t = (e, [])) := Lib.hid fun e h h' => getI_many He1.out.symm (by have := HN.out; omega) Hn.out Ha1.out h' h
      have Hend : Hid (∀ (b : Int) l, many t n a1 [] = (0, l, b) → getI t = if b ≠ (t.length : Int) then (210, []) else (0, l)) := Lib.hid fun b l h => getI_end He1.out.symm (by have := HN.out; omega) Hn.out Ha1.out h
      clear Hn Ha1 He1
      generalize getI t = G at Hbad Hend ⊢
      go_enter Try.func79, Try.ntmps79
      repeat' (first | go_values | go_skip | go_guarded | go_step | go_upon)
      refine Calls.mono (H0.out _) ?_
      rintro _ w1 ⟨rfl, rfl⟩
      dsimp only
      repeat' (first | go_values | go_skip | go_guarded | go_step | go_upon)
      refine Calls.mono (isa_forms _) ?_
      rintro _ wf ⟨rfl, hbf⟩
      dsimp only
      repeat' (first | (with_reducible refine store_forms _ _ rfl rfl rfl ?_) | go_values | go_skip | go_guarded | go_step | go_upon)
      have hN4 : N ≤ 4096 := by omega
      clear hbig
      obtain ⟨gf, hgf⟩ : ∃ g, g = wf.heap.size := ⟨_, rfl⟩
      obtain ⟨ws, hws⟩ : ∃ ws, ws = (wf.alloc (.cells zeroF 131)).setRow wf.heap.size formsC := ⟨_, rfl⟩
      have Hf : Hid (FormsAt ws gf) := Lib.hid (by rw [hws, hgf]; exact setRow_heap _ _ _ _ _ _ (Go.heap_alloc_new _ _))
      have Hbs : Hid (Below w.heap.size w ws) := Lib.hid (by rw [hws]; exact hbf.trans ((Below.row ((Below.refl _ _).alloc (Nat.le_refl _) _) (Nat.le_refl _) _).mono hbf.size))
      have hgw : w.heap.size ≤ gf := by rw [hgf]; exact hbf.size
      rw [← hws, ← hgf]
      clear hws hgf hbf wf H0
      go_loopw [5, 7, 34] (fun s5 s7 s34 wr => ∃ (k : Nat) (a : Int) (acc : List (Nat → Int)), s5 = .int .i64 a ∧ s34 = .int .u64 k ∧ k ≤ n ∧ Hid (acc.length ≤ k) ∧ Hid (I64 a) ∧ Hid (many t n a1 [] = many t (n - k) a acc) ∧ Hid (OwnR icL 5 w.heap.size 118 wr s7 acc) ∧ Hid (FormsAt wr gf) ∧ Hid (Below w.heap.size w wr)) (fun _ _ s34 _ => n - (intOf s34).toNat)
      case atStart => exact ⟨0, a1, [], rfl, rfl, Nat.zero_le _, Lib.hid (Nat.le_refl _), Hi1, Lib.hid rfl, Lib.hid OwnR.nil, Hf, Hbs⟩
      case round =>
        obtain ⟨k, a, acc, rfl, rfl, hk, Hal, Ha, Hm, Ho, Hfo, Hb⟩ := hrel
        by_cases hlt : (k : Int) < N
        · have hkn : k < n := by have := HN.out; omega
          have h1 := HG.out a Ha.out
          obtain ⟨g1, hg1⟩ : ∃ g, g = vget t a := ⟨_, rfl⟩
          have hI2 : I64 g1.2.1 := by rw [hg1]; exact vgetI_i64 Ht.out a
          have hU1 : U64 g1.1 := by rw [hg1]; exact vgetI_u64 t a
          have hnk : n - k = (n - (k + 1)) + 1 := by omega
          have Hb1 : Hid (g1.2.2 ≠ 0 → G = (g1.2.2, [])) := Lib.hid fun h => Hbad.out _ h (by rw [Hm.out, hnk]; exact many_bad (ins1_bad (by rw [hg1]) h) h)
          have Hop : Hid (g1.2.2 = 0 → (g1.1 < 1 ∨ 17 < g1.1) → G = (210, [])) := Lib.hid fun h h' => Hbad.out _ (by decide) (by rw [Hm.out, hnk]; exact many_bad (ins1_op (by rw [← hg1]; exact h) (by rw [← hg1]; exact h')) (by decide))
          have Hon : Hid (g1.2.2 = 0 → 1 ≤ g1.1 → g1.1 ≤ 17 → ∀ r, flds t (letr g1.1) (opI (g1.1 : Nat)) g1.2.1 = r → (r.1 ≠ 0 → G = (r.1, [])) ∧ (r.1 = 0 → many t n a1 [] = many t (n - (k + 1)) r.2.2 (acc ++ [r.2.1]))) := Lib.hid fun h h1 h2 r hr => by
            have e : ins1 t a = r := by rw [ins1_on (by rw [← hg1]; exact h) (by rw [← hg1]; exact h1) (by rw [← hg1]; exact h2), ← hg1]; exact hr
            refine ⟨fun h0 => Hbad.out _ h0 (by rw [Hm.out, hnk]; exact many_bad (by rw [e]) h0), fun h0 => ?_⟩
            rw [Hm.out, hnk, many_on (by rw [e]; exact h0), e]
          rw [← hg1] at h1
          clear hg1 hnk Hm
          obtain ⟨n1, a2, e2⟩ := g1
          dsimp only at h1 hI2 hU1 Hb1 Hop Hon
          have H1 := Lib.hid h1; have HI2 := Lib.hid hI2; have HU1 := Lib.hid hU1
          clear h1 hI2 hU1
          by_cases he : e2 = 0
          · subst he
            by_cases hop : 17 < n1
            · have EG := Lib.hid (Hop.out rfl (.inr hop))
              repeat' (first | go_values | go_skip | go_guarded | go_step | go_upon)
              refine Calls.mono (H1.out _) ?_
              rintro _ w2 ⟨rfl, rfl⟩
              dsimp only
              repeat' (first | go_values | go_skip | go_guarded | go_step | go_upon)
              go_ret2
              have eG := EG.out; subst eG
              exact ⟨_, rfl, OwnR.nil, Hb.out⟩
            · have HK := Lib.hid fun w => isa_known (n1 : Int) w
              by_cases hop1 : n1 < 1
              · have EG := Lib.hid (Hop.out rfl (.inl hop1))
                have ek : (decide ((1 : Int) ≤ n1) && decide ((n1 : Int) ≤ 17)) = false := by simp; omega
                rw [ek] at HK
                repeat' (first | go_values | go_skip | go_guarded | go_step | go_upon)
                refine Calls.mono (H1.out _) ?_
                rintro _ w2 ⟨rfl, rfl⟩
                dsimp only
                repeat' (first | go_values | go_skip | go_guarded | go_step | go_upon)
                refine Calls.mono (HK.out _) ?_
                rintro _ w3 ⟨rfl, rfl⟩
                dsimp only
                repeat' (first | go_values | go_skip | go_guarded | go_step | go_upon)
                go_ret2
                have eG := EG.out; subst eG
                exact ⟨_, rfl, OwnR.nil, Hb.out⟩
              · have ek : (decide ((1 : Int) ≤ n1) && decide ((n1 : Int) ≤ 17)) = true := by simp; omega
                rw [ek] at HK
                have Hon2 := Lib.hid (Hon.out rfl (by omega) (by omega))
                clear Hb1 Hop Hon ek
                repeat' (first | go_values | go_skip | go_guarded | go_step | go_upon)
                refine Calls.mono (H1.out _) ?_
                rintro _ w2 ⟨rfl, rfl⟩
                dsimp only
                repeat' (first | go_values | go_skip | go_guarded | go_step | go_upon)
                refine Calls.mono (HK.out _) ?_
                rintro _ w3 ⟨rfl, rfl⟩
                dsimp only
                have e0 : ic (opI (n1 : Int)) = #[.int .i64 (n1 : Int), .int .i64 0, .int .i64 0, .int .i64 0, .int .i64 0] := by simp [ic, opI]
                have hbx : Below wr.heap.size wr (wr.alloc (.cells #[.int .i64 (n1 : Int), .int .i64 0, .int .i64 0, .int .i64 0, .int .i64 0] 118)) := (Below.refl _ _).alloc (Nat.le_refl _) _
                have hfa := (Hfo.out.keep hbx).cell n1 (by omega) (by omega)
                repeat' (first | go_values | go_skip | go_guarded | go_step | go_upon)
                obtain ⟨gi, hgi⟩ : ∃ g, g = wr.heap.size := ⟨_, rfl⟩
                have Hlet := Lib.hid (letr_is n1)
                obtain ⟨wq, hwq⟩ : ∃ wq, wq = (wr.alloc (.cells #[.int .i64 (n1 : Int), .int .i64 0, .int .i64 0, .int .i64 0, .int .i64 0] 118)).iter (bsT (letr n1)) 0 := ⟨_, rfl⟩
                have hbq : Below wr.heap.size wr wq := by rw [hwq]; exact hbx.alloc (by simp) _
                have Hit : Hid (wq.heap[gi + 1]? = some (Obj.stringIter (bsT (letr n1)) 0)) := Lib.hid (by
                  have h := World.iter_heap (wr.alloc (.cells #[.int .i64 (n1 : Int), .int .i64 0, .int .i64 0, .int .i64 0, .int .i64 0] 118)) (bsT (letr n1)) 0
                  rw [World.size_alloc] at h
                  rw [hwq, hgi]; exact h)
                have Hin : Hid (InsAt wq gi (opI n1)) := Lib.hid (by
                  have h := InsAt.new wr (opI (n1 : Int))
                  rw [e0] at h
                  rw [hwq, hgi]; exact h.keep ((Below.refl _ _).alloc (Nat.le_refl _) _))
                have Hoq := Lib.hid (Ho.out.keep hbq (Nat.le_refl _))
                have Hfq := Lib.hid (Hfo.out.keep hbq)
                have Hbq := Lib.hid (Hb.out.trans (hbq.mono Hb.out.size))
                have Hob : Hid (∀ k, u7.ownBlock = some k → k < gi) := Lib.hid fun k hk => by rw [hgi]; exact (Ho.out.below hk).2
                have hgg : gf < gi := by rw [hgi]; exact Hfo.out.lt
                have hwg : w.heap.size ≤ gi := by omega
                rw [← hwq, ← hgi]
                clear hwq hgi hbq hbx hfa e0 Ho Hfo Hb Ha H1 HK hop hop1
                generalize letr n1 = l at Hlet Hon2 Hit ⊢
                go_loopw [5] (fun s5 wi => ∃ (j : Nat) (b : Int) (u : Nat → Int), s5 = .int .i64 b ∧ wi.heap[gi + 1]? = some (Obj.stringIter (bsT l) j) ∧ j ≤ l.length ∧ Hid (I64 b) ∧ Hid (InsAt wi gi u) ∧ Hid (flds t l (opI n1) a2 = flds t (l.drop j) u b) ∧ Hid (OwnR icL 5 w.heap.size 118 wi u7 acc) ∧ Hid (FormsAt wi gf) ∧ Hid (Below w.heap.size w wi)) (fun _ wi => l.length - wi.iterPos (gi + 1))
                case atStart => exact ⟨0, a2, opI n1, rfl, Hit.out, Nat.zero_le _, HI2, Hin, Lib.hid rfl, Hoq, Hfq, Hbq⟩
                case round =>
                  clear Hit Hin Hoq Hfq Hbq
                  obtain ⟨j, b, u, rfl, hj0, hjl, Hbi, Gi, Hfl, Go, Gf, Gb⟩ := hrel
                  by_cases hjs : j < l.length
                  · have hjb : j < (bsT l).size := by rw [bsT_size]; exact hjs
                    obtain ⟨x, hx⟩ : ∃ x, x = l[j] := ⟨_, rfl⟩
                    have hxl : x ∈ l := by rw [hx]; exact List.getElem_mem hjs
                    have hxi := Hlet.out x hxl
                    have hx8 : ((bsT l)[j]'hjb).toNat = x := by rw [bsT_get l j hjb hjs fun y hy => by have := Hlet.out y hy; unfold IsL at this; omega, hx]
                    have hnx : ∀ ty, (Instr.next (.pointer (some ⟨gi + 1, 0, none⟩)) true ty).run Try.prog wr = _ := fun ty => Lib.run_next_ascii_at wr (gi + 1) (bsT l) j ty hj0 hjb (by rw [hx8]; unfold IsL at hxi; omega)
                    rw [hx8] at hnx
                    have hdr : l.drop j = x :: l.drop (j + 1) := by rw [hx]; exact List.drop_eq_getElem_cons hjs
                    obtain ⟨wi, hwi⟩ : ∃ wi, wi = wr.iterAt (gi + 1) (bsT l) (j + 1) := ⟨_, rfl⟩
                    have Hwk : Hid (wi.heap[gi + 1]? = some (Obj.stringIter (bsT l) (j + 1))) := Lib.hid (by rw [hwi]; exact Lib.iterAt_heap _ _ _ _ _ hj0)
                    have K0 : Hid (InsAt wi gi u) := Lib.hid (by rw [hwi]; exact Gi.out.iter hj0 _)
                    have Ko : Hid (OwnR icL 5 w.heap.size 118 wi u7 acc) := Lib.hid (by rw [hwi]; exact Go.out.iterI hj0 _)
                    have Kf : Hid (FormsAt wi gf) := Lib.hid (by rw [hwi]; exact Gf.out.iter hj0 _)
                    have Kb : Hid (Below w.heap.size w wi) := Lib.hid (by rw [hwi]; exact Lib.below_iterAt Gb.out (by omega) _ _)
                    rw [← hwi] at hnx
                    have hp0 : wr.iterPos (gi + 1) = j := iterPos_of hj0
                    have h1 := HG.out b Hbi.out
                    obtain ⟨g3, hg3⟩ : ∃ g, g = vget t b := ⟨_, rfl⟩
                    have hI3 : I64 g3.2.1 := by rw [hg3]; exact vgetI_i64 Ht.out b
                    have Hq1 : Hid (g3.2.2 ≠ 0 → G = (g3.2.2, [])) := Lib.hid fun h => by
                      have e : (flds t l (opI n1) a2).1 = g3.2.2 := by rw [Hfl.out, hdr]; exact flds_bad (by rw [hg3]) h
                      have := (Hon2.out _ rfl).1 (by rw [e]; exact h)
                      rwa [e] at this
                    have Hq2 : Hid (g3.2.2 = 0 → mst x < g3.1 → G = (210, [])) := Lib.hid fun h hm => by
                      have e : (flds t l (opI n1) a2).1 = 210 := by rw [Hfl.out, hdr]; exact flds_most (by rw [← hg3]; exact h) (by rw [← hg3]; exact hm)
                      have := (Hon2.out _ rfl).1 (by rw [e]; decide)
                      rwa [e] at this
                    have Hq3 : Hid (g3.2.2 = 0 → ¬ mst x < g3.1 → flds t l (opI n1) a2 = flds t (l.drop (j + 1)) (upd u (pos x) (g3.1 : Nat)) g3.2.1) := Lib.hid fun h hm => by
                      rw [Hfl.out, hdr, flds_on (by rw [← hg3]; exact h) (by rw [← hg3]; exact hm), ← hg3]
                    rw [← hg3] at h1
                    clear hg3 Hfl Hbi
                    obtain ⟨n3, a3, e3⟩ := g3
                    dsimp only at h1 hI3 Hq1 Hq2 Hq3
                    have H3 := Lib.hid h1; have HI3 := Lib.hid hI3
                    clear h1 hI3
                    have HF := Lib.hid (isa_field x hxi gi)
                    obtain ⟨ps, hps⟩ : ∃ ps, ps = pos x := ⟨_, rfl⟩
                    have hp1 : ps < 5 := by have := pos_ge x; omega
                    obtain ⟨m, hm⟩ : ∃ m, m = mst x := ⟨_, rfl⟩
                    have Hml : Hid (m ≤ 1073741824) := Lib.hid (by rw [hm]; exact mst_le x)
                    rw [← hps, ← hm] at HF
                    rw [← hm] at Hq2 Hq3
                    rw [← hps] at Hq3
                    have hcell := K0.out.cell ps hp1
                    generalize u ps = a9 at hcell
                    have hfree := K0.out.free ps
                    have hwm : IntKind.u64.wrap (m : Int) = m := wu64 (by omega) (u64_small (by have := Hml.out; omega))
                    clear hwi hdr hps hm hx hxl hx8 hjb hj0 Gi Go Gf Gb
                    by_cases he : e3 = 0
                    · subst he
                      by_cases hgt : m < n3
                      · have EG := Lib.hid (Hq2.out rfl hgt)
                        clear Hq1 Hq2 Hq3
                        have hgt' : (m : Int) < n3 := by omega
                        clear hgt
                        repeat' (first | go_values | go_skip | go_guarded | go_step | go_upon)
                        refine Calls.mono (H3.out _) ?_
                        rintro _ w2 ⟨rfl, rfl⟩
                        dsimp only
                        repeat' (first | go_values | go_skip | go_guarded | go_step | go_upon)
                        refine Calls.mono (HF.out _) ?_
                        rintro _ w3 ⟨rfl, rfl⟩
                        dsimp only
                        repeat' (first | go_values | go_skip | go_guarded | go_step | go_upon)
                        go_ret2
                        have eG := EG.out; subst eG
                        exact ⟨_, rfl, OwnR.nil, Kb.out⟩
                      · have Hq := Lib.hid (Hq3.out rfl hgt)
                        clear Hq1 Hq2 Hq3
                        have hle : (n3 : Int) ≤ m := by omega
                        have hw3 : IntKind.i64.wrap (n3 : Int) = n3 := IntWalk.i64_in _ (by have := Hml.out; omega)
                        clear hgt
                        repeat' (first | go_values | go_skip | go_guarded | go_step | go_upon)
                        refine Calls.mono (H3.out _) ?_
                        rintro _ w2 ⟨rfl, rfl⟩
                        dsimp only
                        repeat' (first | go_values | go_skip | go_guarded | go_step | go_upon)
                        refine Calls.mono (HF.out _) ?_
                        rintro _ w3 ⟨rfl, rfl⟩
                        dsimp only
                        repeat' (first | go_values | go_skip | go_guarded | go_step | go_upon)
                        go_roundw
                        case rel => exact ⟨j + 1, a3, upd u ps n3, rfl, by rw [heap_setCell_other _ _ _ _ (by dsimp only; omega)]; exact Hwk.out, hjs, HI3, Lib.hid (K0.out.put ps n3 hp1 fun _ _ => rfl), Hq, Lib.hid (Ko.out.setOther fun k hk => Nat.ne_of_lt (Hob.out k hk)), Lib.hid (Kf.out.other (by omega)), Lib.hid (Kb.out.setCell (by dsimp only; omega) _)⟩
                        case measure =>
                          have e : (wi.setCell ⟨gi, ps, none⟩ (.int .i64 n3)).iterPos (gi + 1) = j + 1 := iterPos_of (by rw [heap_setCell_other _ _ _ _ (by dsimp only; omega)]; exact Hwk.out)
                          rw [e, hp0]; omega
                    · have EG := Lib.hid (Hq1.out he)
                      have hne : (e3 != 0) = true := by simpa using he
                      clear he Hq1 Hq2 Hq3
                      repeat' (first | go_values | go_skip | go_guarded | go_step | go_upon)
                      refine Calls.mono (H3.out _) ?_
                      rintro _ w2 ⟨rfl, rfl⟩
                      dsimp only
                      repeat' (first | go_values | go_skip | go_guarded | go_step | go_upon)
                      go_ret2
                      have eG := EG.out; subst eG
                      exact ⟨_, rfl, OwnR.nil, Kb.out⟩
                  · obtain rfl : j = l.length := by omega
                    rw [List.drop_length] at Hfl
                    have hnx : ∀ ty, (Instr.next (.pointer (some ⟨gi + 1, 0, none⟩)) true ty).run Try.prog wr = _ := fun ty => Lib.run_next_end_at wr (gi + 1) (bsT l) l.length ty hj0 (by rw [bsT_size]; omega)
                    have Hm2 := Lib.hid ((Hon2.out _ Hfl.out).2 rfl)
                    simp only [flds] at Hm2
                    have hown := Go.out
                    have hwB : w.heap.size ≤ wr.heap.size := Gb.out.size
                    have hll : acc.length ≤ 4096 := by have := Hal.out; have := HN.out; omega
                    have h34 : IntKind.u64.wrap ((k : Int) + 1) = ((k + 1 : Nat) : Int) := by rw [wu64 (by omega) (u64_small (by have := HN.out; omega))]; omega
                    clear hjs hjl hj0
                    repeat' (first | (with_reducible refine load_ins Gi.out _ rfl rfl ?_) | (at_builtin; go_loud (refine app_one 40 wr.heap.size rfl u icL_len (by intro y hy; simp [icL] at hy; rcases hy with rfl | rfl | rfl | rfl | rfl <;> rfl) Try.underlying22 info_ins3 rfl rfl _ _ rfl rfl rfl rfl hown hwB (by omega) (by unfold maxLen; omega) ?_); intro v4 w4 hown4 hb4 hk4 _) | go_values | go_skip | go_guarded | go_step | go_upon)
                    go_roundw
                    case rel => exact ⟨k + 1, b, acc ++ [u], rfl, rfl, hkn, Lib.hid (by rw [List.length_append]; have := Hal.out; simp; omega), Hbi, Hm2, Lib.hid hown4, Lib.hid (hk4 _ _ _ _ Gf.out (by decide)), Lib.hid (Gb.out.trans hb4)⟩
                    case measure => simp [intOf]; omega
          · have EG := Lib.hid (Hb1.out he)
            have hne : (e2 != 0) = true := by simpa using he
            clear he
            repeat' (first | go_values | go_skip | go_guarded | go_step | go_upon)
            refine Calls.mono (H1.out _) ?_
            rintro _ w2 ⟨rfl, rfl⟩
            dsimp only
            repeat' (first | go_values | go_skip | go_guarded | go_step | go_upon)
            go_ret2
            have eG := EG.out; subst eG
            exact ⟨_, rfl, OwnR.nil, Hb.out⟩
        · obtain rfl : k = n := by have := HN.out; omega
          rw [Nat.sub_self] at Hm
          have hres := Hend.out a acc (by rw [Hm.out]; rfl)
          by_cases hal : a = (t.length : Int)
          · rw [if_neg (by simpa using hal)] at hres
            have hab : (a != (t.length : Int)) = false := by simpa using hal
            have EG := Lib.hid hres
            clear hres hal Hm Hend Hbad
            repeat' (first | go_values | go_skip | go_guarded | go_step | go_upon)
            go_ret2
            have eG := EG.out; subst eG
            exact ⟨_, rfl, Ho.out, Hb.out⟩
          · rw [if_pos hal] at hres
            have hab : (a != (t.length : Int)) = true := by simpa using hal
            have EG := Lib.hid hres
            clear hres hal Hm Hend Hbad
            repeat' (first | go_values | go_skip | go_guarded | go_step | go_upon)
            go_ret2
            have eG := EG.out; subst eG
            exact ⟨_, rfl, OwnR.nil, Hb.out⟩
  · have e := getI_bad (t := t) He1.out.symm hz
    rw [e]
    clear e He1 Hn Ha1
    go_enter Try.func79, Try.ntmps79
    repeat' (first | go_values | go_skip | go_guarded | go_step | go_upon)
    refine Calls.mono (H0.out _) ?_
    rintro _ w1 ⟨rfl, rfl⟩
    dsimp only
    repeat' (first | go_values | go_skip | go_guarded | go_step | go_upon)
    go_ret2
    exact ⟨_, rfl, OwnR.nil, Below.refl _ _⟩
end Go.Proofs.Ytbomloodllddaaa
/- Walks: the reference's fields of instructions, by operation. No conditions. -/
namespace Go.Proofs.Ytbomloodllddaaa
open Go.RowKit
end Go.Proofs.Ytbomloodllddaaa
/- Walks: the reference's fields of instructions, and which may be (P21.1). No conditions. -/
namespace Go.Proofs.Ytbomloodllddaaa
open Go.RowKit
theorem InsAt.new1 (w : World) (o : Obj) (u : Nat → Int) : InsAt ((w.alloc o).alloc (.cells (ic u) 118)) (w.heap.size + 1) u := by
  have h := InsAt.new (w.alloc o) u
  rwa [World.size_alloc] at h
end Go.Proofs.Ytbomloodllddaaa
/- Walk: the reference's answer whether an instruction may be (P21.1). No conditions. -/
namespace Go.Proofs.Ytbomloodllddaaa
open Go.RowKit
/-- two instructions in the call's own variables -/
structure In2 (B : Nat) (w0 : World) (v u : Nat → Int) (w : World) : Prop where
  bel : Below B w0 w
  h0 : InsAt w B v
  h1 : InsAt w (B + 1) u
theorem In2.step {B : Nat} {w0 w w' : World} {v u : Nat → Int} (h : In2 B w0 v u w) (hb : Below w.heap.size w w') : In2 B w0 v u w' :=
  ⟨h.bel.trans (hb.mono (Nat.le_of_lt h.h0.lt)), h.h0.keep hb, h.h1.keep hb⟩
theorem In2.start (w : World) (v : Nat → Int) : In2 w.heap.size w v (bar v []) ((w.alloc (.cells (ic v) 118)).alloc (.cells #[.int .i64 (v 0), .int .i64 0, .int .i64 0, .int .i64 0, .int .i64 0] 118)) := by
  refine ⟨((Below.refl _ _).alloc (Nat.le_refl _) _).alloc (by simp) _, (InsAt.new w v).keep ((Below.refl _ _).alloc (Nat.le_refl _) _), ?_⟩
  have h := InsAt.new1 w (.cells (ic v) 118) (bar v [])
  have e0 : ic (bar v []) = #[.int .i64 (v 0), .int .i64 0, .int .i64 0, .int .i64 0, .int .i64 0] := by unfold ic; rw [bar_nil0, bar_nil v (by decide), bar_nil v (by decide), bar_nil v (by decide), bar_nil v (by decide)]
  rw [e0] at h
  exact h
theorem In2.store {B : Nat} {w0 w : World} {v u u' : Nat → Int} (h : In2 B w0 v u w) : In2 B w0 v u' (w.setRow (B + 1) (ic u')) :=
  ⟨Below.row h.bel (by omega) _, h.h0.rowOther (by omega), h.h1.row⟩
end Go.Proofs.Ytbomloodllddaaa
