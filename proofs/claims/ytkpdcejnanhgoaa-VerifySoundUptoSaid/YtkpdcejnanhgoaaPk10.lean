/- Walks: which operations there are, their words and fields, where a field stands (isa.known, isa.forms, isa.field). No conditions. -/
import Derived.Test.YtkpdcejnanhgoaaPk04
import Derived.Test.YtkpdcejnanhgoaaPk03
import Derived.Test.YtkpdcejnanhgoaaProg
import Derived.Deep.WholeRow
import Derived.Laws.StructEq
import Derived.Lib.OthersKept
import Derived.WalkSmall
namespace Go.Proofs.Ytkpdcejnanhgoaa
open Go.RowKit
theorem Below.row {B g : Nat} {w0 w : World} (hb : Below B w0 w) (hBg : B ≤ g) (cs : Array Value) : Below B w0 (w.setRow g cs) :=
  hb.trans ⟨rfl, rfl, rfl, by simp, fun k hk => setRow_other _ _ _ _ (by omega)⟩
theorem isa_known (a : Int) (w : World) : Calls Try.prog 66 #[.int .i64 a] w fun e w' => e = .returned (.bool (decide (1 ≤ a) && decide (a ≤ 17))) ∧ w = w' := by
  by_cases h1 : 1 ≤ a
  · by_cases h2 : a ≤ 17
    · go_enter Try.func66, Try.ntmps66
      repeat' (first | go_values | go_skip | go_guarded | go_step | go_upon)
      go_ret
      exact ⟨ret_b (by simp [h1, h2]), rfl⟩
    · go_enter Try.func66, Try.ntmps66
      repeat' (first | go_values | go_skip | go_guarded | go_step | go_upon)
      go_ret
      exact ⟨ret_b (by simp [h1, h2]), rfl⟩
  · go_enter Try.func66, Try.ntmps66
    repeat' (first | go_values | go_skip | go_guarded | go_step | go_upon)
    go_ret
    exact ⟨ret_b (by simp [h1]), rfl⟩
set_option maxRecDepth 100000 in
theorem isa_field (x : Nat) (hx : IsL x) (g : Nat) (w : World) : Calls Try.prog 68 #[.pointer (some ⟨g, 0, none⟩), .int .i32 (x : Int)] w fun e w' =>
    e = .returned (.tuple #[.pointer (some ⟨g, pos x, none⟩), .int .i64 (mst x : Nat), .string (bsT (sgn x))]) ∧ w = w' := by
  rcases hx with rfl | rfl | rfl | rfl | rfl | rfl
  all_goals
    go_enter Try.func68, Try.ntmps68
    repeat' (first | go_values | go_skip | go_guarded | go_step | go_upon)
    go_ret3
    exact ⟨rfl, rfl⟩
theorem info_forms : (Try.prog.info? 122).map (fun i => i.size) = some 36 := by kernel_rfl
/-- what isa.forms hands back -/
def formsC : Array Value := #[.string ⟨#[]⟩, .string ⟨#[]⟩, .string ⟨#[104, 97, 108, 116]⟩, .string ⟨#[]⟩, .string ⟨#[108, 111, 97, 100]⟩, .string ⟨#[114, 110]⟩, .string ⟨#[109, 111, 118, 101]⟩, .string ⟨#[114, 82]⟩, .string ⟨#[106, 117, 109, 112]⟩, .string ⟨#[64]⟩, .string ⟨#[115, 97, 109, 101]⟩, .string ⟨#[114, 110, 64]⟩, .string ⟨#[108, 101, 115, 115]⟩, .string ⟨#[114, 110, 64]⟩, .string ⟨#[110, 101, 120, 116]⟩, .string ⟨#[114, 64]⟩, .string ⟨#[108, 111, 111, 107]⟩, .string ⟨#[114, 82, 116]⟩, .string ⟨#[109, 97, 114, 107]⟩, .string ⟨#[109]⟩, .string ⟨#[98, 97, 99, 107]⟩, .string ⟨#[109]⟩, .string ⟨#[104, 101, 114, 101]⟩, .string ⟨#[109, 64]⟩, .string ⟨#[99, 111, 112, 121]⟩, .string ⟨#[114]⟩, .string ⟨#[116, 101, 120, 116]⟩, .string ⟨#[114, 82]⟩, .string ⟨#[116, 117, 114, 110]⟩, .string ⟨#[]⟩, .string ⟨#[115, 105, 103, 110]⟩, .string ⟨#[114]⟩, .string ⟨#[106, 111, 105, 110]⟩, .string ⟨#[]⟩, .string ⟨#[101, 109, 105, 116]⟩, .string ⟨#[114]⟩]
theorem forms_at (o : Nat) (h1 : 1 ≤ o) (h2 : o ≤ 17) (w : World) : (Instr.index 122 (.agg formsC) (.int .i64 (o : Int))).run Try.prog w = .ok (.agg #[.string (bsT (wrd o)), .string (bsT (letr o))]) w := by
  rcases (by omega : o = 1 ∨ o = 2 ∨ o = 3 ∨ o = 4 ∨ o = 5 ∨ o = 6 ∨ o = 7 ∨ o = 8 ∨ o = 9 ∨ o = 10 ∨ o = 11 ∨ o = 12 ∨ o = 13 ∨ o = 14 ∨ o = 15 ∨ o = 16 ∨ o = 17) with rfl | rfl | rfl | rfl | rfl | rfl | rfl | rfl | rfl | rfl | rfl | rfl | rfl | rfl | rfl | rfl | rfl
  all_goals kernel_rfl
theorem field_form (a b : ByteArray) (w : World) : (Instr.field 121 (.agg #[.string a, .string b]) 1).run Try.prog w = .ok (.string b) w := by kernel_rfl
abbrev zeroF : Array Value := #[.string ⟨#[]⟩, .string ⟨#[]⟩, .string ⟨#[]⟩, .string ⟨#[]⟩, .string ⟨#[]⟩, .string ⟨#[]⟩, .string ⟨#[]⟩, .string ⟨#[]⟩, .string ⟨#[]⟩, .string ⟨#[]⟩, .string ⟨#[]⟩, .string ⟨#[]⟩, .string ⟨#[]⟩, .string ⟨#[]⟩, .string ⟨#[]⟩, .string ⟨#[]⟩, .string ⟨#[]⟩, .string ⟨#[]⟩, .string ⟨#[]⟩, .string ⟨#[]⟩, .string ⟨#[]⟩, .string ⟨#[]⟩, .string ⟨#[]⟩, .string ⟨#[]⟩, .string ⟨#[]⟩, .string ⟨#[]⟩, .string ⟨#[]⟩, .string ⟨#[]⟩, .string ⟨#[]⟩, .string ⟨#[]⟩, .string ⟨#[]⟩, .string ⟨#[]⟩, .string ⟨#[]⟩, .string ⟨#[]⟩, .string ⟨#[]⟩, .string ⟨#[]⟩]
theorem forms_one : formsC.all (·.oneCell') = true := by kernel_rfl
theorem store_forms {o : Oper} {a : Act} {w : World} {K : Act → World → Prop} {Q : Exit → Act → World → Prop} (x y : Operand) (ho : o.op = .store 122 x y)
    (hx : a.eval x = .pointer (some ⟨w.heap.size, 0, none⟩)) (hy : a.eval y = .agg formsC) (h : K (a.put o.dst undef) ((w.alloc (.cells zeroF 122)).setRow w.heap.size formsC)) : o.wp Try.prog a (w.alloc (.cells zeroF 122)) K Q :=
  wp_store_row _ x y ho w.heap.size formsC hx hy 122 zeroF (Go.heap_alloc_new _ _) info_forms rfl forms_one h
set_option maxRecDepth 100000 in
set_option maxHeartbeats 1000000 in
theorem isa_forms (w : World) : Calls Try.prog 67 #[] w fun e w' => e = .returned (.agg formsC) ∧ Below w.heap.size w w' := by
  go_enter Try.func67, Try.ntmps67
  repeat' (first | (refine store_forms _ _ rfl rfl rfl ?_) | go_values | go_skip | go_guarded | go_step | go_upon)
  refine bodyPost_ret (v := .agg formsC) (results_cell_row rfl _ _ w.heap.size 122 formsC (0, 0) _ rfl (setRow_heap _ _ _ _ _ _ (Go.heap_alloc_new _ _)) Try.underlying122 rfl info_forms) rfl ⟨rfl, ?_⟩
  exact Below.row ((Below.refl _ _).alloc (Nat.le_refl _) _) (Nat.le_refl _) _
end Go.Proofs.Ytkpdcejnanhgoaa
/- Walk: whether an instruction may be (isa.Right). No conditions. -/
namespace Go.Proofs.Ytkpdcejnanhgoaa
open Go.RowKit
/-- a variable of the call's own that holds an instruction -/
def InsAt (w : World) (g : Nat) (v : Nat → Int) : Prop := w.heap[g]? = some (.cells (ic v) 85 (0, 0))
theorem InsAt.lt {w : World} {g : Nat} {v : Nat → Int} (h : InsAt w g v) : g < w.heap.size := (Array.getElem?_eq_some_iff.1 h).1
theorem InsAt.keep {w w' : World} {g : Nat} {v : Nat → Int} (h : InsAt w g v) (hb : Below w.heap.size w w') : InsAt w' g v := by
  unfold InsAt; rw [hb.block g h.lt]; exact h
theorem InsAt.keepB {w w' : World} {g B : Nat} {v : Nat → Int} (h : InsAt w g v) (hb : Below B w w') (hg : g < B) : InsAt w' g v := by
  unfold InsAt; rw [hb.block g hg]; exact h
theorem InsAt.cell {w : World} {g : Nat} {v : Nat → Int} (h : InsAt w g v) (k : Nat) (hk : k < 5) : w.cell? ⟨g, k, none⟩ = some (.int .i64 (v k)) := by
  rw [cell_of_row w g k _ _ _ h]
  rcases (by omega : k = 0 ∨ k = 1 ∨ k = 2 ∨ k = 3 ∨ k = 4) with rfl | rfl | rfl | rfl | rfl <;> rfl
theorem InsAt.free {w : World} {g : Nat} {v : Nat → Int} (h : InsAt w g v) (k : Nat) : w.frozen? ⟨g, k, none⟩ = false := frozen_of_row _ _ _ _ _ h
theorem InsAt.other {w : World} {g g' k : Nat} {v : Nat → Int} {x : Value} (h : InsAt w g v) (hg : g ≠ g') : InsAt (w.setCell ⟨g', k, none⟩ x) g v := by
  unfold InsAt; rw [heap_setCell_other _ _ _ _ (by dsimp only; omega)]; exact h
theorem InsAt.put {w : World} {g : Nat} {v u : Nat → Int} (h : InsAt w g v) (k : Nat) (x : Int) (hk : k < 5) (hu : ∀ j, j < 5 → u j = if j = k then x else v j) : InsAt (w.setCell ⟨g, k, none⟩ (.int .i64 x)) g u := by
  rw [setCell_eq_setRow w g k _ _ _ (.int .i64 x) h]
  unfold InsAt
  rw [setRow_heap _ _ _ _ _ _ h]
  have e : (ic v).setIfInBounds k (.int .i64 x) = ic u := by
    unfold ic
    rw [hu 0 (by omega), hu 1 (by omega), hu 2 (by omega), hu 3 (by omega), hu 4 (by omega)]
    rcases (by omega : k = 0 ∨ k = 1 ∨ k = 2 ∨ k = 3 ∨ k = 4) with rfl | rfl | rfl | rfl | rfl <;> simp
  rw [e]
theorem InsAt.iter {w : World} {g kk k : Nat} {v : Nat → Int} {s : ByteArray} (h : InsAt w g v) (hk : w.heap[kk]? = some (.stringIter s k)) (k' : Nat) : InsAt (w.iterAt kk s k') g v := by
  unfold InsAt
  rw [Lib.iterAt_other w kk g s k' (fun e => by subst e; unfold InsAt at h; rw [hk] at h; cases h)]; exact h
theorem InsAt.new (w : World) (v : Nat → Int) : InsAt (w.alloc (.cells (ic v) 85)) w.heap.size v := Go.heap_alloc_new _ _
theorem info_ins : (Try.prog.info? 85).map (fun i => i.size) = some 5 := by kernel_rfl
theorem load_ins {o : Oper} {a : Act} {w : World} {K : Act → World → Prop} {Q : Exit → Act → World → Prop} {g : Nat} {v : Nat → Int} (hs : InsAt w g v) (x : Operand) (ho : o.op = .load 85 x)
    (hx : a.eval x = .pointer (some ⟨g, 0, none⟩)) (h : K (a.put o.dst (vI v)) w) : o.wp Try.prog a w K Q :=
  wp_load_row _ x ho g hx 85 (ic v) (0, 0) _ hs Try.underlying85 rfl info_ins h
theorem ins_one (v : Nat → Int) : (ic v).all (·.oneCell') = true := by simp [Value.oneCell']
theorem InsAt.row {w : World} {g : Nat} {v u : Nat → Int} (h : InsAt w g v) : InsAt (w.setRow g (ic u)) g u := setRow_heap _ _ _ _ _ _ h
theorem InsAt.rowOther {w : World} {g g' : Nat} {v u : Nat → Int} (h : InsAt w g v) (hg : g ≠ g') : InsAt (w.setRow g' (ic u)) g v := by
  unfold InsAt; rw [setRow_other _ _ _ _ hg]; exact h
/-- the two instructions, compared -/
def sameI (u v : Nat → Int) : Bool := u 0 == v 0 && (u 1 == v 1 && (u 2 == v 2 && (u 3 == v 3 && u 4 == v 4)))
set_option maxRecDepth 100000 in
set_option maxHeartbeats 1000000 in
theorem isa_Right (v : Nat → Int) (w : World) :
    Calls Try.prog 44 #[vI v] w fun e w' => e = .returned (.bool (okI v)) ∧ Below w.heap.size w w' := by
  have HK := Lib.hid fun w => isa_known (v 0) w
  by_cases hk : 1 ≤ v 0 ∧ v 0 ≤ 17
  · obtain ⟨o, ho⟩ : ∃ o : Nat, v 0 = (o : Int) := ⟨(v 0).toNat, by omega⟩
    have hidx : ∀ w : World, (Instr.index 122 (.agg formsC) (.int .i64 (v 0))).run Try.prog w = .ok (.agg #[.string (bsT (wrd o)), .string (bsT (letr o))]) w := by rw [ho]; exact fun w => forms_at o (by omega) (by omega) w
    have hfld := fun w => field_form (bsT (wrd o)) (bsT (letr o)) w
    have hkn : (decide (1 ≤ v 0) && decide (v 0 ≤ 17)) = true := by simp [hk]
    have Ho := Lib.hid ho
    clear ho
    rw [hkn] at HK
    go_enter Try.func44, Try.ntmps44
    repeat' (first | go_values | go_skip | go_guarded | go_step | go_upon)
    refine Calls.mono (HK.out _) ?_
    rintro _ w1 ⟨rfl, rfl⟩
    dsimp only
    repeat' (first | go_values | go_skip | go_guarded | go_step | go_upon)
    obtain ⟨wr, hwr⟩ : ∃ wr, wr = (w.alloc (.cells (ic v) 85)).alloc (.cells (ic (bar v [])) 85) := ⟨_, rfl⟩
    have e0 : ic (bar v []) = #[.int .i64 (v 0), .int .i64 0, .int .i64 0, .int .i64 0, .int .i64 0] := by unfold ic; rw [bar_nil0, bar_nil v (by decide), bar_nil v (by decide), bar_nil v (by decide), bar_nil v (by decide)]
    have H0 : Hid (InsAt wr w.heap.size v) := Lib.hid (by rw [hwr]; exact (InsAt.new w v).keep ((Below.refl _ _).alloc (Nat.le_refl _) _))
    have H1 : Hid (InsAt wr (w.heap.size + 1) (bar v [])) := Lib.hid (by rw [hwr]; have := InsAt.new (w.alloc (.cells (ic v) 85)) (bar v []); rwa [World.size_alloc] at this)
    have Hb : Hid (Below w.heap.size w wr) := Lib.hid (by rw [hwr]; exact ((Below.refl _ _).alloc (Nat.le_refl _) _).alloc (by simp) _)
    have hsz : wr.heap.size = w.heap.size + 2 := by rw [hwr]; simp
    rw [e0] at hwr
    rw [← hwr]
    clear hwr e0
    have q0 : ∀ nq : WB wr, ∀ k, k < 5 → nq.1.cell? ⟨w.heap.size, k, none⟩ = some (.int .i64 (v k)) := fun nq => (H0.out.keep nq.2).cell
    refine wp_region_tail 5 (by kernel_rfl) (by kernel_rfl) wr (Below.refl _ _) ?_
    simp only [List.take_succ_cons, List.take_zero, List.drop_succ_cons, List.drop_zero]
    repeat (go_big_quiet_step ((go_at_call 67; exact calls_wb (isa_forms _))))
    refine wpQuiet_nil ?_
    rintro _ ⟨nq, rfl⟩
    have hnq := nq.2
    clear q0
    clear hidx hfld
    obtain ⟨wf, hwf⟩ : ∃ wf, wf = nq.1 := ⟨_, rfl⟩
    have H0f : Hid (InsAt wf w.heap.size v) := Lib.hid (by rw [hwf]; exact H0.out.keep hnq)
    have H1f : Hid (InsAt wf (w.heap.size + 1) (bar v [])) := Lib.hid (by rw [hwf]; exact H1.out.keep hnq)
    have Hbf : Hid (Below w.heap.size w wf) := Lib.hid (by rw [hwf]; exact Hb.out.trans (hnq.mono Hb.out.size))
    have hszf : w.heap.size + 2 ≤ wf.heap.size := by have := hnq.size; rw [hwf]; omega
    rw [← hwf]
    clear hwf hnq H0 H1 Hb hsz nq wr
    repeat' (first | go_values | go_skip | go_guarded | go_step | go_upon)
    obtain ⟨kk, hkk⟩ : ∃ kk, kk = wf.heap.size := ⟨_, rfl⟩
    have Hit : Hid ((wf.iter (bsT (letr o)) 0).heap[kk]? = some (Obj.stringIter (bsT (letr o)) 0)) := Lib.hid (by rw [hkk]; exact World.iter_heap _ _ _)
    have Hib : Hid (Below wf.heap.size wf (wf.iter (bsT (letr o)) 0)) := Lib.hid ((Below.refl _ _).alloc (Nat.le_refl _) _)
    rw [← hkk]
    have hkg : w.heap.size + 2 ≤ kk := by omega
    clear hkk
    have hlet := Lib.hid (letr_is o)
    have HokF : Hid (∀ x ∈ letr o, inb v x = false → okI v = false) := Lib.hid fun x hx hi => by
      unfold okI
      have e : (letr (v 0).toNat).all (inb v) = false := by
        rw [Ho.out, Int.toNat_natCast, List.all_eq_false]; exact ⟨x, hx, by rw [hi]; decide⟩
      rw [e]; simp
    have HokT : Hid ((letr o).all (inb v) = true → okI v = sameI (bar v (letr o)) v) := Lib.hid fun h => by
      unfold okI sameI
      rw [hkn, Ho.out, Int.toNat_natCast, h]
      simp [bar, Ho.out]
    generalize letr o = l at *
    go_loopw [5] (fun _ wr => ∃ k : Nat, wr.heap[kk]? = some (Obj.stringIter (bsT l) k) ∧ k ≤ l.length ∧ Hid (InsAt wr w.heap.size v) ∧ Hid (InsAt wr (w.heap.size + 1) (bar v (l.take k))) ∧ Hid ((l.take k).all (inb v) = true) ∧ Hid (Below w.heap.size w wr)) (fun _ wr => l.length - wr.iterPos kk)
    case atStart =>
      exact ⟨0, Hit.out, Nat.zero_le _, Lib.hid (H0f.out.keep Hib.out), Lib.hid (H1f.out.keep Hib.out), Lib.hid rfl, Lib.hid (Hbf.out.trans (Hib.out.mono (by omega)))⟩
    case round =>
      obtain ⟨k, hk0, hkl, G0, G1, Hall, Gb⟩ := hrel
      by_cases hks : k < l.length
      · have hkb : k < (bsT l).size := by rw [bsT_size]; exact hks
        obtain ⟨x, hx⟩ : ∃ x, x = l[k] := ⟨_, rfl⟩
        have hxl : x ∈ l := by rw [hx]; exact List.getElem_mem hks
        have hxi := hlet.out x hxl
        have hx8 : ((bsT l)[k]'hkb).toNat = x := by rw [bsT_get l k hkb hks fun y hy => by have := hlet.out y hy; unfold IsL at this; omega, hx]
        have hnx : ∀ ty, (Instr.next (.pointer (some ⟨kk, 0, none⟩)) true ty).run Try.prog wr = _ := fun ty => Lib.run_next_ascii_at wr kk (bsT l) k ty hk0 hkb (by rw [hx8]; unfold IsL at hxi; omega)
        rw [hx8] at hnx
        have htk : l.take (k + 1) = l.take k ++ [x] := by rw [List.take_succ_eq_append_getElem hks, hx]
        obtain ⟨wi, hwi⟩ : ∃ wi, wi = wr.iterAt kk (bsT l) (k + 1) := ⟨_, rfl⟩
        have Hwk : Hid (wi.heap[kk]? = some (Obj.stringIter (bsT l) (k + 1))) := Lib.hid (by rw [hwi]; exact Lib.iterAt_heap _ _ _ _ _ hk0)
        have K0 : Hid (InsAt wi w.heap.size v) := Lib.hid (by rw [hwi]; exact G0.out.iter hk0 _)
        have K1 : Hid (InsAt wi (w.heap.size + 1) (bar v (l.take k))) := Lib.hid (by rw [hwi]; exact G1.out.iter hk0 _)
        have Kb : Hid (Below w.heap.size w wi) := Lib.hid (by rw [hwi]; exact Lib.below_iterAt Gb.out (by omega) _ _)
        rw [← hwi] at hnx
        have hp0 : wr.iterPos kk = k := iterPos_of hk0
        have HF0 := Lib.hid (isa_field x hxi w.heap.size)
        have HF1 := Lib.hid (isa_field x hxi (w.heap.size + 1))
        obtain ⟨ps, hps⟩ : ∃ ps, ps = pos x := ⟨_, rfl⟩
        have hp1 : ps < 5 := by have := pos_ge x; omega
        obtain ⟨m, hm⟩ : ∃ m, m = mst x := ⟨_, rfl⟩
        rw [← hps, ← hm] at HF0 HF1
        have hcell := K0.out.cell ps hp1
        have hfree := K1.out.free ps
        have hcell1 := K1.out.cell ps hp1
        generalize bar v (l.take k) ps = a1 at hcell1
        obtain ⟨a, ha⟩ : ∃ a, a = v ps := ⟨_, rfl⟩
        rw [← ha] at hcell
        have Hinb : Hid (inb v x = (decide (0 ≤ a) && decide (a ≤ (m : Int)))) := Lib.hid (by unfold inb; rw [← hps, ← hm, ← ha])
        have Hsn : Hid (∀ j, j < 5 → bar v (l.take (k + 1)) j = if j = ps then a else bar v (l.take k) j) := Lib.hid fun j _ => by
          rw [htk, bar_snoc, ← hps]
          split
          · rename_i e; rw [e, ha]
          · rfl
        have Htk := Lib.hid htk
        have Hxl := Lib.hid hxl
        clear hwi htk hps hm ha hx hxl hx8 hkb hk0
        by_cases ha0 : a < 0
        · repeat' (first | go_values | go_skip | go_guarded | go_step | go_upon)
          refine Calls.mono (HF0.out _) ?_
          rintro _ w2 ⟨rfl, rfl⟩
          dsimp only
          repeat' (first | go_values | go_skip | go_guarded | go_step | go_upon)
          go_ret
          exact ⟨ret_b (HokF.out x Hxl.out (by rw [Hinb.out]; simp; omega)).symm, Kb.out⟩
        · by_cases ham : (m : Int) < a
          · repeat' (first | go_values | go_skip | go_guarded | go_step | go_upon)
            refine Calls.mono (HF0.out _) ?_
            rintro _ w2 ⟨rfl, rfl⟩
            dsimp only
            repeat' (first | go_values | go_skip | go_guarded | go_step | go_upon)
            go_ret
            exact ⟨ret_b (HokF.out x Hxl.out (by rw [Hinb.out]; simp; omega)).symm, Kb.out⟩
          · repeat' (first | go_values | go_skip | go_guarded | go_step | go_upon)
            refine Calls.mono (HF0.out _) ?_
            rintro _ w2 ⟨rfl, rfl⟩
            dsimp only
            repeat' (first | go_values | go_skip | go_guarded | go_step | go_upon)
            refine Calls.mono (HF1.out _) ?_
            rintro _ w3 ⟨rfl, rfl⟩
            dsimp only
            repeat' (first | go_values | go_skip | go_guarded | go_step | go_upon)
            go_roundw
            case rel => exact ⟨k + 1, by rw [heap_setCell_other _ _ _ _ (by dsimp only; omega)]; exact Hwk.out, hks, Lib.hid (K0.out.other (by omega)), Lib.hid (K1.out.put ps a hp1 Hsn.out), Lib.hid (by rw [Htk.out, List.all_append, Hall.out]; simp [Hinb.out]; omega), Lib.hid (Kb.out.setCell (by dsimp only; omega) _)⟩
            case measure =>
              have e : (wi.setCell ⟨w.heap.size + 1, ps, none⟩ (.int .i64 a)).iterPos kk = k + 1 := iterPos_of (by rw [heap_setCell_other _ _ _ _ (by dsimp only; omega)]; exact Hwk.out)
              rw [e, hp0]; omega
      · obtain rfl : k = l.length := by omega
        rw [List.take_length] at G1 Hall
        have hnx : ∀ ty, (Instr.next (.pointer (some ⟨kk, 0, none⟩)) true ty).run Try.prog wr = _ := fun ty => Lib.run_next_end_at wr kk (bsT l) l.length ty hk0 (by rw [bsT_size]; omega)
        repeat' (first | (with_reducible refine load_ins G1.out _ rfl rfl ?_) | (with_reducible refine load_ins G0.out _ rfl rfl ?_) | go_values | go_skip | go_guarded | go_step | go_upon)
        all_goals
          go_ret
          exact ⟨ret_b (by rw [HokT.out Hall.out]; unfold sameI; simp [*]), Gb.out⟩
  · have hkn : (decide (1 ≤ v 0) && decide (v 0 ≤ 17)) = false := by simp; omega
    have hok : okI v = false := by unfold okI; rw [hkn]; rfl
    rw [hkn] at HK
    clear hkn hk
    go_enter Try.func44, Try.ntmps44
    repeat' (first | go_values | go_skip | go_guarded | go_step | go_upon)
    refine Calls.mono (HK.out _) ?_
    rintro _ w1 ⟨rfl, rfl⟩
    dsimp only
    repeat' (first | go_values | go_skip | go_guarded | go_step | go_upon)
    go_ret
    exact ⟨ret_b hok.symm, (Below.refl _ _).alloc (Nat.le_refl _) _⟩
end Go.Proofs.Ytkpdcejnanhgoaa
/- Walks: the reference's fields of instructions, by operation. No conditions. -/
namespace Go.Proofs.Ytkpdcejnanhgoaa
open Go.RowKit
end Go.Proofs.Ytkpdcejnanhgoaa
/- Walks: the reference's fields of instructions, and which may be (P21.1). No conditions. -/
namespace Go.Proofs.Ytkpdcejnanhgoaa
open Go.RowKit
theorem InsAt.new1 (w : World) (o : Obj) (u : Nat → Int) : InsAt ((w.alloc o).alloc (.cells (ic u) 85)) (w.heap.size + 1) u := by
  have h := InsAt.new (w.alloc o) u
  rwa [World.size_alloc] at h
end Go.Proofs.Ytkpdcejnanhgoaa
/- Walk: the reference's answer whether an instruction may be (P21.1). No conditions. -/
namespace Go.Proofs.Ytkpdcejnanhgoaa
open Go.RowKit
/-- two instructions in the call's own variables -/
structure In2 (B : Nat) (w0 : World) (v u : Nat → Int) (w : World) : Prop where
  bel : Below B w0 w
  h0 : InsAt w B v
  h1 : InsAt w (B + 1) u
theorem In2.start (w : World) (v : Nat → Int) : In2 w.heap.size w v (bar v []) ((w.alloc (.cells (ic v) 85)).alloc (.cells #[.int .i64 (v 0), .int .i64 0, .int .i64 0, .int .i64 0, .int .i64 0] 85)) := by
  refine ⟨((Below.refl _ _).alloc (Nat.le_refl _) _).alloc (by simp) _, (InsAt.new w v).keep ((Below.refl _ _).alloc (Nat.le_refl _) _), ?_⟩
  have h := InsAt.new1 w (.cells (ic v) 85) (bar v [])
  have e0 : ic (bar v []) = #[.int .i64 (v 0), .int .i64 0, .int .i64 0, .int .i64 0, .int .i64 0] := by unfold ic; rw [bar_nil0, bar_nil v (by decide), bar_nil v (by decide), bar_nil v (by decide), bar_nil v (by decide)]
  rw [e0] at h
  exact h
theorem In2.store {B : Nat} {w0 w : World} {v u u' : Nat → Int} (h : In2 B w0 v u w) : In2 B w0 v u' (w.setRow (B + 1) (ic u')) :=
  ⟨Below.row h.bel (by omega) _, h.h0.rowOther (by omega), h.h1.row⟩
end Go.Proofs.Ytkpdcejnanhgoaa
