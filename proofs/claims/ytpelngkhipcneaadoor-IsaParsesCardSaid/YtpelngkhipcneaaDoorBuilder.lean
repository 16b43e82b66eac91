/- Walks: a strings.Builder of the call's own is written (copyCheck, WriteString) and read (String). Condition: what is held is of at most 2^47 bytes. -/
import Derived.Test.YtpelngkhipcneaaDoorTail
import Derived.Test.YtpelngkhipcneaaDoorProg
import Derived.Test.YtpelngkhipcneaaDoorShelf
import Derived.Lib.Builder
namespace Go.Proofs.YtpelngkhipcneaaDoor
open Go.RowKit
/-- a Builder of the call's own (block g), with the bytes l -/
def Bld (w : World) (B g : Nat) (l : List UInt8) : Prop := Lib.IsBuilder 37 5 B g (Lib.byteCells l) w
theorem bcells_strs (s : ByteArray) : Lib.strCells s = Lib.byteCells s.data.toList := rfl
theorem bcells_append (a b : List UInt8) : Lib.byteCells (a ++ b) = Lib.byteCells a ++ Lib.byteCells b := by simp [Lib.byteCells]
theorem Bld.fresh (w : World) : Bld (w.alloc (.cells #[.pointer none, .slice none 0 0] 37)) w.heap.size w.heap.size [] := Lib.fresh_isBuilder _ _ w
theorem Bld.lt {w : World} {B g : Nat} {l : List UInt8} (h : Bld w B g l) : g < w.heap.size := by
  rcases h with h | h <;> exact h.lt
theorem Bld.base {w : World} {B g : Nat} {l : List UInt8} (h : Bld w B g l) : B ≤ g := by
  rcases h with h | h <;> exact h.1
/-- it stays while only later blocks turn -/
theorem Bld.keep {w w' : World} {B B' g : Nat} {l : List UInt8} (h : Bld w B g l) (hb : Below B' w w') (hB : w.heap.size ≤ B') : Bld w' B g l := by
  have one : ∀ p, Lib.BuilderAt 37 5 B g p (Lib.byteCells l) w → Lib.BuilderAt 37 5 B g p (Lib.byteCells l) w' := by
    rintro p ⟨h1, v, h2, h3, h4⟩
    have hg : g < w.heap.size := (Array.getElem?_eq_some_iff.1 h2).1
    refine ⟨h1, v, by rw [hb.block g (by omega)]; exact h2, ?_, h4⟩
    refine ⟨h3.1, ?_⟩
    rcases h3.2 with h3 | ⟨k, cap, cur, rfl, hk, hh, rest⟩
    · exact .inl h3
    · exact .inr ⟨k, cap, cur, rfl, hk, by rw [hb.block k (by have := (Array.getElem?_eq_some_iff.1 hh).1; omega)]; exact hh, rest⟩
  rcases h with h | h
  · exact .inl (one _ h)
  · exact .inr (one _ h)
/-- nothing turned but the Builder's block, rows of bytes, and new blocks -/
def Apart (b : Nat) (w w' : World) : Prop := w.heap.size ≤ w'.heap.size ∧ ∀ k, k < w.heap.size → k ≠ b → (∀ cs fz, w.heap[k]? ≠ some (.cells cs 5 fz)) → w'.heap[k]? = w.heap[k]?
theorem Apart.row {b : Nat} {w w' : World} (h : Apart b w w') {k : Nat} {cs : Array Value} {t : TypeId} {fz : Nat × Nat} (hk : w.heap[k]? = some (.cells cs t fz)) (ht : t ≠ 5) (hb : k ≠ b) : w'.heap[k]? = some (.cells cs t fz) := by
  rw [h.2 k (Array.getElem?_eq_some_iff.1 hk).1 hb (fun cs' fz' e => by rw [hk] at e; simp at e; exact ht e.2.1)]
  exact hk
theorem size_bld : (Tryd.prog.info? 37).map (fun i => i.size) = some 2 := by kernel_rfl
theorem lies_bld : liesAt Tryd.prog Tryd.prog.depth 37 (2 / Tryd.prog.cellsOf 37) 0 37 1 = true := by kernel_rfl
theorem info_byte : (Tryd.prog.info? 5).map (fun i => (i.zero, i.size, i.bytes)) = some (some (.int .u8 0), 1, 1) := by kernel_rfl
set_option maxHeartbeats 1000000 in
set_option maxRecDepth 100000 in
theorem bld_check (B b : Nat) (bs : List Value) (w : World) (h : Lib.IsBuilder 37 5 B b bs w) :
    Calls Tryd.prog 34 #[.pointer (some ⟨b, 0, none⟩)] w fun e w' => e = .returned (.tuple #[]) ∧ Lib.BuilderAt 37 5 B b (.pointer (some ⟨b, 0, none⟩)) bs w' ∧ Below B w w' ∧ w'.heap.size = w.heap.size ∧ ∀ k, k ≠ b → w'.heap[k]? = w.heap[k]? := by
  obtain ⟨j, hj, hjs⟩ := Option.map_eq_some_iff.1 size_bld
  rcases h with h | h
  · have Hput := Lib.hid (h.used (.pointer (some ⟨b, 0, none⟩)))
    have hB := h.1
    have h0 := h.cell0
    have hsh := h.shape
    have hfz := h.frozen0
    clear h
    go_enter Tryd.func34, Tryd.ntmps34
    repeat' (first | go_values | go_skip | go_guarded | go_step | go_upon)
    rw [Lib.run_to_unsafe w ⟨b, 0, none⟩ Tryd.underlying34 Tryd.underlying76 hj (by rw [hjs]; decide) hsh (Nat.zero_lt_succ 1)]
    simp only [Result.andThen]
    rw [Oper.upon_value]
    repeat' (first | go_values | go_skip | go_guarded | go_step | go_upon)
    rw [run_callFunc_extern Tryd.func45 (by kernel_rfl) (by kernel_rfl) (by kernel_rfl) (e := Extern.AbiNoEscape.same) (by kernel_rfl)]
    rw [Lib.run_noEscape]
    simp only [Result.andThen]
    rw [Oper.upon_value]
    repeat' (first | go_values | go_skip | go_guarded | go_step | go_upon)
    rw [Lib.run_from_unsafe w ⟨b, 0, none⟩ Tryd.underlying76 Tryd.underlying34 hj hsh lies_bld]
    simp only [Result.andThen]
    rw [Oper.upon_value]
    repeat' (first | go_values | go_skip | go_guarded | go_step | go_upon)
    go_end0
    exact ⟨rfl, Hput.out, (Below.refl _ _).setCell (p := ⟨b, 0, none⟩) hB _, by simp [World.setCell], fun k hk => Below.heap_setCell _ _ _ _ (by dsimp only; omega)⟩
  · have H := Lib.hid h
    have h0 := h.cell0
    clear h
    go_enter Tryd.func34, Tryd.ntmps34
    repeat' (first | go_values | go_skip | go_guarded | go_step | go_upon)
    rw [Lib.run_neq_ptr_same w _ Tryd.underlying34 hj]
    repeat' (first | go_values | go_skip | go_guarded | go_step | go_upon)
    go_end0
    exact ⟨rfl, H.out, Below.refl _ _, rfl, fun _ _ => rfl⟩
set_option maxHeartbeats 1000000 in
set_option maxRecDepth 100000 in
theorem bld_WriteString (B b : Nat) (l : List UInt8) (s : ByteArray) (w : World) (h : Bld w B b l) (hlen : l.length + s.size ≤ 140737488355328) (hBw : B ≤ w.heap.size) :
    Calls Tryd.prog 17 #[.pointer (some ⟨b, 0, none⟩), .string s] w fun e w' => e = .returned (.tuple #[.int .i64 s.size, .nilIface]) ∧ Bld w' B b (l ++ s.data.toList) ∧ Below B w w' ∧ Apart b w w' := by
  obtain ⟨i0, hi, hz0, hz1, hz2⟩ := info_parts info_byte
  have hlb := Lib.byteCells_length l
  have Hc := Lib.hid (bld_check B b (Lib.byteCells l) w h)
  have Hll := Lib.hid hlb
  clear h hlb
  go_enter Tryd.func17, Tryd.ntmps17
  repeat' (first | go_values | go_skip | go_guarded | go_step | go_upon)
  refine Calls.mono (Hc.out) ?_
  rintro _ w1 ⟨rfl, h1, hb1, hsz1, hap1⟩
  dsimp only
  have Hap1 := Lib.hid hap1
  have Hsz1 := Lib.hid hsz1
  clear hap1 hsz1
  obtain ⟨hB, v, hbk, hown, hne⟩ := h1
  have c0 : w1.cell? ⟨b, 0, none⟩ = some (.pointer (some ⟨b, 0, none⟩)) := by rw [Lib.cell_of_heap hbk]; rfl
  have c1 : w1.cell? ⟨b, 1, none⟩ = some v := by rw [Lib.cell_of_heap hbk]; rfl
  have Hbk := Lib.hid hbk
  clear hbk
  repeat' (first | (at_builtin; refine Lib.wpList_append_own_string _ rfl _ _ 35 9 rfl B 5 i0 Tryd.underlying35 Tryd.underlying9 hi hz0 hz1 hz2 _ _ _ rfl hown s rfl ?c3 ?c4 ?c5 ?_) | go_values | go_skip | go_guarded | go_step | go_upon)
  case c3 => rw [Hll.out]; unfold maxLen; omega
  case c4 => rw [Hll.out]; omega
  case c5 => have := hb1.size; omega
  intro v' w2 hown' hgrow0 _
  have hgrow : w1.grownBy w2 v.ownBlock := hgrow0
  clear hgrow0
  have hlt : b < w1.heap.size := (Array.getElem?_eq_some_iff.1 Hbk.out).1
  have hb2 : w2.heap[b]? = some (.cells #[.pointer (some ⟨b, 0, none⟩), v] 37 (0, 0)) := by
    rw [hgrow.block b hlt (fun e => hne e.symm)]
    exact Hbk.out
  have d1 : w2.cell? ⟨b, 1, none⟩ = some v := by rw [Lib.cell_of_heap hb2]; rfl
  have f1 : w2.frozen? ⟨b, 1, none⟩ = false := Lib.frozen_of_heap hb2 1
  have Hput : Hid (Bld (w2.setCell ⟨b, 1, none⟩ v') B b (l ++ s.data.toList)) := Lib.hid (.inr (by
    rw [bcells_append, ← bcells_strs]
    exact Lib.BuilderAt.put (T := 37) (e := 5) hB hb2 (bs' := Lib.byteCells l ++ Lib.strCells s) (by simpa [Lib.strCells_length] using hown') (by decide)))
  have Hbel : Hid (Below B w (w2.setCell ⟨b, 1, none⟩ v')) := Lib.hid ((hb1.grown hgrow (by have := hb1.size; omega) (fun k hk => (hown.lt k hk).1)).setCell (p := ⟨b, 1, none⟩) hB _)
  have Hap : Hid (Apart b w (w2.setCell ⟨b, 1, none⟩ v')) := Lib.hid (by
    refine ⟨by have := hgrow.size; have := Hsz1.out; simp [World.setCell]; omega, fun k hk hkb hne' => ?_⟩
    rw [show (w2.setCell ⟨b, 1, none⟩ v').heap[k]? = w2.heap[k]? from Below.heap_setCell _ _ _ _ (by dsimp only; omega)]
    rw [hgrow.block k (by rw [Hsz1.out]; exact hk) (fun e => ?_), Hap1.out k hkb]
    rcases hown.2 with ⟨hv, _⟩ | ⟨g, cap, cur, hv, _, hg, _⟩
    · rw [hv] at e; simp [Value.ownBlock] at e
    · rw [hv] at e
      simp only [Value.ownBlock, Option.some.injEq] at e
      subst e
      rw [Hap1.out _ hkb] at hg
      exact hne' _ _ hg)
  obtain ⟨ao, n', cap, rfl⟩ : ∃ ao n' cap, v' = .slice ao n' cap := by
    rcases hown'.2 with ⟨hv, _⟩ | ⟨g, cap, cur, hv, _⟩
    · exact ⟨_, _, _, hv⟩
    · exact ⟨_, _, _, hv⟩
  clear hown' hgrow hown hb1 hb2
  repeat' (first | go_values | go_skip | go_guarded | go_step | go_upon)
  go_ret2
  exact ⟨rfl, Hput.out, Hbel.out, Hap.out⟩
theorem bld_String (B b : Nat) (l : List UInt8) (w : World) (h : Bld w B b l) (hBw : B ≤ w.heap.size) :
    Calls Tryd.prog 21 #[.pointer (some ⟨b, 0, none⟩)] w fun e w' => e = .returned (.string ⟨l.toArray⟩) ∧ Below B w w' := Tryd.Builder_String_any B b l w h hBw
end Go.Proofs.YtpelngkhipcneaaDoor
