/- Walks: a strings.Builder of the call's own is written (copyCheck, WriteString) and read (String). Condition: what is held is of at most 2^47 bytes. -/
import Derived.Test.YtbomloodllddaaaPk05
import Derived.Test.YtbomloodllddaaaProg
import Derived.Test.YtbomloodllddaaaPk11
import Derived.Lib.Builder
namespace Go.Proofs.Ytbomloodllddaaa
open Go.RowKit
/-- a Builder of the call's own (block g), with the bytes l -/
def Bld (w : World) (B g : Nat) (l : List UInt8) : Prop := Lib.IsBuilder 60 5 B g (Lib.byteCells l) w
theorem bcells_strs (s : ByteArray) : Lib.strCells s = Lib.byteCells s.data.toList := rfl
theorem bcells_append (a b : List UInt8) : Lib.byteCells (a ++ b) = Lib.byteCells a ++ Lib.byteCells b := by simp [Lib.byteCells]
theorem Bld.fresh (w : World) : Bld (w.alloc (.cells #[.pointer none, .slice none 0 0] 60)) w.heap.size w.heap.size [] := Lib.fresh_isBuilder _ _ w
theorem Bld.lt {w : World} {B g : Nat} {l : List UInt8} (h : Bld w B g l) : g < w.heap.size := by
  rcases h with h | h <;> exact h.lt
theorem Bld.base {w : World} {B g : Nat} {l : List UInt8} (h : Bld w B g l) : B ≤ g := by
  rcases h with h | h <;> exact h.1
/-- it stays while only later blocks turn -/
theorem Bld.keep {w w' : World} {B B' g : Nat} {l : List UInt8} (h : Bld w B g l) (hb : Below B' w w') (hB : w.heap.size ≤ B') : Bld w' B g l := by
  have one : ∀ p, Lib.BuilderAt 60 5 B g p (Lib.byteCells l) w → Lib.BuilderAt 60 5 B g p (Lib.byteCells l) w' := by
    rintro p ⟨h1, v, h2, h3, h4⟩
    have hg : g < w.heap.size := (Array.getElem?_eq_some_iff.1 h2).1
    refine ⟨h1, v, by rw [hb.block g (by omega)]; exact h2, ?_, h4⟩
    refine ⟨h3.1, ?_⟩
    rcases h3.2 with h3 | ⟨k, cap, cur, rfl, hk, hh, rest⟩
    · exact .inl h3
    · exact .inr ⟨k, cap, cur, rfl, hk, by rw [hb.block k (by have := (Array.getElem?_eq_some_iff.1 hh).1; omega)]; exact hh, rest⟩
  rcases h with h | h
  · exact .inl (one _ h)
  · exact .inr (one _ h)
/-- nothing turned but the Builder's block, rows of bytes, and new blocks -/
def Apart (b : Nat) (w w' : World) : Prop := w.heap.size ≤ w'.heap.size ∧ ∀ k, k < w.heap.size → k ≠ b → (∀ cs fz, w.heap[k]? ≠ some (.cells cs 5 fz)) → w'.heap[k]? = w.heap[k]?
theorem Apart.row {b : Nat} {w w' : World} (h : Apart b w w') {k : Nat} {cs : Array Value} {t : TypeId} {fz : Nat × Nat} (hk : w.heap[k]? = some (.cells cs t fz)) (ht : t ≠ 5) (hb : k ≠ b) : w'.heap[k]? = some (.cells cs t fz) := by
  rw [h.2 k (Array.getElem?_eq_some_iff.1 hk).1 hb (fun cs' fz' e => by rw [hk] at e; simp at e; exact ht e.2.1)]
  exact hk
theorem size_bld : (Try.prog.info? 60).map (fun i => i.size) = some 2 := by kernel_rfl
theorem lies_bld : liesAt Try.prog Try.prog.depth 60 (2 / Try.prog.cellsOf 60) 0 60 1 = true := by kernel_rfl
theorem info_byte : (Try.prog.info? 5).map (fun i => (i.zero, i.size, i.bytes)) = some (some (.int .u8 0), 1, 1) := by kernel_rfl
set_option maxHeartbeats 1000000 in
set_option maxRecDepth 100000 in
theorem bld_check (B b : Nat) (bs : List Value) (w : World) (h : Lib.IsBuilder 60 5 B b bs w) :
    Calls Try.prog 65 #[.pointer (some ⟨b, 0, none⟩)] w fun e w' => e = .returned (.tuple #[]) ∧ Lib.BuilderAt 60 5 B b (.pointer (some ⟨b, 0, none⟩)) bs w' ∧ Below B w w' ∧ w'.heap.size = w.heap.size ∧ ∀ k, k ≠ b → w'.heap[k]? = w.heap[k]? := by
  obtain ⟨j, hj, hjs⟩ := Option.map_eq_some_iff.1 size_bld
  rcases h with h | h
  · have Hput := Lib.hid (h.used (.pointer (some ⟨b, 0, none⟩)))
    have hB := h.1
    have h0 := h.cell0
    have hsh := h.shape
    have hfz := h.frozen0
    clear h
    go_enter Try.func65, Try.ntmps65
    repeat' (first | go_values | go_skip | go_guarded | go_step | go_upon)
    rw [Lib.run_to_unsafe w ⟨b, 0, none⟩ Try.underlying57 Try.underlying158 hj (by rw [hjs]; decide) hsh (Nat.zero_lt_succ 1)]
    simp only [Result.andThen]
    rw [Oper.upon_value]
    repeat' (first | go_values | go_skip | go_guarded | go_step | go_upon)
    rw [run_callFunc_extern Try.func102 (by kernel_rfl) (by kernel_rfl) (by kernel_rfl) (e := Extern.AbiNoEscape.same) (by kernel_rfl)]
    rw [Lib.run_noEscape]
    simp only [Result.andThen]
    rw [Oper.upon_value]
    repeat' (first | go_values | go_skip | go_guarded | go_step | go_upon)
    rw [Lib.run_from_unsafe w ⟨b, 0, none⟩ Try.underlying158 Try.underlying57 hj hsh lies_bld]
    simp only [Result.andThen]
    rw [Oper.upon_value]
    repeat' (first | go_values | go_skip | go_guarded | go_step | go_upon)
    go_end0
    exact ⟨rfl, Hput.out, (Below.refl _ _).setCell (p := ⟨b, 0, none⟩) hB _, by simp [World.setCell], fun k hk => Below.heap_setCell _ _ _ _ (by dsimp only; omega)⟩
  · have H := Lib.hid h
    have h0 := h.cell0
    clear h
    go_enter Try.func65, Try.ntmps65
    repeat' (first | go_values | go_skip | go_guarded | go_step | go_upon)
    rw [Lib.run_neq_ptr_same w _ Try.underlying57 hj]
    repeat' (first | go_values | go_skip | go_guarded | go_step | go_upon)
    go_end0
    exact ⟨rfl, H.out, Below.refl _ _, rfl, fun _ _ => rfl⟩
set_option maxHeartbeats 1000000 in
set_option maxRecDepth 100000 in
theorem bld_WriteString (B b : Nat) (l : List UInt8) (s : ByteArray) (w : World) (h : Bld w B b l) (hlen : l.length + s.size ≤ 140737488355328) (hBw : B ≤ w.heap.size) :
    Calls Try.prog 24 #[.pointer (some ⟨b, 0, none⟩), .string s] w fun e w' => e = .returned (.tuple #[.int .i64 s.size, .nilIface]) ∧ Bld w' B b (l ++ s.data.toList) ∧ Below B w w' ∧ Apart b w w' := by
  obtain ⟨i0, hi, hz0, hz1, hz2⟩ := info_parts info_byte
  have hlb := Lib.byteCells_length l
  have Hc := Lib.hid (bld_check B b (Lib.byteCells l) w h)
  have Hll := Lib.hid hlb
  clear h hlb
  go_enter Try.func24, Try.ntmps24
  repeat' (first | go_values | go_skip | go_guarded | go_step | go_upon)
  refine Calls.mono (Hc.out) ?_
  rintro _ w1 ⟨rfl, h1, hb1, hsz1, hap1⟩
  dsimp only
  have Hap1 := Lib.hid hap1
  have Hsz1 := Lib.hid hsz1
  clear hap1 hsz1
  obtain ⟨hB, v, hbk, hown, hne⟩ := h1
  have c0 : w1.cell? ⟨b, 0, none⟩ = some (.pointer (some ⟨b, 0, none⟩)) := by rw [Lib.cell_of_heap hbk]; rfl
  have c1 : w1.cell? ⟨b, 1, none⟩ = some v := by rw [Lib.cell_of_heap hbk]; rfl
  have Hbk := Lib.hid hbk
  clear hbk
  repeat' (first | (at_builtin; refine Lib.wpList_append_own_string _ rfl _ _ 58 9 rfl B 5 i0 Try.underlying58 Try.underlying9 hi hz0 hz1 hz2 _ _ _ rfl hown s rfl ?c3 ?c4 ?c5 ?_) | go_values | go_skip | go_guarded | go_step | go_upon)
  case c3 => rw [Hll.out]; unfold maxLen; omega
  case c4 => rw [Hll.out]; omega
  case c5 => have := hb1.size; omega
  intro v' w2 hown' hgrow0 _
  have hgrow : w1.grownBy w2 v.ownBlock := hgrow0
  clear hgrow0
  have hlt : b < w1.heap.size := (Array.getElem?_eq_some_iff.1 Hbk.out).1
  have hb2 : w2.heap[b]? = some (.cells #[.pointer (some ⟨b, 0, none⟩), v] 60 (0, 0)) := by
    rw [hgrow.block b hlt (fun e => hne e.symm)]
    exact Hbk.out
  have d1 : w2.cell? ⟨b, 1, none⟩ = some v := by rw [Lib.cell_of_heap hb2]; rfl
  have f1 : w2.frozen? ⟨b, 1, none⟩ = false := Lib.frozen_of_heap hb2 1
  have Hput : Hid (Bld (w2.setCell ⟨b, 1, none⟩ v') B b (l ++ s.data.toList)) := Lib.hid (.inr (by
    rw [bcells_append, ← bcells_strs]
    exact Lib.BuilderAt.put (T := 60) (e := 5) hB hb2 (bs' := Lib.byteCells l ++ Lib.strCells s) (by simpa [Lib.strCells_length] using hown') (by decide)))
  have Hbel : Hid (Below B w (w2.setCell ⟨b, 1, none⟩ v')) := Lib.hid ((hb1.grown hgrow (by have := hb1.size; omega) (fun k hk => (hown.lt k hk).1)).setCell (p := ⟨b, 1, none⟩) hB _)
  have Hap : Hid (Apart b w (w2.setCell ⟨b, 1, none⟩ v')) := Lib.hid (by
    refine ⟨by have := hgrow.size; have := Hsz1.out; simp [World.setCell]; omega, fun k hk hkb hne' => ?_⟩
    rw [show (w2.setCell ⟨b, 1, none⟩ v').heap[k]? = w2.heap[k]? from Below.heap_setCell _ _ _ _ (by dsimp only; omega)]
    rw [hgrow.block k (by rw [Hsz1.out]; exact hk) (fun e => ?_), Hap1.out k hkb]
    rcases hown.2 with ⟨hv, _⟩ | ⟨g, cap, cur, hv, _, hg, _⟩
    · rw [hv] at e; simp [Value.ownBlock] at e
    · rw [hv] at e
      simp only [Value.ownBlock, Option.some.injEq] at e
      subst e
      rw [Hap1.out _ hkb] at hg
      exact hne' _ _ hg)
  obtain ⟨ao, n', cap, rfl⟩ : ∃ ao n' cap, v' = .slice ao n' cap := by
    rcases hown'.2 with ⟨hv, _⟩ | ⟨g, cap, cur, hv, _⟩
    · exact ⟨_, _, _, hv⟩
    · exact ⟨_, _, _, hv⟩
  clear hown' hgrow hown hb1 hb2
  repeat' (first | go_values | go_skip | go_guarded | go_step | go_upon)
  go_ret2
  exact ⟨rfl, Hput.out, Hbel.out, Hap.out⟩
theorem bld_String (B b : Nat) (l : List UInt8) (w : World) (h : Bld w B b l) (hBw : B ≤ w.heap.size) :
    Calls Try.prog 29 #[.pointer (some ⟨b, 0, none⟩)] w fun e w' => e = .returned (.string ⟨l.toArray⟩) ∧ Below B w w' := Try.Builder_String_any B b l w h hBw
end Go.Proofs.Ytbomloodllddaaa
/- Walks: a second strings.Builder in a variable, whose bytes lie behind all that was there (WriteString). Condition: what is held is of at most 2^47 bytes. -/
namespace Go.Proofs.Ytbomloodllddaaa
open Go.RowKit
/-- a Builder in a variable (block b), its bytes in blocks from C on -/
def Bl2 (w : World) (C b : Nat) (l : List UInt8) : Prop :=
  ∃ p v, (p = .pointer none ∨ p = .pointer (some ⟨b, 0, none⟩)) ∧ w.heap[b]? = some (.cells #[p, v] 60 (0, 0)) ∧ w.ownsRow C 5 1 v l.length (Lib.byteCells l)
theorem owns_base {w : World} {C B : Nat} {e : TypeId} {v : Value} {n : Nat} {xs : List Value} (h : w.ownsRow C e 1 v n xs) (hB : B ≤ C) : w.ownsRow B e 1 v n xs := by
  refine ⟨h.1, ?_⟩
  rcases h.2 with h2 | ⟨g, cap, cur, rfl, hb, rest⟩
  · exact .inl h2
  · exact .inr ⟨g, cap, cur, rfl, Nat.le_trans hB hb, rest⟩
/-- only block g turns, and blocks from C on -/
structure ElseC (C g : Nat) (w w' : World) : Prop where
  os : w'.os = w.os
  tape : w'.tape = w.tape
  output : w'.output = w.output
  size : w.heap.size ≤ w'.heap.size
  block : ∀ k, k < C → k ≠ g → w'.heap[k]? = w.heap[k]?
theorem ElseC.refl (C g : Nat) (w : World) : ElseC C g w w := ⟨rfl, rfl, rfl, Nat.le_refl _, fun _ _ _ => rfl⟩
theorem ElseC.trans {C g : Nat} {w w' w'' : World} (h : ElseC C g w w') (h' : ElseC C g w' w'') : ElseC C g w w'' :=
  ⟨h'.os.trans h.os, h'.tape.trans h.tape, h'.output.trans h.output, Nat.le_trans h.size h'.size, fun k hk hg => (h'.block k hk hg).trans (h.block k hk hg)⟩
theorem ElseC.of_below {C g : Nat} {w w' : World} (h : Below C w w') : ElseC C g w w' := ⟨h.os, h.tape, h.output, h.size, fun k hk _ => h.block k hk⟩
theorem ElseC.below {B C g : Nat} {w w' : World} (h : ElseC C g w w') (hB : B ≤ C) (hg : B ≤ g) : Below B w w' := ⟨h.os, h.tape, h.output, h.size, fun k hk => h.block k (by omega) (by omega)⟩
theorem Bl2.lt {w : World} {C b : Nat} {l : List UInt8} (h : Bl2 w C b l) : b < w.heap.size := by
  obtain ⟨p, v, _, hb, _⟩ := h
  exact (Array.getElem?_eq_some_iff.1 hb).1
theorem Bl2.of_fresh {w : World} {b : Nat} (C : Nat) (h : w.heap[b]? = some (.cells #[.pointer none, .slice none 0 0] 60 (0, 0))) : Bl2 w C b [] :=
  ⟨_, _, .inl rfl, h, World.ownsRow_nil _ _ _ _⟩
theorem Bl2.keep {w w' : World} {C B b : Nat} {l : List UInt8} (h : Bl2 w C b l) (hb : Below B w w') (hB : w.heap.size ≤ B) : Bl2 w' C b l := by
  obtain ⟨p, v, hp, hc, ho⟩ := h
  have hlt : b < w.heap.size := (Array.getElem?_eq_some_iff.1 hc).1
  refine ⟨p, v, hp, by rw [hb.block b (by omega)]; exact hc, ho.1, ?_⟩
  rcases ho.2 with h3 | ⟨k, cap, cur, rfl, hk, hh, rest⟩
  · exact .inl h3
  · exact .inr ⟨k, cap, cur, rfl, hk, by rw [hb.block k (by have := (Array.getElem?_eq_some_iff.1 hh).1; omega)]; exact hh, rest⟩
theorem Bl2.bld {w : World} {B C b : Nat} {l : List UInt8} (h : Bl2 w C b l) (hB : B ≤ b) (hC : B ≤ C) : Bld w B b l := by
  obtain ⟨p, v, hp, hc, ho⟩ := h
  have hne : v.ownBlock ≠ some b := Lib.ownBlock_ne ho hc (by decide)
  rcases hp with rfl | rfl
  · exact .inl ⟨hB, v, hc, by rw [Lib.byteCells_length]; exact owns_base ho hC, hne⟩
  · exact .inr ⟨hB, v, hc, by rw [Lib.byteCells_length]; exact owns_base ho hC, hne⟩
set_option maxHeartbeats 1000000 in
set_option maxRecDepth 100000 in
theorem bl2_check (b : Nat) (p v : Value) (w : World) (hp : p = .pointer none ∨ p = .pointer (some ⟨b, 0, none⟩)) (h : w.heap[b]? = some (.cells #[p, v] 60 (0, 0))) :
    Calls Try.prog 65 #[.pointer (some ⟨b, 0, none⟩)] w fun e w' => e = .returned (.tuple #[]) ∧ w'.heap[b]? = some (.cells #[.pointer (some ⟨b, 0, none⟩), v] 60 (0, 0)) ∧ w.grownBy w' (some b) ∧ w'.heap.size = w.heap.size := by
  obtain ⟨j, hj, hjs⟩ := Option.map_eq_some_iff.1 size_bld
  have h0 : w.cell? ⟨b, 0, none⟩ = some p := by rw [Lib.cell_of_heap h]; rfl
  rcases hp with rfl | rfl
  · have hsh : w.shape? b = some (60, 2) := by simp [World.shape?, h]
    have hfz := Lib.frozen_of_heap h 0
    have H := Lib.hid h
    clear h
    go_enter Try.func65, Try.ntmps65
    repeat' (first | go_values | go_skip | go_guarded | go_step | go_upon)
    rw [Lib.run_to_unsafe w ⟨b, 0, none⟩ Try.underlying57 Try.underlying158 hj (by rw [hjs]; decide) hsh (Nat.zero_lt_succ 1)]
    simp only [Result.andThen]
    rw [Oper.upon_value]
    repeat' (first | go_values | go_skip | go_guarded | go_step | go_upon)
    rw [run_callFunc_extern Try.func102 (by kernel_rfl) (by kernel_rfl) (by kernel_rfl) (e := Extern.AbiNoEscape.same) (by kernel_rfl)]
    rw [Lib.run_noEscape]
    simp only [Result.andThen]
    rw [Oper.upon_value]
    repeat' (first | go_values | go_skip | go_guarded | go_step | go_upon)
    rw [Lib.run_from_unsafe w ⟨b, 0, none⟩ Try.underlying158 Try.underlying57 hj hsh lies_bld]
    simp only [Result.andThen]
    rw [Oper.upon_value]
    repeat' (first | go_values | go_skip | go_guarded | go_step | go_upon)
    go_end0
    refine ⟨rfl, ?_, ⟨rfl, rfl, rfl, by simp [World.setCell], fun k _ hk => Below.heap_setCell _ _ _ _ (fun e => hk (by simp [e]))⟩, by simp [World.setCell]⟩
    simp [World.setCell, Array.getElem?_modify, H.out]
  · have H := Lib.hid h
    clear h
    go_enter Try.func65, Try.ntmps65
    repeat' (first | go_values | go_skip | go_guarded | go_step | go_upon)
    rw [Lib.run_neq_ptr_same w _ Try.underlying57 hj]
    repeat' (first | go_values | go_skip | go_guarded | go_step | go_upon)
    go_end0
    exact ⟨rfl, H.out, ⟨rfl, rfl, rfl, Nat.le_refl _, fun _ _ _ => rfl⟩, rfl⟩
set_option maxHeartbeats 1000000 in
set_option maxRecDepth 100000 in
theorem bl2_WriteString (C b : Nat) (l : List UInt8) (s : ByteArray) (w : World) (h : Bl2 w C b l) (hlen : l.length + s.size ≤ 140737488355328) (hC : C ≤ w.heap.size) :
    Calls Try.prog 24 #[.pointer (some ⟨b, 0, none⟩), .string s] w fun e w' => e = .returned (.tuple #[.int .i64 s.size, .nilIface]) ∧ Bl2 w' C b (l ++ s.data.toList) ∧ ElseC C b w w' := by
  obtain ⟨i0, hi, hz0, hz1, hz2⟩ := info_parts info_byte
  have hlb := Lib.byteCells_length l
  obtain ⟨p, v, hp, hc, ho⟩ := h
  have Hc := Lib.hid (bl2_check b p v w hp hc)
  have Hll := Lib.hid hlb
  have hne : v.ownBlock ≠ some b := Lib.ownBlock_ne ho hc (by decide)
  have Hne := Lib.hid hne
  have Ho := Lib.hid ho
  have hlt : b < w.heap.size := (Array.getElem?_eq_some_iff.1 hc).1
  clear hp hc hne ho hlb
  go_enter Try.func24, Try.ntmps24
  repeat' (first | go_values | go_skip | go_guarded | go_step | go_upon)
  refine Calls.mono (Hc.out) ?_
  rintro _ w1 ⟨rfl, h1, hg1, hsz1⟩
  dsimp only
  have Hg1 := Lib.hid hg1
  have Hsz1 := Lib.hid hsz1
  have hown : w1.ownsRow C 5 1 v (Lib.byteCells l).length (Lib.byteCells l) := by rw [Hll.out]; exact Ho.out.kept hg1 (.inr Hne.out)
  have c0 : w1.cell? ⟨b, 0, none⟩ = some (.pointer (some ⟨b, 0, none⟩)) := by rw [Lib.cell_of_heap h1]; rfl
  have c1 : w1.cell? ⟨b, 1, none⟩ = some v := by rw [Lib.cell_of_heap h1]; rfl
  have Hbk := Lib.hid h1
  clear h1 hg1 hsz1
  repeat' (first | (at_builtin; refine Lib.wpList_append_own_string _ rfl _ _ 58 9 rfl C 5 i0 Try.underlying58 Try.underlying9 hi hz0 hz1 hz2 _ _ _ rfl hown s rfl ?c3 ?c4 ?c5 ?_) | go_values | go_skip | go_guarded | go_step | go_upon)
  case c3 => rw [Hll.out]; unfold maxLen; omega
  case c4 => rw [Hll.out]; omega
  case c5 => rw [Hsz1.out]; exact hC
  intro v' w2 hown' hgrow0 _
  have hgrow : w1.grownBy w2 v.ownBlock := hgrow0
  clear hgrow0
  have hlt1 : b < w1.heap.size := by rw [Hsz1.out]; exact hlt
  have hb2 : w2.heap[b]? = some (.cells #[.pointer (some ⟨b, 0, none⟩), v] 60 (0, 0)) := by
    rw [hgrow.block b hlt1 (fun e => Hne.out e.symm)]
    exact Hbk.out
  have d1 : w2.cell? ⟨b, 1, none⟩ = some v := by rw [Lib.cell_of_heap hb2]; rfl
  have f1 : w2.frozen? ⟨b, 1, none⟩ = false := Lib.frozen_of_heap hb2 1
  have Hput : Hid (Bl2 (w2.setCell ⟨b, 1, none⟩ v') C b (l ++ s.data.toList)) := Lib.hid (by
    have hown2 : w2.ownsRow C 5 1 v' (l ++ s.data.toList).length (Lib.byteCells (l ++ s.data.toList)) := by
      rw [bcells_append, ← bcells_strs]
      have e : (l ++ s.data.toList).length = (Lib.byteCells l).length + s.size := by rw [Lib.byteCells_length, List.length_append, ba_len]
      rw [e]
      simpa [Lib.strCells_length] using hown'
    refine ⟨_, v', .inr rfl, ?_, hown2.kept (row := some b) ⟨rfl, rfl, rfl, by simp [World.setCell], fun k _ hk => Below.heap_setCell _ _ _ _ (fun e => hk (by simp [e]))⟩ (.inr (Lib.ownBlock_ne hown2 hb2 (by decide)))⟩
    simp [World.setCell, Array.getElem?_modify, hb2])
  have Hel : Hid (ElseC C b w (w2.setCell ⟨b, 1, none⟩ v')) := Lib.hid (by
    refine ⟨by have := hgrow.os; have := Hg1.out.os; simp_all [World.setCell], by have := hgrow.tape; have := Hg1.out.tape; simp_all [World.setCell], by have := hgrow.output; have := Hg1.out.output; simp_all [World.setCell], by have := hgrow.size; have := Hsz1.out; simp [World.setCell]; omega, fun k hk hkb => ?_⟩
    rw [show (w2.setCell ⟨b, 1, none⟩ v').heap[k]? = w2.heap[k]? from Below.heap_setCell _ _ _ _ (by dsimp only; omega)]
    rw [hgrow.block k (by rw [Hsz1.out]; omega) (fun e => ?_), Hg1.out.block k (by omega) (by simpa using hkb)]
    have := (hown.lt k e.symm).1
    omega)
  obtain ⟨ao, n', cap, rfl⟩ : ∃ ao n' cap, v' = .slice ao n' cap := by
    rcases hown'.2 with ⟨hv, _⟩ | ⟨g, cap, cur, hv, _⟩
    · exact ⟨_, _, _, hv⟩
    · exact ⟨_, _, _, hv⟩
  clear hown' hgrow hown hb2
  repeat' (first | go_values | go_skip | go_guarded | go_step | go_upon)
  go_ret2
  exact ⟨rfl, Hput.out, Hel.out⟩
end Go.Proofs.Ytbomloodllddaaa
/- Walk: (*strings.Builder).String of a Builder that holds at least one byte, and that only the block of its bytes turns. -/
namespace Go.Proofs.Ytbomloodllddaaa
open Go.RowKit
/-- only block r turns -/
structure OneB (r : Nat) (w w' : World) : Prop where
  os : w'.os = w.os
  tape : w'.tape = w.tape
  output : w'.output = w.output
  size : w'.heap.size = w.heap.size
  block : ∀ k, k ≠ r → w'.heap[k]? = w.heap[k]?
theorem OneB.freeze (w : World) (g n : Nat) : OneB g w (w.freeze ⟨g, 0, none⟩ n) := by
  unfold World.freeze
  split
  · exact ⟨rfl, rfl, rfl, rfl, fun _ _ => rfl⟩
  · exact ⟨rfl, rfl, rfl, by simp, fun k hk => by
      simp only [Array.getElem?_modify]
      rw [if_neg (by omega)]⟩
theorem OneB.drew {g : Nat} {w w' : World} (h : OneB g w.drew w') : OneB g w w' := ⟨h.os, h.tape, h.output, h.size, h.block⟩
theorem OneB.below {r B : Nat} {w w' : World} (h : OneB r w w') (hB : B ≤ r) : Below B w w' := ⟨h.os, h.tape, h.output, by rw [h.size]; exact Nat.le_refl _, fun k hk => h.block k (by omega)⟩
/-- a Builder's bytes lie in block r -/
def InB (w : World) (b r : Nat) (l : List UInt8) : Prop :=
  ∃ p cap cur, w.heap[b]? = some (.cells #[p, .slice (some ⟨r, 0, none⟩) l.length cap] 60 (0, 0)) ∧ w.heap[r]? = some (.cells cur 5 (0, 0)) ∧ l.length ≤ cap ∧ cap ≤ maxLen ∧ cur.size = cap ∧ cur.toList.take l.length = Lib.byteCells l
theorem InB.of {w : World} {B b : Nat} {p v : Value} {l : List UInt8} (h0 : l ≠ []) (hc : w.heap[b]? = some (.cells #[p, v] 60 (0, 0))) (ho : w.ownsRow B 5 1 v l.length (Lib.byteCells l)) : ∃ r, B ≤ r ∧ r < w.heap.size ∧ r ≠ b ∧ InB w b r l := by
  rcases ho.2 with ⟨_, hz⟩ | ⟨g, cap, cur, rfl, hb, hg, hn, hm, hs, ht⟩
  · exact absurd (List.eq_nil_of_length_eq_zero hz) h0
  · refine ⟨g, hb, (Array.getElem?_eq_some_iff.1 hg).1, fun e => ?_, p, cap, cur, hc, hg, hn, hm, by simpa using hs, by simpa using ht⟩
    subst e; rw [hc] at hg; simp at hg
theorem InB.keep {w w' : World} {b r : Nat} {l : List UInt8} (h : InB w b r l) (hb : Below w.heap.size w w') : InB w' b r l := by
  obtain ⟨p, cap, cur, h1, h2, rest⟩ := h
  exact ⟨p, cap, cur, by rw [hb.block b (Array.getElem?_eq_some_iff.1 h1).1]; exact h1, by rw [hb.block r (Array.getElem?_eq_some_iff.1 h2).1]; exact h2, rest⟩
theorem InB.other {w w' : World} {b r k : Nat} {l : List UInt8} (h : InB w b r l) (ho : OneB k w w') (hb : b ≠ k) (hr : r ≠ k) : InB w' b r l := by
  obtain ⟨p, cap, cur, h1, h2, rest⟩ := h
  exact ⟨p, cap, cur, by rw [ho.block b hb]; exact h1, by rw [ho.block r hr]; exact h2, rest⟩
set_option maxHeartbeats 1000000 in
set_option maxRecDepth 100000 in
theorem str_walk (b r : Nat) (l : List UInt8) (w : World) (h0 : l ≠ []) (h : InB w b r l) :
    Calls Try.prog 29 #[.pointer (some ⟨b, 0, none⟩)] w fun e w' => e = .returned (.string ⟨l.toArray⟩) ∧ OneB r w w' := by
  obtain ⟨p, cap, cur, hbk, hg, hnc, hcm, hcs, htake⟩ := h
  have hl0 : l.length ≠ 0 := by simpa using h0
  have c1 : w.drew.cell? ⟨b, 1, none⟩ = some (.slice (some ⟨r, 0, none⟩) l.length cap) := by
    have : w.drew.heap[b]? = some (.cells #[p, .slice (some ⟨r, 0, none⟩) l.length cap] 60 (0, 0)) := hbk
    rw [Lib.cell_of_heap this]; rfl
  have hSD : (Builtin.unsafeSliceData_ #[58] 137 #[.slice (some ⟨r, 0, none⟩) l.length cap]).run Try.prog w.drew = .ok (.pointer (some ⟨r, 0, none⟩)) w.drew :=
    Lib.run_unsafeSliceData_row _ _ _ _ _ _ (by omega)
  have hUS : (Builtin.unsafeString_ #[137, 3] 9 #[.pointer (some ⟨r, 0, none⟩), .int .i64 l.length]).run Try.prog w.drew = .ok (.string ⟨l.toArray⟩) (w.drew.freeze ⟨r, 0, none⟩ l.length) := by
    refine Lib.run_unsafeString_row w.drew 137 3 9 5 Try.underlying137 (by kernel_rfl) r cur.size (by have hg' : w.drew.heap[r]? = some (.cells cur 5 (0, 0)) := hg; simp [World.shape?, hg']) l h0 (by omega) (by unfold maxLen at hcm; omega) ?_
    intro j x hx
    have hj : j < l.length := (List.getElem?_eq_some_iff.1 hx).1
    have e1 : (cur.toList.take l.length)[j]? = some (.int .u8 x.toNat) := by rw [htake]; simp [Lib.byteCells, hx]
    rw [List.getElem?_take, if_pos hj] at e1
    rw [Addr.add_lit, Nat.zero_add, cell_of_row w.drew r j cur 5 (0, 0) hg, ← Array.getElem?_toList]; exact e1
  clear hbk hg htake
  have mixed : Try.prog.follows .mixedOrders = true := by kernel_rfl
  go_enter Try.func29, Try.ntmps29
  go_wp2
  go_region_o
  all_goals (go_wp2; go_ret; exact ⟨rfl, (OneB.freeze _ _ _).drew⟩)
end Go.Proofs.Ytbomloodllddaaa
