/- Walks: a strings.Builder of the call's own is checked (copyCheck) and read (String). Condition: what is held is of at most 2^47 bytes. -/
import Derived.Test.YtodicgphndoalaaDoorTail
import Derived.Test.YtodicgphndoalaaDoorProg
import Derived.Test.YtodicgphndoalaaDoorShelf
import Derived.Lib.Builder
namespace Go.Proofs.YtodicgphndoalaaDoor
open Go.RowKit
/-- a Builder of the call's own (block g), with the bytes l -/
def Bld (w : World) (B g : Nat) (l : List UInt8) : Prop := Lib.IsBuilder 38 5 B g (Lib.byteCells l) w
theorem bcells_strs (s : ByteArray) : Lib.strCells s = Lib.byteCells s.data.toList := rfl
theorem bcells_append (a b : List UInt8) : Lib.byteCells (a ++ b) = Lib.byteCells a ++ Lib.byteCells b := by simp [Lib.byteCells]
theorem Bld.fresh (w : World) : Bld (w.alloc (.cells #[.pointer none, .slice none 0 0] 38)) w.heap.size w.heap.size [] := Lib.fresh_isBuilder _ _ w
theorem Bld.lt {w : World} {B g : Nat} {l : List UInt8} (h : Bld w B g l) : g < w.heap.size := by
  rcases h with h | h <;> exact h.lt
theorem Bld.base {w : World} {B g : Nat} {l : List UInt8} (h : Bld w B g l) : B ≤ g := by
  rcases h with h | h <;> exact h.1
/-- it stays while only later blocks turn -/
theorem Bld.keep {w w' : World} {B B' g : Nat} {l : List UInt8} (h : Bld w B g l) (hb : Below B' w w') (hB : w.heap.size ≤ B') : Bld w' B g l := by
  have one : ∀ p, Lib.BuilderAt 38 5 B g p (Lib.byteCells l) w → Lib.BuilderAt 38 5 B g p (Lib.byteCells l) w' := by
    rintro p ⟨h1, v, h2, h3, h4⟩
    have hg : g < w.heap.size := (Array.getElem?_eq_some_iff.1 h2).1
    refine ⟨h1, v, by rw [hb.block g (by omega)]; exact h2, ?_, h4⟩
    refine ⟨h3.1, ?_⟩
    rcases h3.2 with h3 | ⟨k, cap, cur, rfl, hk, hh, rest⟩
    · exact .inl h3
    · exact .inr ⟨k, cap, cur, rfl, hk, by rw [hb.block k (by have := (Array.getElem?_eq_some_iff.1 hh).1; omega)]; exact hh, rest⟩
  rcases h with h | h
  · exact .inl (one _ h)
  · exact .inr (one _ h)
/-- nothing turned but the Builder's block, rows of bytes, and new blocks -/
def Apart (b : Nat) (w w' : World) : Prop := w.heap.size ≤ w'.heap.size ∧ ∀ k, k < w.heap.size → k ≠ b → (∀ cs fz, w.heap[k]? ≠ some (.cells cs 5 fz)) → w'.heap[k]? = w.heap[k]?
theorem Apart.row {b : Nat} {w w' : World} (h : Apart b w w') {k : Nat} {cs : Array Value} {t : TypeId} {fz : Nat × Nat} (hk : w.heap[k]? = some (.cells cs t fz)) (ht : t ≠ 5) (hb : k ≠ b) : w'.heap[k]? = some (.cells cs t fz) := by
  rw [h.2 k (Array.getElem?_eq_some_iff.1 hk).1 hb (fun cs' fz' e => by rw [hk] at e; simp at e; exact ht e.2.1)]
  exact hk
theorem size_bld : (Tryd.prog.info? 38).map (fun i => i.size) = some 2 := by kernel_rfl
theorem lies_bld : liesAt Tryd.prog Tryd.prog.depth 38 (2 / Tryd.prog.cellsOf 38) 0 38 1 = true := by kernel_rfl
theorem info_byte : (Tryd.prog.info? 5).map (fun i => (i.zero, i.size, i.bytes)) = some (some (.int .u8 0), 1, 1) := by kernel_rfl
set_option maxHeartbeats 1000000 in
set_option maxRecDepth 100000 in
theorem bld_check (B b : Nat) (bs : List Value) (w : World) (h : Lib.IsBuilder 38 5 B b bs w) :
    Calls Tryd.prog 29 #[.pointer (some ⟨b, 0, none⟩)] w fun e w' => e = .returned (.tuple #[]) ∧ Lib.BuilderAt 38 5 B b (.pointer (some ⟨b, 0, none⟩)) bs w' ∧ Below B w w' ∧ w'.heap.size = w.heap.size ∧ ∀ k, k ≠ b → w'.heap[k]? = w.heap[k]? := by
  obtain ⟨j, hj, hjs⟩ := Option.map_eq_some_iff.1 size_bld
  rcases h with h | h
  · have Hput := Lib.hid (h.used (.pointer (some ⟨b, 0, none⟩)))
    have hB := h.1
    have h0 := h.cell0
    have hsh := h.shape
    have hfz := h.frozen0
    clear h
    go_enter Tryd.func29, Tryd.ntmps29
    repeat' (first | go_values | go_skip | go_guarded | go_step | go_upon)
    rw [Lib.run_to_unsafe w ⟨b, 0, none⟩ Tryd.underlying35 Tryd.underlying54 hj (by rw [hjs]; decide) hsh (Nat.zero_lt_succ 1)]
    simp only [Result.andThen]
    rw [Oper.upon_value]
    repeat' (first | go_values | go_skip | go_guarded | go_step | go_upon)
    rw [run_callFunc_extern Tryd.func31 (by kernel_rfl) (by kernel_rfl) (by kernel_rfl) (e := Extern.AbiNoEscape.same) (by kernel_rfl)]
    rw [Lib.run_noEscape]
    simp only [Result.andThen]
    rw [Oper.upon_value]
    repeat' (first | go_values | go_skip | go_guarded | go_step | go_upon)
    rw [Lib.run_from_unsafe w ⟨b, 0, none⟩ Tryd.underlying54 Tryd.underlying35 hj hsh lies_bld]
    simp only [Result.andThen]
    rw [Oper.upon_value]
    repeat' (first | go_values | go_skip | go_guarded | go_step | go_upon)
    go_end0
    exact ⟨rfl, Hput.out, (Below.refl _ _).setCell (p := ⟨b, 0, none⟩) hB _, by simp [World.setCell], fun k hk => Below.heap_setCell _ _ _ _ (by dsimp only; omega)⟩
  · have H := Lib.hid h
    have h0 := h.cell0
    clear h
    go_enter Tryd.func29, Tryd.ntmps29
    repeat' (first | go_values | go_skip | go_guarded | go_step | go_upon)
    rw [Lib.run_neq_ptr_same w _ Tryd.underlying35 hj]
    repeat' (first | go_values | go_skip | go_guarded | go_step | go_upon)
    go_end0
    exact ⟨rfl, H.out, Below.refl _ _, rfl, fun _ _ => rfl⟩
theorem bld_String (B b : Nat) (l : List UInt8) (w : World) (h : Bld w B b l) (hBw : B ≤ w.heap.size) :
    Calls Tryd.prog 25 #[.pointer (some ⟨b, 0, none⟩)] w fun e w' => e = .returned (.string ⟨l.toArray⟩) ∧ Below B w w' := Tryd.Builder_String_any B b l w h hBw
end Go.Proofs.YtodicgphndoalaaDoor
