/- The library's tables and errors as they are laid when a call begins: the witness's world, and what the walks ask of a world. No conditions. -/
import Derived.Test.YtpelngkhipcneaaDoorRows
import Derived.Test.YtpelngkhipcneaaDoorIsaTab
import Derived.Deep.DeepHandedRow
import Derived.Deep.DeepWitnessRowRef
import Derived.Lib.LaidIn
import Derived.Lib.LaidU8
import Derived.ProofKit
namespace Go.Proofs.YtpelngkhipcneaaDoor
open Go.Shelf Go.Lib Go.RowKit
def lay : List (String × DataW Unit) := [("math/bits.deBruijn32tab", Rows.laid_math_bits_deBruijn32tab), ("math/bits.deBruijn64tab", Rows.laid_math_bits_deBruijn64tab), ("internal/strconv.uint64pow10", Rows.laid_internal_strconv_uint64pow10), ("unicode/utf8.acceptRanges", Rows.laid_unicode_utf8_acceptRanges), ("strconv.ErrRange", Rows.laid_strconv_ErrRange), ("strconv.ErrSyntax", Rows.laid_strconv_ErrSyntax), ("unicode/utf8.first", Rows.laid_unicode_utf8_first)]
def t32 : List Int := [0, 1, 28, 2, 29, 14, 24, 3, 30, 22, 20, 15, 25, 17, 4, 8, 31, 27, 13, 23, 21, 19, 16, 7, 26, 12, 18, 6, 11, 5, 10, 9]
def t64 : List Int := [0, 1, 56, 2, 57, 49, 28, 3, 61, 58, 42, 50, 38, 29, 17, 4, 62, 47, 59, 36, 45, 43, 51, 22, 53, 39, 33, 30, 24, 18, 12, 5, 63, 55, 48, 27, 60, 41, 37, 16, 46, 35, 44, 21, 52, 32, 23, 11, 54, 26, 40, 15, 34, 20, 31, 10, 25, 14, 19, 9, 13, 8, 7, 6]
theorem lay_pow : (Rows.laid_internal_strconv_uint64pow10 : DataW Unit) = Lib.tabData .u64 Lib.pow10Tab := by kernel_rfl
noncomputable def laidWorld (os : Os) : World :=
  let w0 := World.holding Tryd.prog os ⟨#[], #[], []⟩
  let put (h : Array Obj) (g : Nat) (cs : Array Value) : Array Obj := h.modify g fun
    | .cells _ t frozen => .cells cs t frozen
    | o => o
  let h1 := put w0.heap 6 (t32.map fun z => Value.int .u8 z).toArray
  let h2 := put h1 7 (t64.map fun z => Value.int .u8 z).toArray
  let h3 := put h2 3 (Lib.pow10Tab.map fun z => Value.int .u64 z).toArray
  let h4 := put h3 4 (Lib.firstTab.map fun z => Value.int .u8 z).toArray
  let h5 := put h4 5 ((List.range 16).flatMap fun i => [Value.int .u8 (Lib.accLo i), Value.int .u8 (Lib.accHi i)]).toArray
  let h6 := put h5 2 #[.iface 113 (.pointer (some ⟨h5.size, 0, none⟩))]
  let h7 := put h6 1 #[.iface 113 (.pointer (some ⟨h5.size + 1, 0, none⟩))]
  let h8 := (h7.push (.cells #[.string ⟨#[118, 97, 108, 117, 101, 32, 111, 117, 116, 32, 111, 102, 32, 114, 97, 110, 103, 101]⟩] 115)).push (.cells #[.string ⟨#[105, 110, 118, 97, 108, 105, 100, 32, 115, 121, 110, 116, 97, 120]⟩] 115)
  { w0 with heap := h8 }
set_option maxRecDepth 1000000 in
theorem laid_met (os : Os) (args : Array Value) : laidMet Tryd.prog lay ((laidWorld os).forCall (fun _ _ => 0) ⟨#[], args, []⟩).memory := by
  have h : LaidIn Tryd.prog ((laidWorld os).forCall (fun _ _ => 0) ⟨#[], args, []⟩).memory lay (List.range 2000) :=
    LaidIn.of_run (List.range 2000) 8 (by kernel_rfl) (by kernel_rfl) (by kernel_rfl) (by kernel_rfl)
  exact h.met
theorem tab10_of {W : World} (h : laidMetH Tryd.prog lay W) : Tab10 W := by
  have h1 := Lib.laidMet.reads h (.tail _ (.tail _ (.head _)))
  rw [lay_pow] at h1
  obtain ⟨g, t, cs, fuel, p, hg, hty, hvar, hd⟩ := h1
  obtain rfl := Option.some.inj ((show Tryd.prog.globalNamed "internal/strconv.uint64pow10" = some 3 by kernel_rfl).symm.trans hg)
  obtain rfl := Option.some.inj ((show (Tryd.prog.globals[3]?).map (·.type) = some 109 by kernel_rfl).symm.trans hty)
  have hcs := cells_of_tab Tryd.underlying109 Tryd.underlying43 (by kernel_rfl) (by kernel_rfl) hd
  unfold Tab10 TabIs
  rw [hvar, ← hcs]
theorem cell_of_var {W : World} {n : String} {g : Nat} {v : Value} (hg : Tryd.prog.globalNamed n = some g) (h : W.var? Tryd.prog n = some #[v]) : W.cell? ⟨g, 0, none⟩ = some v := by
  unfold World.var? at h
  rw [hg] at h
  simp only [Option.bind_some] at h
  cases hk : W.heap[g]? with
  | none => rw [hk] at h; simp at h
  | some o =>
    rw [hk] at h
    cases o with
    | cells cs t fz => simp at h; subst h; rw [cell_of_row W g 0 _ t fz hk]; rfl
    | _ => simp at h
theorem tabs_of {W : World} (h : laidMetH Tryd.prog lay W) (hs : W.ShapedOpen Tryd.prog) : TabR W := by
  refine ⟨tab10_of h, Tryd.laysM145.s1_3 W hs, ?_, ?_⟩
  · have h1 := Lib.laidMet.reads h (.tail _ (.tail _ (.tail _ (.tail _ (.tail _ (.head _))))))
    obtain ⟨g, t, cs, fuel, p, hg, hty, hvar, hd⟩ := h1
    obtain rfl := Option.some.inj ((show Tryd.prog.globalNamed "strconv.ErrSyntax" = some 1 by kernel_rfl).symm.trans hg)
    obtain rfl := Option.some.inj ((show (Tryd.prog.globals[1]?).map (·.type) = some 39 by kernel_rfl).symm.trans hty)
    obtain ⟨f1, u, v, hcs, hn, h2⟩ := iface_of_trod Tryd.underlying39 hd
    have : cs = #[.iface u v] := by apply Array.ext'; exact hcs
    subst this
    exact ⟨u, v, cell_of_var hg hvar⟩
  · have h1 := Lib.laidMet.reads h (.tail _ (.tail _ (.tail _ (.tail _ (.head _)))))
    obtain ⟨g, t, cs, fuel, p, hg, hty, hvar, hd⟩ := h1
    obtain rfl := Option.some.inj ((show Tryd.prog.globalNamed "strconv.ErrRange" = some 2 by kernel_rfl).symm.trans hg)
    obtain rfl := Option.some.inj ((show (Tryd.prog.globals[2]?).map (·.type) = some 39 by kernel_rfl).symm.trans hty)
    obtain ⟨f1, u, v, hcs, hn, h2⟩ := iface_of_trod Tryd.underlying39 hd
    have : cs = #[.iface u v] := by apply Array.ext'; exact hcs
    subst this
    exact ⟨u, v, cell_of_var hg hvar⟩
end Go.Proofs.YtpelngkhipcneaaDoor
