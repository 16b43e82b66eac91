/- Programs as they lie in memory (api.Program), and which data may be (P23.1). No conditions. -/
import Derived.Test.YtkpdcejnanhgoaaIsaGetSpec
import Derived.Test.YtkpdcejnanhgoaaHashPlace
namespace Go.Proofs.Ytkpdcejnanhgoaa
open Go.RowKit
/-- a program -/
structure Prg where
  grow : Int
  rest : Int
  extra : Int
  signs : Int
  code : List (Nat → Int)
  tabs : List (Int × List Int)
  texts : List (List UInt8)
  hash : HashP
/-- its slices' values -/
structure PV where
  vc : Value
  vt : Value
  vx : Value
  vs : Value
  vk : Value
  vv : Value
abbrev pgC (p : Prg) (v : PV) : Array Value := #[.int .i64 p.grow, .int .i64 p.rest, .int .i64 p.extra, .int .i64 p.signs, v.vc, v.vt, v.vx, v.vs, v.vk, v.vv]
abbrev pgV (p : Prg) (v : PV) : Value := .agg (pgC p v)
def tbC (t : Int × Value) : List Value := [.int .i64 t.1, t.2]
def intC (n : Int) : List Value := [.int .i64 n]
def strC (l : List UInt8) : List Value := [.string ⟨l.toArray⟩]
/-- tables as they lie -/
def TabsAt (w : World) (v : Value) (l : List (Int × List Int)) : Prop :=
  ∃ ts : List (Int × Value), RowOf tbC 2 w v ts ∧ ts.length = l.length ∧ ∀ (i : Nat) t d, ts[i]? = some t → l[i]? = some d → t.1 = d.1 ∧ I64 d.1 ∧ RowOf intC 1 w t.2 d.2
theorem TabsAt.keep {w w' : World} {v : Value} {l : List (Int × List Int)} (h : TabsAt w v l) (hb : Below w.heap.size w w') : TabsAt w' v l := by
  obtain ⟨ts, h1, h2, h3⟩ := h
  exact ⟨ts, h1.keep hb, h2, fun i t d ht hd => by obtain ⟨a, b, c⟩ := h3 i t d ht hd; exact ⟨a, b, c.keep hb⟩⟩
/-- a program as it lies -/
structure PrgAt (w : World) (v : PV) (p : Prg) : Prop where
  num : I64 p.grow ∧ I64 p.rest ∧ I64 p.extra ∧ I64 p.signs
  code : RowOf icL 5 w v.vc p.code
  tabs : TabsAt w v.vt p.tabs
  texts : RowOf strC 1 w v.vx p.texts
  hash : HashAt w v.vs v.vk v.vv p.hash
  tl : ∀ l ∈ p.texts, l.length ≤ 140737488351232
theorem PrgAt.keep {w w' : World} {v : PV} {p : Prg} (h : PrgAt w v p) (hb : Below w.heap.size w w') : PrgAt w' v p :=
  ⟨h.num, h.code.keep hb, h.tabs.keep hb, h.texts.keep hb, h.hash.keep hb, h.tl⟩
/-- a variable that holds a program -/
def PBox (w : World) (g : Nat) (p : Prg) (v : PV) : Prop := w.heap[g]? = some (.cells (pgC p v) 45 (0, 0))
theorem PBox.lt {w : World} {g : Nat} {p : Prg} {v : PV} (h : PBox w g p v) : g < w.heap.size := (Array.getElem?_eq_some_iff.1 h).1
theorem PBox.keep {w w' : World} {g : Nat} {p : Prg} {v : PV} (h : PBox w g p v) (hb : Below w.heap.size w w') : PBox w' g p v := by
  unfold PBox; rw [hb.block g h.lt]; exact h
theorem PBox.new (w : World) (p : Prg) (v : PV) : PBox (w.alloc (.cells (pgC p v) 45)) w.heap.size p v := Go.heap_alloc_new _ _
theorem PBox.cell {w : World} {g : Nat} {p : Prg} {v : PV} (h : PBox w g p v) (k : Nat) : w.cell? ⟨g, k, none⟩ = (pgC p v)[k]? := cell_of_row w g k _ _ _ h
theorem PBox.ten {w : World} {g : Nat} {p : Prg} {v : PV} (h : PBox w g p v) : w.cell? ⟨g, 0, none⟩ = some (.int .i64 p.grow) ∧ w.cell? ⟨g, 1, none⟩ = some (.int .i64 p.rest) ∧ w.cell? ⟨g, 2, none⟩ = some (.int .i64 p.extra) ∧ w.cell? ⟨g, 3, none⟩ = some (.int .i64 p.signs) ∧
    w.cell? ⟨g, 4, none⟩ = some v.vc ∧ w.cell? ⟨g, 5, none⟩ = some v.vt ∧ w.cell? ⟨g, 6, none⟩ = some v.vx ∧ w.cell? ⟨g, 7, none⟩ = some v.vs ∧ w.cell? ⟨g, 8, none⟩ = some v.vk ∧ w.cell? ⟨g, 9, none⟩ = some v.vv :=
  ⟨h.cell 0, h.cell 1, h.cell 2, h.cell 3, h.cell 4, h.cell 5, h.cell 6, h.cell 7, h.cell 8, h.cell 9⟩
theorem info_pg : (Try.prog.info? 45).map (fun i => i.size) = some 10 := by kernel_rfl
theorem load_pg {o : Oper} {a : Act} {w : World} {K : Act → World → Prop} {Q : Exit → Act → World → Prop} {g : Nat} {p : Prg} {v : PV} (hs : PBox w g p v) (x : Operand) (ho : o.op = .load 45 x)
    (hx : a.eval x = .pointer (some ⟨g, 0, none⟩)) (h : K (a.put o.dst (pgV p v)) w) : o.wp Try.prog a w K Q :=
  wp_load_row _ x ho g hx 45 (pgC p v) (0, 0) _ hs Try.underlying45 rfl info_pg h
/-- a table in a variable -/
def TBox (w : World) (g : Nat) (c : Int) (v : Value) : Prop := w.heap[g]? = some (.cells #[.int .i64 c, v] 74 (0, 0))
theorem TBox.lt {w : World} {g : Nat} {c : Int} {v : Value} (h : TBox w g c v) : g < w.heap.size := (Array.getElem?_eq_some_iff.1 h).1
theorem TBox.keep {w w' : World} {g : Nat} {c : Int} {v : Value} (h : TBox w g c v) (hb : Below w.heap.size w w') : TBox w' g c v := by
  unfold TBox; rw [hb.block g h.lt]; exact h
theorem TBox.two {w : World} {g : Nat} {c : Int} {v : Value} (h : TBox w g c v) : w.cell? ⟨g, 0, none⟩ = some (.int .i64 c) ∧ w.cell? ⟨g, 1, none⟩ = some v :=
  ⟨cell_of_row w g 0 _ _ _ h, cell_of_row w g 1 _ _ _ h⟩
theorem TBox.new (w : World) (c : Int) (v : Value) : TBox (w.alloc (.cells #[.int .i64 c, v] 74)) w.heap.size c v := Go.heap_alloc_new _ _
/-- a table's two cells -/
theorem tab_cells {w : World} {b off : Nat} {ts : List (Int × Value)} (h : ∀ (i : Nat) (x : Int × Value) (j : Nat), ts[i]? = some x → j < 2 → w.cell? ⟨b, off + (i * 2 + j), none⟩ = (tbC x)[j]?) {i : Nat} {t : Int × Value} (hi : ts[i]? = some t) :
    w.cell? ⟨b, off + i * 2, none⟩ = some (.int .i64 t.1) ∧ w.cell? ⟨b, off + i * 2 + 1, none⟩ = some t.2 := ⟨h i t 0 hi (by decide), h i t 1 hi (by decide)⟩
theorem RowOf.slice {α : Type} {f : α → List Value} {sz : Nat} {w : World} {v : Value} {l : List α} (h : RowOf f sz w v l) : ∃ a cap, v = .slice a l.length cap ∧ l.length ≤ cap ∧ cap ≤ maxLen := by
  obtain ⟨a, cap, h1, h2, h3, _⟩ := h
  exact ⟨a, cap, h1, h2, h3⟩
/-- the whole program's slices, written out -/
theorem PrgAt.forms {w : World} {v : PV} {p : Prg} (h : PrgAt w v p) : ∃ ac cc at' ct ax cx as' cs ak ck av cv, v = ⟨.slice ac p.code.length cc, .slice at' p.tabs.length ct, .slice ax p.texts.length cx, .slice as' p.hash.seeds.length cs, .slice ak p.hash.keys.length ck, .slice av p.hash.vals.length cv⟩ := by
  obtain ⟨vc, vt, vx, vs, vk, vv⟩ := v
  obtain ⟨ts, h1, h2, _⟩ := h.tabs
  obtain ⟨a1, c1, e1, _⟩ := h.code.slice
  obtain ⟨a2, c2, e2, _⟩ := h1.slice
  obtain ⟨a3, c3, e3, _⟩ := h.texts.slice
  obtain ⟨a4, c4, e4, _⟩ := h.hash.seeds.slice
  obtain ⟨a5, c5, e5, _⟩ := h.hash.keys.slice
  obtain ⟨a6, c6, e6, _⟩ := h.hash.vals.slice
  dsimp only at e1 e2 e3 e4 e5 e6
  rw [h2] at e2
  exact ⟨a1, c1, a2, c2, a3, c3, a4, c4, a5, c5, a6, c6, by rw [e1, e2, e3, e4, e5, e6]⟩
/-- may data be? -/
def smallN (n : Int) : Bool := decide (0 ≤ n) && decide (n ≤ 1048576)
def numOk (n : Int) : Bool := decide (0 ≤ n) && decide (n ≤ 1073741824)
def tabOk (t : Int × List Int) : Bool := decide (1 ≤ t.1 ∧ t.1 ≤ 256 ∧ t.1 ≤ t.2.length ∧ t.2.length ≤ 400000 ∧ (t.2.length : Int) % t.1 = 0) && t.2.all numOk
def valOk (s : Int) (v : Nat) : Bool := decide (((v % 4294967296 : Nat) : Int) < s)
def linOk (p : Prg) : Prop := 0 ≤ p.signs ∧ p.signs ≤ 65536 ∧ p.tabs.length ≤ 16 ∧ p.texts.length ≤ 4096
instance (p : Prg) : Decidable (linOk p) := by unfold linOk; infer_instance
def dataOk (p : Prg) : Bool := smallN p.grow && (smallN p.rest && (smallN p.extra && (decide (linOk p) && (hokI p.hash && (p.tabs.all tabOk && (p.texts.all (fun l => decide (l.length ≤ 4096)) && p.hash.vals.all (valOk p.signs)))))))
theorem data_iff (p : Prg) : dataOk p = true ↔ smallN p.grow = true ∧ smallN p.rest = true ∧ smallN p.extra = true ∧ linOk p ∧ hokI p.hash = true ∧ p.tabs.all tabOk = true ∧ p.texts.all (fun l => decide (l.length ≤ 4096)) = true ∧ p.hash.vals.all (valOk p.signs) = true := by
  unfold dataOk
  simp only [Bool.and_eq_true, decide_eq_true_eq]
theorem data_no {p : Prg} (h : dataOk p = true → False) : dataOk p = false := by
  cases e : dataOk p with
  | false => rfl
  | true => exact (h e).elim
theorem any_not {α : Type} (d : α) (f : α → Bool) : ∀ l : List α, (List.range l.length).any (fun i => !f (l.getD i d)) = !l.all f := by
  intro l
  rw [Bool.eq_iff_iff]
  simp only [List.any_eq_true, List.mem_range, Bool.not_eq_true', List.all_eq_false]
  constructor
  · rintro ⟨i, hi, h⟩
    refine ⟨l.getD i d, ?_, by rw [h]; decide⟩
    rw [List.getD_eq_getElem?_getD, List.getElem?_eq_getElem hi]; exact List.getElem_mem hi
  · rintro ⟨x, hx, h⟩
    obtain ⟨i, hi, rfl⟩ := List.getElem_of_mem hx
    refine ⟨i, hi, ?_⟩
    rw [List.getD_eq_getElem?_getD, List.getElem?_eq_getElem hi]
    simpa using h
end Go.Proofs.Ytkpdcejnanhgoaa
