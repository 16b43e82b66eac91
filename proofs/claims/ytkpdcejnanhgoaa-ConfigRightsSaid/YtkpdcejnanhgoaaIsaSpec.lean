/- Plain laws: instructions, their fields' letters, which may be. No conditions; no program. -/
import Derived.Test.YtkpdcejnanhgoaaOpen
namespace Go.Proofs.Ytkpdcejnanhgoaa
/-- an operation's letters (the program's) -/
def letr : Nat → List Nat
  | 2 => [114, 110] | 3 => [114, 82] | 4 => [64] | 5 => [114, 110, 64] | 6 => [114, 110, 64] | 7 => [114, 64] | 8 => [114, 82, 116] | 9 => [109] | 10 => [109]
  | 11 => [109, 64] | 12 => [114] | 13 => [114, 82] | 15 => [114] | 17 => [114] | _ => []
/-- the reference's letter for the program's -/
def rlet (x : Nat) : Nat := if x = 114 then 97 else if x = 82 then 98 else if x = 109 then 107 else if x = 110 then 110 else if x = 64 then 112 else 116
def IsL (x : Nat) : Prop := x = 114 ∨ x = 109 ∨ x = 82 ∨ x = 110 ∨ x = 64 ∨ x = 116
/-- where a letter's value stands, its bound -/
def pos (x : Nat) : Nat := if x = 114 ∨ x = 109 then 1 else if x = 82 ∨ x = 110 then 2 else if x = 64 then 3 else 4
def mst (x : Nat) : Nat := if x = 114 ∨ x = 82 then 7 else if x = 109 then 1 else if x = 110 then 1073741824 else if x = 64 then 4095 else 15
theorem pos_ge (x : Nat) : 1 ≤ pos x ∧ pos x ≤ 4 := by unfold pos; split <;> (try split) <;> (try split) <;> omega
theorem mst_le (x : Nat) : mst x ≤ 1073741824 := by unfold mst; split <;> (try split) <;> (try split) <;> (try split) <;> omega
theorem letr_is (o : Nat) : ∀ x ∈ letr o, IsL x := by
  unfold letr IsL
  split <;> simp
theorem letr_none {o : Nat} (h : o < 1 ∨ 17 < o) : letr o = [] := by
  unfold letr
  split <;> first | rfl | omega
theorem letr_len (o : Nat) : (letr o).length ≤ 3 := by unfold letr; split <;> simp
theorem letr_lt {o x : Nat} (h : x ∈ letr o) : x < 128 := by
  have := letr_is o x h; unfold IsL at this; omega
/-- an instruction as a value -/
abbrev vI (v : Nat → Int) : Value := .agg #[.int .i64 (v 0), .int .i64 (v 1), .int .i64 (v 2), .int .i64 (v 3), .int .i64 (v 4)]
abbrev ic (v : Nat → Int) : Array Value := #[.int .i64 (v 0), .int .i64 (v 1), .int .i64 (v 2), .int .i64 (v 3), .int .i64 (v 4)]
/-- an instruction with nothing but its operation and what some letters say -/
def bar (v : Nat → Int) (l : List Nat) : Nat → Int := fun j => if j = 0 ∨ j ∈ l.map pos then v j else 0
theorem bar_nil0 (v : Nat → Int) : bar v [] 0 = v 0 := by simp [bar]
theorem bar_nil (v : Nat → Int) {j : Nat} (h : j ≠ 0) : bar v [] j = 0 := by simp [bar, h]
theorem bar_snoc (v : Nat → Int) (l : List Nat) (x j : Nat) : bar v (l ++ [x]) j = if j = pos x then v j else bar v l j := by
  unfold bar
  by_cases h : j = pos x
  · simp [h]
  · simp [h]
def upd (u : Nat → Int) (p : Nat) (a : Int) : Nat → Int := fun j => if j = p then a else u j
/-- a letter's value is in its bounds -/
def inb (v : Nat → Int) (x : Nat) : Bool := decide (0 ≤ v (pos x)) && decide (v (pos x) ≤ (mst x : Int))
/-- may an instruction be? -/
def okI (v : Nat → Int) : Bool := decide (1 ≤ v 0) && decide (v 0 ≤ 17) && ((letr (v 0).toNat).all (inb v) && (bar v (letr (v 0).toNat) 1 == v 1 && (bar v (letr (v 0).toNat) 2 == v 2 && (bar v (letr (v 0).toNat) 3 == v 3 && bar v (letr (v 0).toNat) 4 == v 4))))
/-- its fields, as a text of bytes -/
def bsT (l : List Nat) : ByteArray := ⟨(l.map u8).toArray⟩
theorem bsT_size (l : List Nat) : (bsT l).size = l.length := by show ((l.map u8).toArray).size = _; simp
theorem bsT_get (l : List Nat) (k : Nat) (h : k < (bsT l).size) (hk : k < l.length) (hl : ∀ x ∈ l, x < 256) : ((bsT l)[k]'h).toNat = l[k] := by
  have e : (bsT l)[k]'h = (l.map u8).toArray[k]'(by simpa using hk) := rfl
  rw [e, List.getElem_toArray, List.getElem_map]
  have := hl _ (List.getElem_mem hk)
  simp [u8]; omega
/-- an operation's word -/
def wrd : Nat → List Nat
  | 1 => [104, 97, 108, 116] | 2 => [108, 111, 97, 100] | 3 => [109, 111, 118, 101] | 4 => [106, 117, 109, 112] | 5 => [115, 97, 109, 101] | 6 => [108, 101, 115, 115] | 7 => [110, 101, 120, 116] | 8 => [108, 111, 111, 107] | 9 => [109, 97, 114, 107] | 10 => [98, 97, 99, 107] | 11 => [104, 101, 114, 101] | 12 => [99, 111, 112, 121] | 13 => [116, 101, 120, 116] | 14 => [116, 117, 114, 110] | 15 => [115, 105, 103, 110] | 16 => [106, 111, 105, 110] | 17 => [101, 109, 105, 116] | _ => []
/-- a field's sign in a line -/
def sgn (x : Nat) : List Nat := if x = 114 ∨ x = 82 then [114] else if x = 109 then [109] else if x = 64 then [64] else if x = 116 then [116] else []
end Go.Proofs.Ytkpdcejnanhgoaa
