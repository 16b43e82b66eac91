/- Plain laws: how bytes, sets and trees are written (P6.3). No conditions; no program. -/
import Derived.Test.YtnbfifmnigeolaaDoorReLaw
import Derived.Test.YtnbfifmnigeolaaDoorSetSpec
import Derived.Lib.ItoaLen
import Derived.Lib.Join
namespace Go.Proofs.YtnbfifmnigeolaaDoor
open Go.RowKit
/-- a digit of sixteen -/
def hexd (n : Nat) : UInt8 := if n < 10 then u8 (48 + n) else u8 (87 + n)
def sgL : List Nat := [92, 40, 41, 91, 93, 123, 125, 46, 42, 43, 63, 124, 94, 36]
/-- a byte, written; within a class? -/
def wrt (c : Nat) (inn : Bool) : List UInt8 :=
  if c = 10 then [92, 110] else if c = 9 then [92, 116] else if c = 13 then [92, 114]
  else if c ∈ sgL ∨ (inn = true ∧ (c = 45 ∨ c = 47)) then [92, u8 c] else if 32 < c ∧ c < 127 then [u8 c] else [92, 120, hexd (c / 16), hexd (c % 16)]
theorem wrt_len (c : Nat) (inn : Bool) : (wrt c inn).length ≤ 4 := by
  unfold wrt
  repeat' split
  all_goals simp
/-- how many rise one by one from i on -/
def runF (l : List Nat) (i : Nat) : Nat → Nat → Nat
  | 0, n => n
  | f + 1, n => if i + n < l.length ∧ l.getD (i + n) 0 = l.getD i 0 + n then runF l i f (n + 1) else n
def runN (l : List Nat) (i : Nat) : Nat := runF l i (l.length - i) 1
theorem runF_go {l : List Nat} {i f n : Nat} (hf : l.length - i < f + n) (h : i + n < l.length ∧ l.getD (i + n) 0 = l.getD i 0 + n) : ∃ g, f = g + 1 ∧ runF l i f n = runF l i g (n + 1) := by
  cases f with
  | zero => omega
  | succ g => exact ⟨g, rfl, by rw [runF, if_pos h]⟩
theorem runF_stop {l : List Nat} {i f n : Nat} (h : ¬ (i + n < l.length ∧ l.getD (i + n) 0 = l.getD i 0 + n)) : runF l i f n = n := by
  cases f with
  | zero => rfl
  | succ g => rw [runF, if_neg h]
/-- a list of bytes, written as a class -/
def prtF (l : List Nat) : Nat → Nat → List UInt8
  | 0, _ => []
  | f + 1, i => if i < l.length then (if 4 ≤ runN l i then wrt (l.getD i 0) true ++ [45] ++ wrt (l.getD (i + runN l i - 1) 0) true ++ prtF l f (i + runN l i) else wrt (l.getD i 0) true ++ prtF l f (i + 1)) else []
def prt (l : List Nat) : List UInt8 := prtF l l.length 0
theorem prtF_end {l : List Nat} {f i : Nat} (h : ¬ i < l.length) : prtF l f i = [] := by
  cases f with
  | zero => rfl
  | succ g => rw [prtF, if_neg h]
theorem prtF_run {l : List Nat} {f i : Nat} (h : i < l.length) (h4 : 4 ≤ runN l i) : prtF l (f + 1) i = wrt (l.getD i 0) true ++ [45] ++ wrt (l.getD (i + runN l i - 1) 0) true ++ prtF l f (i + runN l i) := by
  rw [prtF, if_pos h, if_pos h4]
theorem prtF_one {l : List Nat} {f i : Nat} (h : i < l.length) (h4 : ¬ 4 ≤ runN l i) : prtF l (f + 1) i = wrt (l.getD i 0) true ++ prtF l f (i + 1) := by
  rw [prtF, if_pos h, if_neg h4]
/-- all bytes but the line's end -/
def noLn : Nat → Bool := fun b => !(b == 10)
/-- a set, written -/
noncomputable def setTx (p : Nat → Bool) : List UInt8 :=
  if (bytesTo p 256).length = 1 then wrt ((bytesTo p 256).getD 0 0) false
  else if W p 0 = W noLn 0 ∧ W p 1 = W noLn 1 ∧ W p 2 = W noLn 2 ∧ W p 3 = W noLn 3 then [46]
  else if (bytesTo p 256).length = 0 then [91, 94, 92, 120, 48, 48, 45, 92, 120, 102, 102, 93]
  else if (bytesTo p 256).length = 256 then [91, 92, 120, 48, 48, 45, 92, 120, 102, 102, 93]
  else if 128 < (bytesTo p 256).length then [91, 94] ++ prt (bytesTo (fun b => !p b) 256) ++ [93]
  else [91] ++ prt (bytesTo p 256) ++ [93]
/-- in brackets? -/
def brk (b : Bool) (s : List UInt8) : List UInt8 := if b then [40] ++ s ++ [41] else s
/-- how often, written -/
def rpt (a b : Int) : List UInt8 :=
  if a = 0 ∧ b = -1 then [42] else if a = 1 ∧ b = -1 then [43] else if a = 0 ∧ b = 1 then [63]
  else if a = b then [123] ++ Lib.itoa a ++ [125] else if b = -1 then [123] ++ Lib.itoa a ++ [44, 125] else [123] ++ Lib.itoa a ++ [44] ++ Lib.itoa b ++ [125]
/-- the set of a node -/
noncomputable def setP (s : Nat × Nat × Nat × Nat) : Nat → Bool := ofW s.1 s.2.1 s.2.2.1 s.2.2.2
def words64 (s : Nat × Nat × Nat × Nat) : Prop := U64 s.1 ∧ U64 s.2.1 ∧ U64 s.2.2.1 ∧ U64 s.2.2.2
def Re.set : Re → Nat × Nat × Nat × Nat | .mk _ s _ _ _ => s
def Re.mn : Re → Int | .mk _ _ a _ _ => a
def Re.mx : Re → Int | .mk _ _ _ b _ => b
/-- all sets' words are words -/
def allW : Nat → Re → Prop
  | 0, _ => True
  | h + 1, t => words64 t.set ∧ ∀ k ∈ t.kids, allW h k
/-- a tree, written -/
noncomputable def txt : Nat → Re → List UInt8
  | 0, _ => []
  | h + 1, t =>
    if t.kind = 1 then setTx (setP t.set)
    else if t.kind = 4 then brk (decide ((t.kids.getD 0 (.mk 0 (0, 0, 0, 0) 0 0 [])).kind ≠ 1)) (txt h (t.kids.getD 0 (.mk 0 (0, 0, 0, 0) 0 0 []))) ++ rpt t.mn t.mx
    else Lib.join (t.kids.map fun k => brk (decide (t.kind = 2 ∧ k.kind = 3)) (txt h k)) (if t.kind = 2 then [] else [124])
theorem runF_ge (l : List Nat) (i : Nat) : ∀ (f n : Nat), n ≤ runF l i f n
  | 0, _ => Nat.le_refl _
  | f + 1, n => by
    rw [runF]
    split
    · have := runF_ge l i f (n + 1); omega
    · exact Nat.le_refl _
theorem runF_le (l : List Nat) (i : Nat) : ∀ (f n : Nat), i + n ≤ l.length → i + runF l i f n ≤ l.length
  | 0, _, h => h
  | f + 1, n, h => by
    rw [runF]
    split
    · rename_i h'
      exact runF_le l i f (n + 1) (by omega)
    · exact h
theorem runN_b {l : List Nat} {i : Nat} (h : i < l.length) : 1 ≤ runN l i ∧ i + runN l i ≤ l.length := ⟨runF_ge l i _ 1, runF_le l i _ 1 (by omega)⟩
theorem prtF_len (l : List Nat) : ∀ (f i : Nat), (prtF l f i).length ≤ 9 * (l.length - i)
  | 0, i => by simp [prtF]
  | f + 1, i => by
    by_cases h : i < l.length
    · obtain ⟨h1, h2⟩ := runN_b h
      by_cases h4 : 4 ≤ runN l i
      · rw [prtF_run h h4]
        have a := wrt_len (l.getD i 0) true
        have b := wrt_len (l.getD (i + runN l i - 1) 0) true
        have c := prtF_len l f (i + runN l i)
        simp only [List.length_append, List.length_cons, List.length_nil]
        omega
      · rw [prtF_one h h4]
        have a := wrt_len (l.getD i 0) true
        have c := prtF_len l f (i + 1)
        simp only [List.length_append]
        omega
    · rw [prtF_end h]; simp
theorem prt_len (l : List Nat) : (prt l).length ≤ 9 * l.length := prtF_len l l.length 0
theorem setTx_len (p : Nat → Bool) : (setTx p).length ≤ 2400 := by
  have h1 := prt_len (bytesTo p 256)
  have h2 := prt_len (bytesTo (fun b => !p b) 256)
  have h3 := bytesTo_length p 256
  have h4 := bytesTo_length (fun b => !p b) 256
  have h5 := wrt_len ((bytesTo p 256).getD 0 0) false
  unfold setTx
  repeat' split
  all_goals (try simp only [List.length_append, List.length_cons, List.length_nil])
  all_goals omega
theorem brk_len (b : Bool) (s : List UInt8) : (brk b s).length ≤ s.length + 2 := by
  unfold brk
  split
  · simp
  · omega
theorem itoa_small {n : Int} (h : -1 ≤ n ∧ n ≤ 20) : (Lib.itoa n).length ≤ 21 := Lib.itoa_length_le n (by omega) (by omega)
theorem rpt_len {a b : Int} (ha : -1 ≤ a ∧ a ≤ 20) (hb : -1 ≤ b ∧ b ≤ 20) : (rpt a b).length ≤ 50 := by
  have h1 := itoa_small ha
  have h2 := itoa_small hb
  unfold rpt
  repeat' split
  all_goals simp only [List.length_append, List.length_cons, List.length_nil]
  all_goals omega
theorem joinTail_snoc (sep : List UInt8) (r : List (List UInt8)) (y : List UInt8) : Lib.joinTail sep (r ++ [y]) = Lib.joinTail sep r ++ (sep ++ y) := by
  unfold Lib.joinTail
  simp
theorem join_snoc (sep : List UInt8) (r : List (List UInt8)) (y : List UInt8) : Lib.join (r ++ [y]) sep = if r = [] then y else Lib.join r sep ++ (sep ++ y) := by
  cases r with
  | nil => rw [if_pos rfl, List.nil_append, Lib.join_one]
  | cons x r => rw [if_neg (by simp), List.cons_append, Lib.join_cons, Lib.join_cons, joinTail_snoc, List.append_assoc]
theorem joinTail_le {sep : List UInt8} (hs : sep.length ≤ 1) : ∀ r : List (List UInt8), (Lib.joinTail sep r).length ≤ (r.map fun p => p.length + 1).sum
  | [] => by simp [Lib.joinTail]
  | k :: l => by
    have h1 := joinTail_le hs l
    unfold Lib.joinTail at h1 ⊢
    simp only [List.map_cons, List.flatten_cons, List.length_append, List.sum_cons]
    omega
theorem join_le {sep : List UInt8} (hs : sep.length ≤ 1) : ∀ r : List (List UInt8), (Lib.join r sep).length ≤ (r.map fun p => p.length + 1).sum
  | [] => by rw [Lib.join_nil]; exact Nat.zero_le _
  | k :: l => by
    have h1 := joinTail_le hs l
    rw [Lib.join_cons]
    simp only [List.map_cons, List.length_append, List.sum_cons]
    omega
theorem sum_mul (f : Re → Nat) (c : Nat) : ∀ l : List Re, (l.map fun k => c * f k).sum = c * (l.map f).sum
  | [] => rfl
  | k :: l => by rw [List.map_cons, List.sum_cons, List.map_cons, List.sum_cons, sum_mul f c l, Nat.mul_add]
theorem sum_mono {f g : Re → Nat} : ∀ {l : List Re}, (∀ k ∈ l, f k ≤ g k) → (l.map f).sum ≤ (l.map g).sum
  | [], _ => Nat.le_refl _
  | k :: l, h => by
    have h1 := h k (by simp)
    have h2 := sum_mono (l := l) fun x hx => h x (by simp [hx])
    rw [List.map_cons, List.sum_cons, List.map_cons, List.sum_cons]
    omega
theorem shp_open {h : Nat} {t : Re} (hs : shp (h + 1) t = true) : okP t ∧ ∀ u ∈ t.kids, shp h u = true := by
  rw [shp] at hs
  simp only [Bool.and_eq_true, List.all_eq_true] at hs
  exact ⟨okN_iff.1 hs.1, hs.2⟩
/-- a node that is a repetition -/
theorem rep_open {t : Re} (h : okP t) (h4 : t.kind = 4) : (0 ≤ t.mn ∧ t.mn ≤ 20) ∧ (-1 ≤ t.mx ∧ t.mx ≤ 20) ∧ ∃ k, t.kids = [k] := by
  obtain ⟨k, s, a, b, l⟩ := t
  change k = 4 at h4
  change (0 ≤ a ∧ a ≤ 20) ∧ (-1 ≤ b ∧ b ≤ 20) ∧ ∃ k, l = [k]
  unfold okP at h
  dsimp only at h
  rcases h with ⟨h, _⟩ | ⟨h, _⟩ | ⟨_, _, hl, h1, h2, h3⟩
  · omega
  · omega
  · refine ⟨⟨h1, h2⟩, by omega, ?_⟩
    match l, hl with
    | [x], _ => exact ⟨x, rfl⟩
theorem kind_open {t : Re} (h : okP t) : t.kind = 1 ∨ t.kind = 2 ∨ t.kind = 3 ∨ t.kind = 4 := by
  obtain ⟨k, s, a, b, l⟩ := t
  change k = 1 ∨ k = 2 ∨ k = 3 ∨ k = 4
  unfold okP at h
  dsimp only at h
  omega
theorem txt_len : ∀ (h : Nat) (t : Re), shp h t = true → (txt h t).length + 3 ≤ 4000 * cnt h t
  | 0, t, hs => by rw [shp] at hs; cases hs
  | h + 1, t, hs => by
    obtain ⟨hok, hk⟩ := shp_open hs
    rw [cnt, txt]
    by_cases h1 : t.kind = 1
    · rw [if_pos h1]
      have := setTx_len (setP t.set)
      omega
    rw [if_neg h1]
    by_cases h4 : t.kind = 4
    · rw [if_pos h4]
      obtain ⟨ha, hb, k, hkk⟩ := rep_open hok h4
      have h2 := txt_len h k (hk k (by rw [hkk]; simp))
      have h3 := rpt_len (a := t.mn) (b := t.mx) (by omega) hb
      rw [hkk]
      have h5 := brk_len (decide (k.kind ≠ 1)) (txt h k)
      simp only [List.getD_cons_zero, List.length_append, List.map_cons, List.map_nil, List.sum_cons, List.sum_nil]
      omega
    rw [if_neg h4]
    have hsep : (if t.kind = 2 then ([] : List UInt8) else [124]).length ≤ 1 := by split <;> simp
    have h2 := join_le hsep (t.kids.map fun k => brk (decide (t.kind = 2 ∧ k.kind = 3)) (txt h k))
    rw [List.map_map] at h2
    have h3 : (t.kids.map ((fun p : List UInt8 => p.length + 1) ∘ fun k => brk (decide (t.kind = 2 ∧ k.kind = 3)) (txt h k))).sum ≤ (t.kids.map fun k => 4000 * cnt h k).sum := sum_mono fun k hm => by
      have h4 := txt_len h k (hk k hm)
      have h5 := brk_len (decide (t.kind = 2 ∧ k.kind = 3)) (txt h k)
      simp only [Function.comp]
      omega
    rw [sum_mul] at h3
    omega
end Go.Proofs.YtnbfifmnigeolaaDoor
