/- Plain laws: which programs are whole (P23.1). No conditions; no program. -/
import Derived.Test.YtkhggnlanopgkaaPrgSpec
import Derived.Test.YtkhggnlanopgkaaVerSpec
namespace Go.Proofs.Ytkhggnlanopgkaa
open Go.RowKit
abbrev codeAt (p : Prg) (i : Nat) : Nat → Int := p.code.getD i (fun _ => 0)
def badOp (p : Prg) (i : Nat) : Bool := !okI (codeAt p i)
def badJump (p : Prg) (i : Nat) : Bool := decide ((p.code.length : Int) ≤ codeAt p i 3) || (decide (codeAt p i 0 = 8) && decide ((p.tabs.length : Int) ≤ codeAt p i 4))
def endOk (p : Prg) : Bool := decide (codeAt p (p.code.length - 1) 0 = 1) || decide (codeAt p (p.code.length - 1) 0 = 4)
/-- why a program is not whole, and where -/
def shapeI (p : Prg) : Int × Int :=
  if dataOk p = false then (232, -1) else if p.code.length < 1 ∨ 4096 < p.code.length then (210, -1)
  else match (List.range p.code.length).find? (badOp p) with
    | some i => (210, (i : Int))
    | none => match (List.range p.code.length).find? (badJump p) with
      | some i => (230, (i : Int))
      | none => if endOk p = false then (230, (p.code.length : Int) - 1) else (0, 0)
theorem fst_some {n k : Nat} {f : Nat → Bool} (hk : k < n) (h : f k = true) (hl : ∀ i, i < k → f i = false) : (List.range n).find? f = some k := by
  rw [List.find?_range_eq_some]
  exact ⟨h, List.mem_range.2 hk, fun j hj => by rw [hl j hj]; rfl⟩
theorem fst_none {n : Nat} {f : Nat → Bool} (hl : ∀ i, i < n → f i = false) : (List.range n).find? f = none := by
  rw [List.find?_range_eq_none]
  exact fun j hj => by rw [hl j hj]; rfl
theorem shape_data {p : Prg} (h : dataOk p = false) : shapeI p = (232, -1) := by unfold shapeI; rw [if_pos h]
theorem shape_len {p : Prg} (h : dataOk p = true) (hl : p.code.length < 1 ∨ 4096 < p.code.length) : shapeI p = (210, -1) := by
  unfold shapeI; rw [if_neg (by rw [h]; decide), if_pos hl]
theorem shape_op {p : Prg} (h : dataOk p = true) (hl : 1 ≤ p.code.length ∧ p.code.length ≤ 4096) {k : Nat} (hk : k < p.code.length) (hb : badOp p k = true) (ha : ∀ i, i < k → badOp p i = false) : shapeI p = (210, (k : Int)) := by
  unfold shapeI; rw [if_neg (by rw [h]; decide), if_neg (by omega), fst_some hk hb ha]
theorem shape_jump {p : Prg} (h : dataOk p = true) (hl : 1 ≤ p.code.length ∧ p.code.length ≤ 4096) (ho : ∀ i, i < p.code.length → badOp p i = false) {k : Nat} (hk : k < p.code.length) (hb : badJump p k = true) (ha : ∀ i, i < k → badJump p i = false) : shapeI p = (230, (k : Int)) := by
  unfold shapeI; rw [if_neg (by rw [h]; decide), if_neg (by omega), fst_none ho]; dsimp only; rw [fst_some hk hb ha]
theorem shape_end {p : Prg} (h : dataOk p = true) (hl : 1 ≤ p.code.length ∧ p.code.length ≤ 4096) (ho : ∀ i, i < p.code.length → badOp p i = false) (hj : ∀ i, i < p.code.length → badJump p i = false) : shapeI p = if endOk p = false then (230, (p.code.length : Int) - 1) else (0, 0) := by
  unfold shapeI; rw [if_neg (by rw [h]; decide), if_neg (by omega), fst_none ho]; dsimp only; rw [fst_none hj]
/-- what a whole program is -/
structure Whole (p : Prg) : Prop where
  data : dataOk p = true
  len : 1 ≤ p.code.length ∧ p.code.length ≤ 4096
  op : ∀ i, i < p.code.length → okI (codeAt p i) = true
  jump : ∀ i, i < p.code.length → badJump p i = false
  last : endOk p = true
theorem shape_whole {p : Prg} (h : (shapeI p).1 = 0) : Whole p ∧ shapeI p = (0, 0) := by
  by_cases h1 : dataOk p = true
  rotate_left
  · rw [shape_data (by simpa using h1)] at h; simp at h
  by_cases h2 : p.code.length < 1 ∨ 4096 < p.code.length
  · rw [shape_len h1 h2] at h; simp at h
  have h2' : 1 ≤ p.code.length ∧ p.code.length ≤ 4096 := by omega
  cases h3 : (List.range p.code.length).find? (badOp p) with
  | some i =>
    unfold shapeI at h
    rw [if_neg (by rw [h1]; decide), if_neg (by omega), h3] at h; simp at h
  | none =>
    have ho : ∀ i, i < p.code.length → badOp p i = false := fun i hi => by
      have := (List.find?_range_eq_none.1 h3) i hi
      simpa using this
    cases h4 : (List.range p.code.length).find? (badJump p) with
    | some i =>
      unfold shapeI at h
      rw [if_neg (by rw [h1]; decide), if_neg (by omega), h3] at h
      dsimp only at h
      rw [h4] at h; simp at h
    | none =>
      have hj : ∀ i, i < p.code.length → badJump p i = false := fun i hi => by
        have := (List.find?_range_eq_none.1 h4) i hi
        simpa using this
      have e := shape_end h1 h2' ho hj
      by_cases h5 : endOk p = false
      · rw [e, if_pos h5] at h; simp at h
      · rw [if_neg h5] at e
        refine ⟨⟨h1, h2', fun i hi => ?_, hj, by simpa using h5⟩, e⟩
        have := ho i hi
        unfold badOp at this; simpa using this
theorem Whole.shape {p : Prg} (h : Whole p) : shapeI p = (0, 0) := by
  rw [shape_end h.data h.len (fun i hi => by unfold badOp; rw [h.op i hi]; rfl) h.jump, if_neg (by rw [h.last]; decide)]
theorem shape_cases (p : Prg) : (shapeI p).1 = 0 ∨ (shapeI p).1 = 232 ∨ (shapeI p).1 = 210 ∨ (shapeI p).1 = 230 := by
  unfold shapeI
  split
  · exact .inr (.inl rfl)
  · split
    · exact .inr (.inr (.inl rfl))
    · split
      · exact .inr (.inr (.inl rfl))
      · split
        · exact .inr (.inr (.inr rfl))
        · split
          · exact .inr (.inr (.inr rfl))
          · exact .inl rfl
end Go.Proofs.Ytkhggnlanopgkaa
