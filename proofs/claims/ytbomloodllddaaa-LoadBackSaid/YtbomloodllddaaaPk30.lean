/- A program that came in, opened. No conditions. -/
import Derived.Test.YtbomloodllddaaaPk15
import Derived.Test.YtbomloodllddaaaPk13
import Derived.Test.YtbomloodllddaaaPk29
namespace Go.Proofs.Ytbomloodllddaaa
open Go.RowKit Go.Deep
theorem flat_pg : flat Try.prog 20 30 = some [.int .i64, .int .i64, .int .i64, .int .i64, .sl 22, .sl 23, .sl 24, .sl 25, .sl 26, .sl 26] := by kernel_rfl
theorem flat_pins : flat Try.prog 20 118 = some [.int .i64, .int .i64, .int .i64, .int .i64, .int .i64] := by kernel_rfl
theorem flat_ptab : flat Try.prog 20 54 = some [.int .i64, .sl 49] := by kernel_rfl
theorem flat_pstr : flat Try.prog 20 9 = some [.str] := by kernel_rfl
theorem flat_pint : flat Try.prog 20 3 = some [.int .i64] := by kernel_rfl
theorem flat_pu32 : flat Try.prog 20 45 = some [.int .u32] := by kernel_rfl
theorem flat_pu64 : flat Try.prog 20 66 = some [.int .u64] := by kernel_rfl
theorem list10 {α : Type} {l : List α} (h : l.length = 10) : ∃ a b c d e f g i j k, l = [a, b, c, d, e, f, g, i, j, k] := by
  match l, h with
  | [a, b, c, d, e, f, g, i, j, k], _ => exact ⟨a, b, c, d, e, f, g, i, j, k, rfl⟩
theorem list5 {α : Type} {l : List α} (h : l.length = 5) : ∃ a b c d e, l = [a, b, c, d, e] := by
  match l, h with
  | [a, b, c, d, e], _ => exact ⟨a, b, c, d, e, rfl⟩
theorem list2 {α : Type} {l : List α} (h : l.length = 2) : ∃ a b, l = [a, b] := by
  match l, h with
  | [a, b], _ => exact ⟨a, b, rfl⟩
theorem list1 {α : Type} {l : List α} (h : l.length = 1) : ∃ a, l = [a] := by
  match l, h with
  | [a], _ => exact ⟨a, rfl⟩
/-- a list chosen, one for each -/
theorem choose_tabs {w : World} : ∀ ys : List (Int × Value), (∀ y ∈ ys, I64 y.1 ∧ ∃ l, RowOf intC 1 w y.2 l) → ∃ ds : List (Int × List Int), ys.length = ds.length ∧ ∀ (i : Nat) t d, ys[i]? = some t → ds[i]? = some d → t.1 = d.1 ∧ I64 d.1 ∧ RowOf intC 1 w t.2 d.2
  | [], _ => ⟨[], rfl, fun i t d h => by simp at h⟩
  | y :: ys, h => by
    obtain ⟨ds, h1, h2⟩ := choose_tabs ys fun z hz => h z (by simp [hz])
    obtain ⟨hi, l, hl⟩ := h y (by simp)
    refine ⟨(y.1, l) :: ds, by simp [h1], fun i t d ht hd => ?_⟩
    cases i with
    | zero => simp at ht hd; subst ht hd; exact ⟨rfl, hi, hl⟩
    | succ i => exact h2 i t d (by simpa using ht) (by simpa using hd)
section
variable {H : Type} {enc : TypeId × Value → H} {w : World} {spare : Nat → Bool} {held : Bool}
theorem slice_rows {α : Type} {f : α → List Value} {G : α → Prop} {t e : TypeId} {n0 : Nat} {ks : List FK} (ht : Try.prog.underlying t = some (.slice e)) (hk : flat Try.prog n0 e = some ks) (hc : Try.prog.cellsOf e = ks.length) (hsz : 0 < ks.length)
    (hp : ∀ cs, AllOk enc Try.prog w 0 spare held ks cs → ∃ y, cs = f y ∧ G y) {fuel : Nat} {c : Value} {x : DataW H × List MemPlace}
    (h : DataW.trod enc Try.prog w 0 spare held fuel t [c] = some x) (hw : Light Try.prog t x.1) : ∃ ys : List α, RowOf f ks.length w c ys ∧ ∀ y ∈ ys, G y := by
  obtain ⟨n, xs, h1, _, h3⟩ := slice_open ht hk hc hsz h hw
  have hl : xs.length = n * ks.length := by obtain ⟨_, _, _, _, _, h, _⟩ := h1; exact h
  obtain ⟨ys, e1, e2, e3⟩ := chunks (f := f) (G := G) n xs hl fun i hi => hp _ (h3 i hi)
  subst e1 e2
  exact ⟨ys, h1, e3⟩
theorem ints_row {t : TypeId} (ht : Try.prog.underlying t = some (.slice 3)) {fuel : Nat} {c : Value} {x : DataW H × List MemPlace} (h : DataW.trod enc Try.prog w 0 spare held fuel t [c] = some x) (hw : Light Try.prog t x.1) : ∃ l, RowOf intC 1 w c l := by
  obtain ⟨ys, h1, _⟩ := slice_rows (f := intC) (G := fun _ => True) ht flat_pint (by kernel_rfl) (by decide) (fun cs ho => by
    obtain ⟨a, rfl⟩ := list1 ho.1
    obtain ⟨z, rfl, _⟩ := ho.2 0 _ a rfl rfl
    exact ⟨z, rfl, trivial⟩) h hw
  exact ⟨ys, h1⟩
theorem u32_row {fuel : Nat} {c : Value} {x : DataW H × List MemPlace} (h : DataW.trod enc Try.prog w 0 spare held fuel 25 [c] = some x) (hw : Light Try.prog 25 x.1) : ∃ l : List Nat, RowOf u32C 1 w c l ∧ ∀ y ∈ l, y < 4294967296 :=
  slice_rows (f := u32C) (G := fun y => y < 4294967296) Try.underlying25 flat_pu32 (by kernel_rfl) (by decide) (fun cs ho => by
    obtain ⟨a, rfl⟩ := list1 ho.1
    obtain ⟨z, rfl, hz⟩ := ho.2 0 _ a rfl rfl
    obtain ⟨n, rfl, hn⟩ := nat_u32 hz
    exact ⟨n, rfl, hn⟩) h hw
theorem u64_row {fuel : Nat} {c : Value} {x : DataW H × List MemPlace} (h : DataW.trod enc Try.prog w 0 spare held fuel 26 [c] = some x) (hw : Light Try.prog 26 x.1) : ∃ l : List Nat, RowOf u64C 1 w c l ∧ ∀ y ∈ l, U64 y :=
  slice_rows (f := u64C) (G := fun y => U64 y) Try.underlying26 flat_pu64 (by kernel_rfl) (by decide) (fun cs ho => by
    obtain ⟨a, rfl⟩ := list1 ho.1
    obtain ⟨z, rfl, hz⟩ := ho.2 0 _ a rfl rfl
    obtain ⟨n, rfl, hn⟩ := nat_u64 hz
    exact ⟨n, rfl, hn⟩) h hw
theorem pg_open {fuel : Nat} {cs : List Value} {x : DataW H × List MemPlace} (hx : DataW.trod enc Try.prog w 0 spare held fuel 30 cs = some x) (hw : Light Try.prog 30 x.1) : ∃ p v, cs = (pgC p v).toList ∧ PrgAt w v p := by
  have hs := flat_open 20 30 _ flat_pg _ _ _ hx hw
  obtain ⟨c0, c1, c2, c3, c4, c5, c6, c7, c8, c9, rfl⟩ := list10 hs.1
  obtain ⟨a0, rfl, w0⟩ := hs.2 0 _ _ rfl rfl
  obtain ⟨a1, rfl, w1⟩ := hs.2 1 _ _ rfl rfl
  obtain ⟨a2, rfl, w2⟩ := hs.2 2 _ _ rfl rfl
  obtain ⟨a3, rfl, w3⟩ := hs.2 3 _ _ rfl rfl
  obtain ⟨m4, y4, h4, l4⟩ := hs.2 4 _ _ rfl rfl
  obtain ⟨m5, y5, h5, l5⟩ := hs.2 5 _ _ rfl rfl
  obtain ⟨m6, y6, h6, l6⟩ := hs.2 6 _ _ rfl rfl
  obtain ⟨m7, y7, h7, l7⟩ := hs.2 7 _ _ rfl rfl
  obtain ⟨m8, y8, h8, l8⟩ := hs.2 8 _ _ rfl rfl
  obtain ⟨m9, y9, h9, l9⟩ := hs.2 9 _ _ rfl rfl
  obtain ⟨code, r4, _⟩ := slice_rows (f := icL) (G := fun _ => True) Try.underlying22 flat_pins (by kernel_rfl) (by decide) (fun cs ho => by
    obtain ⟨b0, b1, b2, b3, b4, rfl⟩ := list5 ho.1
    obtain ⟨z0, rfl, _⟩ := ho.2 0 _ _ rfl rfl
    obtain ⟨z1, rfl, _⟩ := ho.2 1 _ _ rfl rfl
    obtain ⟨z2, rfl, _⟩ := ho.2 2 _ _ rfl rfl
    obtain ⟨z3, rfl, _⟩ := ho.2 3 _ _ rfl rfl
    obtain ⟨z4, rfl, _⟩ := ho.2 4 _ _ rfl rfl
    exact ⟨fun j => [z0, z1, z2, z3, z4].getD j 0, rfl, trivial⟩) h4 l4
  obtain ⟨ts, r5, g5⟩ := slice_rows (f := tbC) (G := fun t => I64 t.1 ∧ ∃ l, RowOf intC 1 w t.2 l) Try.underlying23 flat_ptab (by kernel_rfl) (by decide) (fun cs ho => by
    obtain ⟨b0, b1, rfl⟩ := list2 ho.1
    obtain ⟨z0, rfl, hz⟩ := ho.2 0 _ _ rfl rfl
    obtain ⟨m, y, hy, ly⟩ := ho.2 1 _ _ rfl rfl
    exact ⟨(z0, b1), rfl, int_i64 hz, ints_row Try.underlying49 hy ly⟩) h5 l5
  obtain ⟨tx, r6, g6⟩ := slice_rows (f := strC) (G := fun l => l.length ≤ 140737488351232) Try.underlying24 flat_pstr (by kernel_rfl) (by decide) (fun cs ho => by
    obtain ⟨b0, rfl⟩ := list1 ho.1
    obtain ⟨z0, rfl, hz⟩ := ho.2 0 _ _ rfl rfl
    exact ⟨z0.data.toList, rfl, by simpa using hz⟩) h6 l6
  obtain ⟨ks, r7, g7⟩ := u32_row h7 l7
  obtain ⟨kk, r8, g8⟩ := u64_row h8 l8
  obtain ⟨kv, r9, g9⟩ := u64_row h9 l9
  obtain ⟨tabs, e1, e2⟩ := choose_tabs ts g5
  have getG : ∀ {G : Nat → Prop} (l : List Nat) (k : Nat), G 0 → (∀ y ∈ l, G y) → G (l.getD k 0) := fun {G} l k h0 h => by
    rw [List.getD_eq_getElem?_getD]
    cases e : l[k]? with
    | none => exact h0
    | some y => exact h y (List.mem_of_getElem? e)
  exact ⟨⟨a0, a1, a2, a3, code, tabs, tx, ⟨ks, kk, kv⟩⟩, ⟨c4, c5, c6, c7, c8, c9⟩, rfl, ⟨⟨int_i64 w0, int_i64 w1, int_i64 w2, int_i64 w3⟩, r4, ⟨ts, r5, e1, e2⟩, r6, ⟨r7, r8, r9, fun k => getG ks k (by decide) g7, fun k => getG kk k (u64_small (by decide)) g8, fun k => getG kv k (u64_small (by decide)) g9⟩, g6⟩⟩
end
end Go.Proofs.Ytbomloodllddaaa
/- Walks: few instructions and numbers; the statement VerifyChecks. Condition: the program lies in memory. -/
namespace Go.Proofs.Ytbomloodllddaaa
open Go.RowKit
end Go.Proofs.Ytbomloodllddaaa
