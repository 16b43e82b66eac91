/- Texts that came in, where the input is of bounded bulk. No conditions. -/
import Derived.Test.YtkpdcejnanhgoaaRows
import Derived.Test.YtkpdcejnanhgoaaPk18
namespace Go.Proofs.Ytkpdcejnanhgoaa
open Go.RowKit Go.Deep
theorem bulk_mem {H : Type} : ∀ {ds : List (DataW H)} {d : DataW H}, d ∈ ds → Rows.uptoBulk d ≤ Rows.uptoBulkAll ds
  | [], _, h => by simp at h
  | x :: r, d, h => by
    rw [Rows.uptoBulkAll]
    rcases List.mem_cons.1 h with rfl | h
    · omega
    · have := bulk_mem h; omega
section
variable {H : Type} {enc : TypeId × Value → H} {w : World} {spare : Nat → Bool} {held : Bool}
theorem strs_small {fuel : Nat} {c : Value} {x : DataW H × List MemPlace} (h : DataW.trod enc Try.prog w 0 spare held fuel 31 [c] = some x) {ys : List (List UInt8)} (hr : RowOf strC 1 w c ys) : ∀ y ∈ ys, y.length ≤ Rows.uptoBulk x.1 := by
  intro y hy
  obtain ⟨i, hi, rfl⟩ := List.getElem_of_mem hy
  rcases open_slice Try.underlying31 h with ⟨h0, _⟩ | ⟨a, len, cap, m, n, D, Pl, hcs, hb, hl, hm, hmm, hx, hD⟩
  · obtain ⟨a, c', hc, _⟩ := RowOf.open (f := strC) (sz := 1) (fun _ => rfl) hr
    simp only [List.cons.injEq, and_true] at h0
    rw [hc] at h0
    simp only [Value.slice.injEq] at h0
    omega
  · obtain ⟨a', c', hc, _, _, hcell⟩ := RowOf.open (f := strC) (sz := 1) (fun _ => rfl) hr
    simp only [List.cons.injEq, and_true] at hcs
    rw [hc] at hcs
    simp only [Value.slice.injEq] at hcs
    obtain ⟨rfl, hlen, rfl⟩ := hcs
    rcases hcell with h0 | ⟨b, off, hba, _, hcell⟩
    · omega
    simp only [Option.some.injEq] at hba
    subst hba
    have him : i < m := by rw [hmm]; split <;> omega
    obtain ⟨cs', h1, h2⟩ := hD i him
    have hone : Try.prog.cellsOf 9 = 1 := by kernel_rfl
    rw [hone] at h1
    obtain ⟨_, hcl, hat⟩ := World.cells?_some h1
    obtain ⟨s, rfl, hs, _⟩ := DataW.trod_string Try.underlying9 h2
    have h3 := hat 0 (by decide)
    have h4 := hcell i _ 0 (List.getElem?_eq_getElem hi) (by decide)
    rw [Addr.add_lit, Addr.add_lit, Nat.add_zero] at h3
    rw [show i * 1 + 0 = i * 1 from rfl] at h4
    rw [h4] at h3
    simp only [strC, List.getElem?_cons_zero, Option.some.injEq, Value.string.injEq] at h3
    have h5 : ys[i].length = s.data.toList.length := by rw [← h3]
    have h6 : D i ∈ (List.range len).map D := List.mem_map.2 ⟨i, List.mem_range.2 (by omega), rfl⟩
    have h7 := bulk_mem h6
    simp only [Prod.mk.injEq] at hs
    rw [hs.1, Rows.uptoBulk] at h7
    rw [hx]
    dsimp only
    rw [Rows.uptoBulk]
    omega
end
end Go.Proofs.Ytkpdcejnanhgoaa
