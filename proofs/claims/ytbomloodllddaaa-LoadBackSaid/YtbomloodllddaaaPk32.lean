/- Plain laws: how a program is written as bytes (P25.1). No conditions; no program. -/
import Derived.Test.YtbomloodllddaaaPk15
import Derived.Test.YtbomloodllddaaaPk31
import Derived.Test.YtbomloodllddaaaPk28
import Derived.Test.YtbomloodllddaaaPk09
namespace Go.Proofs.Ytbomloodllddaaa
open Go.RowKit
/-- numbers, none of them below nought -/
def natsI (l : List Int) : List Nat := l.map Int.toNat
def Nums (l : List Int) : Prop := ∀ n ∈ l, 0 ≤ n ∧ n ≤ 9223372036854775807
theorem natsI_len (l : List Int) : (natsI l).length = l.length := by simp [natsI]
theorem natsI_u64 {l : List Int} (h : Nums l) : AllU64 (natsI l) := by
  intro n hn
  obtain ⟨x, hx, rfl⟩ := List.mem_map.1 hn
  have := h x hx
  unfold U64; omega
theorem natsI_take (l : List Int) (k : Nat) (h : k < l.length) : natsI (l.take (k + 1)) = natsI (l.take k) ++ [(l.getD k 0).toNat] := by
  unfold natsI
  rw [List.take_succ_eq_append_getElem h, List.map_append, List.getD_eq_getElem?_getD, List.getElem?_eq_getElem h]; rfl
theorem nums_get {l : List Int} (h : Nums l) (k : Nat) (hk : k < l.length) : 0 ≤ l.getD k 0 ∧ l.getD k 0 ≤ 9223372036854775807 := by
  rw [List.getD_eq_getElem?_getD, List.getElem?_eq_getElem hk]; exact h _ (List.getElem_mem hk)
theorem vputs_len {l : List Nat} (h : AllU64 l) (hl : l.length ≤ 10000000000000) : (vputs l).length ≤ 10 * l.length + 10 := by
  have h1 := vput_len10 (u64_small (n := l.length) (by omega))
  have h2 := vflat_len l h
  unfold vputs
  rw [List.length_append]; omega
/-- a table's bytes, a text's -/
def tabB (t : Int × List Int) : List UInt8 := vput t.1.toNat ++ vputs (natsI t.2)
def txtB (x : List UInt8) : List UInt8 := vput x.length ++ x
def tabsTo (p : Prg) (k : Nat) : List UInt8 := vput p.tabs.length ++ (p.tabs.take k).flatMap tabB
def textsTo (p : Prg) (k : Nat) : List UInt8 := vput p.texts.length ++ (p.texts.take k).flatMap txtB
def sec1 (p : Prg) : List UInt8 := vputs (natsI [p.grow, p.rest, p.extra, p.signs])
def sec3 (p : Prg) : List UInt8 := tabsTo p p.tabs.length
def sec4 (p : Prg) : List UInt8 := textsTo p p.texts.length
def sec5 (p : Prg) : List UInt8 := (vputs p.hash.seeds ++ vputs p.hash.keys) ++ vputs p.hash.vals
def secsI (p : Prg) : List Sec := [(1, sec1 p), (2, (putI p.code).1), (3, sec3 p), (4, sec4 p), (5, sec5 p)]
/-- why a program can't be written -/
def writI (p : Prg) : Int := if (shapeI p).1 = 232 ∨ (shapeI p).1 = 210 then (shapeI p).1 else 0
/-- what is written -/
def encI (p : Prg) : List UInt8 × Int := if writI p ≠ 0 then ([], writI p) else putP (secsI p)
theorem taken_d {α : Type} (l : List α) (d : α) (k : Nat) (h : k < l.length) : l.take (k + 1) = l.take k ++ [l.getD k d] := by
  rw [List.take_succ_eq_append_getElem h, List.getD_eq_getElem?_getD, List.getElem?_eq_getElem h]; rfl
theorem tabsTo_zero (p : Prg) : tabsTo p 0 = vput p.tabs.length := by simp [tabsTo]
theorem textsTo_zero (p : Prg) : textsTo p 0 = vput p.texts.length := by simp [textsTo]
theorem tabsTo_succ (p : Prg) (k : Nat) (h : k < p.tabs.length) : tabsTo p (k + 1) = tabsTo p k ++ tabB (p.tabs.getD k (0, [])) := by
  unfold tabsTo; rw [taken_d _ (0, []) k h, List.flatMap_append, List.append_assoc]; simp
theorem textsTo_succ (p : Prg) (k : Nat) (h : k < p.texts.length) : textsTo p (k + 1) = textsTo p k ++ txtB (p.texts.getD k []) := by
  unfold textsTo; rw [taken_d _ [] k h, List.flatMap_append, List.append_assoc]; simp
/-- what a program that can be written is -/
structure Wrt (p : Prg) : Prop where
  num : Nums [p.grow, p.rest, p.extra, p.signs]
  nt : p.tabs.length ≤ 16
  nx : p.texts.length ≤ 4096
  tab : ∀ k, k < p.tabs.length → (1 ≤ (p.tabs.getD k (0, [])).1 ∧ (p.tabs.getD k (0, [])).1 ≤ 256) ∧ (p.tabs.getD k (0, [])).2.length ≤ 400000 ∧ Nums (p.tabs.getD k (0, [])).2
  txt : ∀ k, k < p.texts.length → (p.texts.getD k []).length ≤ 4096
  nk : p.hash.seeds.length ≤ 4096 ∧ p.hash.keys.length ≤ 4096 ∧ p.hash.vals.length ≤ 4096
  code : (putI p.code).2 = 0
  clen : p.code.length ≤ 4096
  all : p.code.all okI = true
theorem writ_cases (p : Prg) : writI p = 0 ∨ writI p = 232 ∨ writI p = 210 := by
  unfold writI
  split
  · rename_i h; exact .inr h
  · exact .inl rfl
theorem data_wrt {p : Prg} (hd : dataOk p = true) (hc : p.code.length ≤ 4096) (ho : ∀ i, i < p.code.length → badOp p i = false) : Wrt p := by
  obtain ⟨h1, h2, h3, h4, h5, h6, h7, h8⟩ := (data_iff p).1 hd
  unfold smallN at h1 h2 h3
  unfold linOk at h4
  simp only [Bool.and_eq_true, decide_eq_true_eq] at h1 h2 h3
  unfold hokI at h5
  simp only [Bool.and_eq_true, decide_eq_true_eq] at h5
  have hall : p.code.all okI = true := by
    rw [List.all_eq_true]
    intro x hx
    obtain ⟨i, hi, rfl⟩ := List.getElem_of_mem hx
    have := ho i hi
    unfold badOp codeAt at this
    rw [List.getD_eq_getElem?_getD, List.getElem?_eq_getElem hi] at this
    simpa using this
  refine ⟨?_, h4.2.2.1, h4.2.2.2, fun k hk => ?_, fun k hk => ?_, ⟨h5.2.2.1, h5.1, by omega⟩, ?_, hc, hall⟩
  · intro n hn
    simp only [List.mem_cons, List.not_mem_nil, or_false] at hn
    rcases hn with rfl | rfl | rfl | rfl <;> omega
  · have := List.all_eq_true.1 h6 _ (show p.tabs.getD k (0, []) ∈ p.tabs by rw [List.getD_eq_getElem?_getD, List.getElem?_eq_getElem hk]; exact List.getElem_mem hk)
    unfold tabOk at this
    simp only [Bool.and_eq_true, decide_eq_true_eq] at this
    refine ⟨⟨this.1.1, this.1.2.1⟩, this.1.2.2.2.1, fun n hn => ?_⟩
    have := List.all_eq_true.1 this.2 n hn
    unfold numOk at this
    simp only [Bool.and_eq_true, decide_eq_true_eq] at this
    omega
  · have := List.all_eq_true.1 h7 _ (show p.texts.getD k [] ∈ p.texts by rw [List.getD_eq_getElem?_getD, List.getElem?_eq_getElem hk]; exact List.getElem_mem hk)
    simpa using this
  · unfold putI
    rw [if_pos (allI_good (by omega) hall)]
theorem writ_zero {p : Prg} (h : writI p = 0) : dataOk p = true ∧ (1 ≤ p.code.length ∧ p.code.length ≤ 4096) ∧ ∀ i, i < p.code.length → badOp p i = false := by
  unfold writI at h
  by_cases h1 : dataOk p = true
  rotate_left
  · rw [shape_data (by simpa using h1)] at h; simp at h
  by_cases h2 : p.code.length < 1 ∨ 4096 < p.code.length
  · rw [shape_len h1 h2] at h; simp at h
  refine ⟨h1, by omega, ?_⟩
  cases h3 : (List.range p.code.length).find? (badOp p) with
  | some i =>
    have e : shapeI p = (210, (i : Int)) := by unfold shapeI; rw [if_neg (by rw [h1]; decide), if_neg (by omega), h3]
    rw [e] at h; simp at h
  | none =>
    intro i hi
    have := (List.find?_range_eq_none.1 h3) i hi
    simpa using this
theorem writ_wrt {p : Prg} (h : writI p = 0) : Wrt p := by
  obtain ⟨h1, h2, h3⟩ := writ_zero h
  exact data_wrt h1 h2.2 h3
theorem tabB_len {p : Prg} (h : Wrt p) (k : Nat) (hk : k < p.tabs.length) : (tabB (p.tabs.getD k (0, []))).length ≤ 4000020 := by
  obtain ⟨h1, h2, h3⟩ := h.tab k hk
  have a1 := vput_len10 (u64_small (n := (p.tabs.getD k (0, [])).1.toNat) (by omega))
  have a2 := vputs_len (natsI_u64 h3) (by rw [natsI_len]; omega)
  rw [natsI_len] at a2
  unfold tabB
  rw [List.length_append]; omega
theorem tabsTo_len {p : Prg} (h : Wrt p) : ∀ k, k ≤ p.tabs.length → (tabsTo p k).length ≤ 10 + 4000020 * k
  | 0, _ => by rw [tabsTo_zero]; have := h.nt; have := vput_len10 (u64_small (n := p.tabs.length) (by omega)); omega
  | k + 1, hk => by
    have := tabsTo_len h k (by omega)
    have := tabB_len h k (by omega)
    rw [tabsTo_succ p k (by omega), List.length_append]; omega
theorem txtB_len {p : Prg} (h : Wrt p) (k : Nat) (hk : k < p.texts.length) : (txtB (p.texts.getD k [])).length ≤ 4106 := by
  have h1 := h.txt k hk
  have a1 := vput_len10 (u64_small (n := (p.texts.getD k []).length) (by omega))
  unfold txtB
  rw [List.length_append]; omega
theorem textsTo_len {p : Prg} (h : Wrt p) : ∀ k, k ≤ p.texts.length → (textsTo p k).length ≤ 10 + 4106 * k
  | 0, _ => by rw [textsTo_zero]; have := h.nx; have := vput_len10 (u64_small (n := p.texts.length) (by omega)); omega
  | k + 1, hk => by
    have := textsTo_len h k (by omega)
    have := txtB_len h k (by omega)
    rw [textsTo_succ p k (by omega), List.length_append]; omega
theorem getD_u64 {l : List Nat} (h : ∀ k, U64 (l.getD k 0)) : AllU64 l := fun n hn => by
  obtain ⟨i, hi, rfl⟩ := List.getElem_of_mem hn
  have := h i
  rwa [List.getD_eq_getElem?_getD, List.getElem?_eq_getElem hi] at this
theorem putI_len {l : List (Nat → Int)} (h : l.length ≤ 4096) (ha : l.all okI = true) : (putI l).1.length ≤ 163850 := by
  unfold putI
  rw [if_pos (allI_good (by omega) ha)]
  exact putTo_len ha (by omega) _
theorem secs_ok {p : Prg} (h : Wrt p) (hk : AllU64 p.hash.seeds ∧ AllU64 p.hash.keys ∧ AllU64 p.hash.vals) : SecsOk (secsI p) := by
  have a1 := vputs_len (natsI_u64 h.num) (by rw [natsI_len]; simp)
  rw [natsI_len] at a1
  have a2 := putI_len h.clen h.all
  have a3 := tabsTo_len h _ (Nat.le_refl _)
  have a4 := textsTo_len h _ (Nat.le_refl _)
  have b0 := h.nk
  have b1 := vputs_len hk.1 (by omega)
  have b2 := vputs_len hk.2.1 (by omega)
  have b3 := vputs_len hk.2.2 (by omega)
  have c1 := h.nt
  have c2 := h.nx
  have d1 : (sec1 p).length ≤ 140737488351232 := by
    unfold sec1; refine Nat.le_trans a1 ?_; simp only [List.length_cons, List.length_nil]; omega
  have d3 : (sec3 p).length ≤ 140737488351232 := by unfold sec3; omega
  have d4 : (sec4 p).length ≤ 140737488351232 := by unfold sec4; omega
  have d5 : (sec5 p).length ≤ 140737488351232 := by unfold sec5; rw [List.length_append, List.length_append]; omega
  intro x hx
  unfold secsI at hx
  simp only [List.mem_cons, List.not_mem_nil, or_false] at hx
  rcases hx with rfl | rfl | rfl | rfl | rfl
  · exact ⟨u64_small (n := 1) (by omega), d1⟩
  · exact ⟨u64_small (n := 2) (by omega), by show (putI p.code).1.length ≤ _; omega⟩
  · exact ⟨u64_small (n := 3) (by omega), d3⟩
  · exact ⟨u64_small (n := 4) (by omega), d4⟩
  · exact ⟨u64_small (n := 5) (by omega), d5⟩
end Go.Proofs.Ytbomloodllddaaa
