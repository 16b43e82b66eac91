/- Plain laws: how a program is written as bytes (P25.1). No conditions; no program. -/
import Derived.Test.YtbomloodllddaaaPk12
import Derived.Test.YtbomloodllddaaaPk31
import Derived.Test.YtbomloodllddaaaPk24
import Derived.Test.YtbomloodllddaaaPk07
import Derived.Test.YtbomloodllddaaaPk08
namespace Go.Proofs.Ytbomloodllddaaa
open Go.RowKit
/-- numbers, none of them below nought -/
def natsI (l : List Int) : List Nat := l.map Int.toNat
def Nums (l : List Int) : Prop := ∀ n ∈ l, 0 ≤ n ∧ n ≤ 9223372036854775807
theorem natsI_len (l : List Int) : (natsI l).length = l.length := by simp [natsI]
theorem natsI_u64 {l : List Int} (h : Nums l) : AllU64 (natsI l) := by
  intro n hn
  obtain ⟨x, hx, rfl⟩ := List.mem_map.1 hn
  have := h x hx
  unfold U64; omega
theorem natsI_take (l : List Int) (k : Nat) (h : k < l.length) : natsI (l.take (k + 1)) = natsI (l.take k) ++ [(l.getD k 0).toNat] := by
  unfold natsI
  rw [List.take_succ_eq_append_getElem h, List.map_append, List.getD_eq_getElem?_getD, List.getElem?_eq_getElem h]; rfl
theorem nums_get {l : List Int} (h : Nums l) (k : Nat) (hk : k < l.length) : 0 ≤ l.getD k 0 ∧ l.getD k 0 ≤ 9223372036854775807 := by
  rw [List.getD_eq_getElem?_getD, List.getElem?_eq_getElem hk]; exact h _ (List.getElem_mem hk)
theorem vputs_len {l : List Nat} (h : AllU64 l) (hl : l.length ≤ 10000000000000) : (vputs l).length ≤ 10 * l.length + 10 := by
  have h1 := vput_len10 (u64_small (n := l.length) (by omega))
  have h2 := vflat_len l h
  unfold vputs
  rw [List.length_append]; omega
/-- a table's bytes, a text's -/
def tabB (t : Int × List Int) : List UInt8 := vput t.1.toNat ++ vputs (natsI t.2)
def txtB (x : List UInt8) : List UInt8 := vput x.length ++ x
def tabsTo (p : Prg) (k : Nat) : List UInt8 := vput p.tabs.length ++ (p.tabs.take k).flatMap tabB
def textsTo (p : Prg) (k : Nat) : List UInt8 := vput p.texts.length ++ (p.texts.take k).flatMap txtB
def sec1 (p : Prg) : List UInt8 := vputs (natsI [p.grow, p.rest, p.extra, p.signs])
def sec3 (p : Prg) : List UInt8 := tabsTo p p.tabs.length
def sec4 (p : Prg) : List UInt8 := textsTo p p.texts.length
def sec5 (p : Prg) : List UInt8 := (vputs p.hash.seeds ++ vputs p.hash.keys) ++ vputs p.hash.vals
def secsI (p : Prg) : List Sec := [(1, sec1 p), (2, (putI p.code).1), (3, sec3 p), (4, sec4 p), (5, sec5 p)]
/-- why a program can't be written -/
def writI (p : Prg) : Int := if (shapeI p).1 = 232 ∨ (shapeI p).1 = 210 then (shapeI p).1 else 0
/-- what is written -/
def encI (p : Prg) : List UInt8 × Int := if writI p ≠ 0 then ([], writI p) else putP (secsI p)
theorem taken_d {α : Type} (l : List α) (d : α) (k : Nat) (h : k < l.length) : l.take (k + 1) = l.take k ++ [l.getD k d] := by
  rw [List.take_succ_eq_append_getElem h, List.getD_eq_getElem?_getD, List.getElem?_eq_getElem h]; rfl
theorem tabsTo_zero (p : Prg) : tabsTo p 0 = vput p.tabs.length := by simp [tabsTo]
theorem textsTo_zero (p : Prg) : textsTo p 0 = vput p.texts.length := by simp [textsTo]
theorem tabsTo_succ (p : Prg) (k : Nat) (h : k < p.tabs.length) : tabsTo p (k + 1) = tabsTo p k ++ tabB (p.tabs.getD k (0, [])) := by
  unfold tabsTo; rw [taken_d _ (0, []) k h, List.flatMap_append, List.append_assoc]; simp
theorem textsTo_succ (p : Prg) (k : Nat) (h : k < p.texts.length) : textsTo p (k + 1) = textsTo p k ++ txtB (p.texts.getD k []) := by
  unfold textsTo; rw [taken_d _ [] k h, List.flatMap_append, List.append_assoc]; simp
/-- what a program that can be written is -/
structure Wrt (p : Prg) : Prop where
  num : Nums [p.grow, p.rest, p.extra, p.signs]
  nt : p.tabs.length ≤ 16
  nx : p.texts.length ≤ 4096
  tab : ∀ k, k < p.tabs.length → (1 ≤ (p.tabs.getD k (0, [])).1 ∧ (p.tabs.getD k (0, [])).1 ≤ 256) ∧ (p.tabs.getD k (0, [])).2.length ≤ 400000 ∧ Nums (p.tabs.getD k (0, [])).2
  txt : ∀ k, k < p.texts.length → (p.texts.getD k []).length ≤ 4096
  nk : p.hash.seeds.length ≤ 4096 ∧ p.hash.keys.length ≤ 4096 ∧ p.hash.vals.length ≤ 4096
  code : (putI p.code).2 = 0
  clen : p.code.length ≤ 4096
  all : p.code.all okI = true
theorem data_wrt {p : Prg} (hd : dataOk p = true) (hc : p.code.length ≤ 4096) (ho : ∀ i, i < p.code.length → badOp p i = false) : Wrt p := by
  obtain ⟨h1, h2, h3, h4, h5, h6, h7, h8⟩ := (data_iff p).1 hd
  unfold smallN at h1 h2 h3
  unfold linOk at h4
  simp only [Bool.and_eq_true, decide_eq_true_eq] at h1 h2 h3
  unfold hokI at h5
  simp only [Bool.and_eq_true, decide_eq_true_eq] at h5
  have hall : p.code.all okI = true := by
    rw [List.all_eq_true]
    intro x hx
    obtain ⟨i, hi, rfl⟩ := List.getElem_of_mem hx
    have := ho i hi
    unfold badOp codeAt at this
    rw [List.getD_eq_getElem?_getD, List.getElem?_eq_getElem hi] at this
    simpa using this
  refine ⟨?_, h4.2.2.1, h4.2.2.2, fun k hk => ?_, fun k hk => ?_, ⟨h5.2.2.1, h5.1, by omega⟩, ?_, hc, hall⟩
  · intro n hn
    simp only [List.mem_cons, List.not_mem_nil, or_false] at hn
    rcases hn with rfl | rfl | rfl | rfl <;> omega
  · have := List.all_eq_true.1 h6 _ (show p.tabs.getD k (0, []) ∈ p.tabs by rw [List.getD_eq_getElem?_getD, List.getElem?_eq_getElem hk]; exact List.getElem_mem hk)
    unfold tabOk at this
    simp only [Bool.and_eq_true, decide_eq_true_eq] at this
    refine ⟨⟨this.1.1, this.1.2.1⟩, this.1.2.2.2.1, fun n hn => ?_⟩
    have := List.all_eq_true.1 this.2 n hn
    unfold numOk at this
    simp only [Bool.and_eq_true, decide_eq_true_eq] at this
    omega
  · have := List.all_eq_true.1 h7 _ (show p.texts.getD k [] ∈ p.texts by rw [List.getD_eq_getElem?_getD, List.getElem?_eq_getElem hk]; exact List.getElem_mem hk)
    simpa using this
  · unfold putI
    rw [if_pos (allI_good (by omega) hall)]
theorem writ_zero {p : Prg} (h : writI p = 0) : dataOk p = true ∧ (1 ≤ p.code.length ∧ p.code.length ≤ 4096) ∧ ∀ i, i < p.code.length → badOp p i = false := by
  unfold writI at h
  by_cases h1 : dataOk p = true
  rotate_left
  · rw [shape_data (by simpa using h1)] at h; simp at h
  by_cases h2 : p.code.length < 1 ∨ 4096 < p.code.length
  · rw [shape_len h1 h2] at h; simp at h
  refine ⟨h1, by omega, ?_⟩
  cases h3 : (List.range p.code.length).find? (badOp p) with
  | some i =>
    have e : shapeI p = (210, (i : Int)) := by unfold shapeI; rw [if_neg (by rw [h1]; decide), if_neg (by omega), h3]
    rw [e] at h; simp at h
  | none =>
    intro i hi
    have := (List.find?_range_eq_none.1 h3) i hi
    simpa using this
theorem writ_wrt {p : Prg} (h : writI p = 0) : Wrt p := by
  obtain ⟨h1, h2, h3⟩ := writ_zero h
  exact data_wrt h1 h2.2 h3
theorem tabB_len {p : Prg} (h : Wrt p) (k : Nat) (hk : k < p.tabs.length) : (tabB (p.tabs.getD k (0, []))).length ≤ 4000020 := by
  obtain ⟨h1, h2, h3⟩ := h.tab k hk
  have a1 := vput_len10 (u64_small (n := (p.tabs.getD k (0, [])).1.toNat) (by omega))
  have a2 := vputs_len (natsI_u64 h3) (by rw [natsI_len]; omega)
  rw [natsI_len] at a2
  unfold tabB
  rw [List.length_append]; omega
theorem tabsTo_len {p : Prg} (h : Wrt p) : ∀ k, k ≤ p.tabs.length → (tabsTo p k).length ≤ 10 + 4000020 * k
  | 0, _ => by rw [tabsTo_zero]; have := h.nt; have := vput_len10 (u64_small (n := p.tabs.length) (by omega)); omega
  | k + 1, hk => by
    have := tabsTo_len h k (by omega)
    have := tabB_len h k (by omega)
    rw [tabsTo_succ p k (by omega), List.length_append]; omega
theorem txtB_len {p : Prg} (h : Wrt p) (k : Nat) (hk : k < p.texts.length) : (txtB (p.texts.getD k [])).length ≤ 4106 := by
  have h1 := h.txt k hk
  have a1 := vput_len10 (u64_small (n := (p.texts.getD k []).length) (by omega))
  unfold txtB
  rw [List.length_append]; omega
theorem textsTo_len {p : Prg} (h : Wrt p) : ∀ k, k ≤ p.texts.length → (textsTo p k).length ≤ 10 + 4106 * k
  | 0, _ => by rw [textsTo_zero]; have := h.nx; have := vput_len10 (u64_small (n := p.texts.length) (by omega)); omega
  | k + 1, hk => by
    have := textsTo_len h k (by omega)
    have := txtB_len h k (by omega)
    rw [textsTo_succ p k (by omega), List.length_append]; omega
theorem getD_u64 {l : List Nat} (h : ∀ k, U64 (l.getD k 0)) : AllU64 l := fun n hn => by
  obtain ⟨i, hi, rfl⟩ := List.getElem_of_mem hn
  have := h i
  rwa [List.getD_eq_getElem?_getD, List.getElem?_eq_getElem hi] at this
theorem putI_len {l : List (Nat → Int)} (h : l.length ≤ 4096) (ha : l.all okI = true) : (putI l).1.length ≤ 163850 := by
  unfold putI
  rw [if_pos (allI_good (by omega) ha)]
  exact putTo_len ha (by omega) _
theorem secs_ok {p : Prg} (h : Wrt p) (hk : AllU64 p.hash.seeds ∧ AllU64 p.hash.keys ∧ AllU64 p.hash.vals) : SecsOk (secsI p) := by
  have a1 := vputs_len (natsI_u64 h.num) (by rw [natsI_len]; simp)
  rw [natsI_len] at a1
  have a2 := putI_len h.clen h.all
  have a3 := tabsTo_len h _ (Nat.le_refl _)
  have a4 := textsTo_len h _ (Nat.le_refl _)
  have b0 := h.nk
  have b1 := vputs_len hk.1 (by omega)
  have b2 := vputs_len hk.2.1 (by omega)
  have b3 := vputs_len hk.2.2 (by omega)
  have c1 := h.nt
  have c2 := h.nx
  have d1 : (sec1 p).length ≤ 140737488351232 := by
    unfold sec1; refine Nat.le_trans a1 ?_; simp only [List.length_cons, List.length_nil]; omega
  have d3 : (sec3 p).length ≤ 140737488351232 := by unfold sec3; omega
  have d4 : (sec4 p).length ≤ 140737488351232 := by unfold sec4; omega
  have d5 : (sec5 p).length ≤ 140737488351232 := by unfold sec5; rw [List.length_append, List.length_append]; omega
  intro x hx
  unfold secsI at hx
  simp only [List.mem_cons, List.not_mem_nil, or_false] at hx
  rcases hx with rfl | rfl | rfl | rfl | rfl
  · exact ⟨u64_small (n := 1) (by omega), d1⟩
  · exact ⟨u64_small (n := 2) (by omega), by show (putI p.code).1.length ≤ _; omega⟩
  · exact ⟨u64_small (n := 3) (by omega), d3⟩
  · exact ⟨u64_small (n := 4) (by omega), d4⟩
  · exact ⟨u64_small (n := 5) (by omega), d5⟩
end Go.Proofs.Ytbomloodllddaaa
/- Plain laws: how bytes are read as a program (P25.2). No conditions; no program. -/
namespace Go.Proofs.Ytbomloodllddaaa
open Go.RowKit
/-- the greatest number that is taken, 2^62 -/
def W62 : Nat := 4611686018427387904
def cutI (n : Nat) : Int := (min n W62 : Nat)
def cutL (l : List Nat) : List Int := l.map cutI
def wideL (l : List Nat) : Bool := l.any fun n => decide (W62 < n)
theorem cutL_len (l : List Nat) : (cutL l).length = l.length := by simp [cutL]
/-- a section's error -/
def errS (len : Nat) (a bad : Int) (wide : Bool) : Int := if bad ≠ 0 then bad else if a ≠ len ∨ wide = true then 21 else 0
/-- numbers are read on -/
def rdL (s : List UInt8) (a bad most : Int) : List Nat × Int × Int := if bad ≠ 0 then ([], a, bad) else geta s a most
/-- a count: how many, the place behind -/
def rdC (s : List UInt8) (most : Nat) : Nat × Int × Int := if (vget s 0).2.2 ≠ 0 then (0, 0, (vget s 0).2.2) else if most < (vget s 0).1 then (0, 0, 2) else vget s 0
/-- the first section -/
def sec1L (s : List UInt8) : List Nat := (geta s 0 4).1
def sec1B (s : List UInt8) : Int := if (geta s 0 4).2.2 = 0 ∧ (sec1L s).length ≠ 4 then 21 else (geta s 0 4).2.2
def err1 (s : List UInt8) : Int := errS s.length (geta s 0 4).2.1 (sec1B s) (wideL (sec1L s))
/-- a table: its numbers, the place behind, the error, was one too wide? -/
def tab1 (s : List UInt8) (a : Int) : (Int × List Int) × Int × Int × Bool :=
  ((cutI (vget s a).1, cutL (rdL s (vget s a).2.1 (vget s a).2.2 400000).1), (rdL s (vget s a).2.1 (vget s a).2.2 400000).2.1, (rdL s (vget s a).2.1 (vget s a).2.2 400000).2.2, decide (W62 < (vget s a).1) || wideL (rdL s (vget s a).2.1 (vget s a).2.2 400000).1)
/-- n tables from a place on -/
def tabsF (s : List UInt8) : Nat → Int → List (Int × List Int) × Int × Int × Bool
  | 0, a => ([], a, 0, false)
  | n + 1, a => if (tab1 s a).2.2.1 ≠ 0 then ([], 0, (tab1 s a).2.2.1, false) else
      if (tabsF s n (tab1 s a).2.1).2.2.1 ≠ 0 then ([], 0, (tabsF s n (tab1 s a).2.1).2.2.1, false) else
      ((tab1 s a).1 :: (tabsF s n (tab1 s a).2.1).1, (tabsF s n (tab1 s a).2.1).2.1, 0, (tab1 s a).2.2.2 || (tabsF s n (tab1 s a).2.1).2.2.2)
def sec3F (s : List UInt8) : List (Int × List Int) × Int × Int × Bool :=
  if (rdC s 16).2.2 ≠ 0 then ([], 0, (rdC s 16).2.2, false) else tabsF s (rdC s 16).1 (rdC s 16).2.1
def err3 (s : List UInt8) : Int := errS s.length (sec3F s).2.1 (sec3F s).2.2.1 (sec3F s).2.2.2
/-- n texts from a place on -/
def textsF (s : List UInt8) : Nat → Int → List (List UInt8) × Int × Int
  | 0, a => ([], a, 0)
  | n + 1, a => if (gett s a 4096).2.2 ≠ 0 then ([], 0, (gett s a 4096).2.2) else
      if (textsF s n (gett s a 4096).2.1).2.2 ≠ 0 then ([], 0, (textsF s n (gett s a 4096).2.1).2.2) else
      ((gett s a 4096).1 :: (textsF s n (gett s a 4096).2.1).1, (textsF s n (gett s a 4096).2.1).2.1, 0)
def sec4F (s : List UInt8) : List (List UInt8) × Int × Int :=
  if (rdC s 4096).2.2 ≠ 0 then ([], 0, (rdC s 4096).2.2) else textsF s (rdC s 4096).1 (rdC s 4096).2.1
def err4 (s : List UInt8) : Int := errS s.length (sec4F s).2.1 (sec4F s).2.2 false
/-- the last section -/
def wide32 (l : List Nat) : Bool := l.any fun n => decide (4294967295 < n)
def low32 (l : List Nat) : List Nat := l.map (· % 4294967296)
def seedF (s : List UInt8) : List Nat × Int × Int := geta s 0 4096
def keyF (s : List UInt8) : List Nat × Int × Int := rdL s (seedF s).2.1 (seedF s).2.2 4096
def valF (s : List UInt8) : List Nat × Int × Int := rdL s (keyF s).2.1 (keyF s).2.2 4096
def err5 (s : List UInt8) : Int := errS s.length (valF s).2.1 (valF s).2.2 (wide32 (seedF s).1)
/-- the program of which nothing has been read -/
def prg0 : Prg := ⟨0, 0, 0, 0, [], [], [], ⟨[], [], []⟩⟩
/-- the k-th section's error, the program with it -/
def secE (k : Nat) (s : List UInt8) : Int := match k with
  | 0 => err1 s
  | 1 => (getI s).1
  | 2 => err3 s
  | 3 => err4 s
  | _ => err5 s
def secP (k : Nat) (s : List UInt8) (p : Prg) : Prg := match k with
  | 0 => { p with grow := (cutL (sec1L s)).getD 0 0, rest := (cutL (sec1L s)).getD 1 0, extra := (cutL (sec1L s)).getD 2 0, signs := (cutL (sec1L s)).getD 3 0 }
  | 1 => { p with code := (getI s).2 }
  | 2 => { p with tabs := (sec3F s).1 }
  | 3 => { p with texts := (sec4F s).1 }
  | _ => { p with hash := ⟨low32 (seedF s).1, (keyF s).1, (valF s).1⟩ }
def bodyS (l : List Sec) (k : Nat) : List UInt8 := (l.getD k (0, [])).2
def errTo (l : List Sec) : Nat → Int
  | 0 => 0
  | k + 1 => if errTo l k ≠ 0 then errTo l k else secE k (bodyS l k)
def prgTo (l : List Sec) : Nat → Prg
  | 0 => prg0
  | k + 1 => secP k (bodyS l k) (prgTo l k)
def kindsOk (l : List Sec) : Bool := decide (l.length = 5) && (List.range 5).all fun k => decide ((l.getD k (0, [])).1 = k + 1)
/-- what sections are read as -/
def decS (l : List Sec) : Prg × Int :=
  if kindsOk l = false then (prg0, 21) else if errTo l 5 ≠ 0 then (prg0, errTo l 5) else if writI (prgTo l 5) ≠ 0 then (prg0, writI (prgTo l 5)) else (prgTo l 5, 0)
/-- what is read of any bytes -/
def decI (t : List UInt8) : Prg × Int := if (getP t).2 ≠ 0 then (prg0, (getP t).2) else decS (getP t).1
theorem errTo_stop {l : List Sec} {k n : Nat} (h : errTo l k ≠ 0) (hk : k ≤ n) : errTo l n = errTo l k := by
  induction n with
  | zero =>
    obtain rfl : k = 0 := by omega
    rfl
  | succ n ih =>
    rcases Nat.lt_or_ge n k with h1 | h1
    · obtain rfl : k = n + 1 := by omega
      rfl
    · have := ih h1
      rw [errTo, if_pos (by rw [this]; exact h), this]
/-- tables ahead of what is read -/
def aheadT (l : List (Int × List Int)) (wd : Bool) (q : List (Int × List Int) × Int × Int × Bool) : List (Int × List Int) × Int × Int × Bool :=
  if q.2.2.1 ≠ 0 then ([], 0, q.2.2.1, false) else (l ++ q.1, q.2.1, 0, wd || q.2.2.2)
theorem tabsF_bad (s : List UInt8) : ∀ (n : Nat) (a : Int), (tabsF s n a).2.2.1 ≠ 0 → tabsF s n a = ([], 0, (tabsF s n a).2.2.1, false)
  | 0, a, h => absurd rfl h
  | n + 1, a, h => by
    unfold tabsF at h ⊢
    by_cases h1 : (tab1 s a).2.2.1 ≠ 0
    · rw [if_pos h1]
    · rw [if_neg h1] at h ⊢
      by_cases h2 : (tabsF s n (tab1 s a).2.1).2.2.1 ≠ 0
      · rw [if_pos h2]
      · rw [if_neg h2] at h; exact absurd rfl h
theorem aheadT_nil (s : List UInt8) (n : Nat) (a : Int) : aheadT [] false (tabsF s n a) = tabsF s n a := by
  unfold aheadT
  by_cases h : (tabsF s n a).2.2.1 ≠ 0
  · rw [if_pos h]; exact (tabsF_bad s n a h).symm
  · rw [if_neg h]
    have : (tabsF s n a).2.2.1 = 0 := by simpa using h
    generalize tabsF s n a = q at this ⊢
    obtain ⟨q1, q2, q3, q4⟩ := q
    dsimp only at this
    subst this; simp
theorem aheadT_zero (s : List UInt8) (l : List (Int × List Int)) (wd : Bool) (a : Int) : aheadT l wd (tabsF s 0 a) = (l, a, 0, wd) := by simp [aheadT, tabsF]
theorem aheadT_bad {s : List UInt8} (l : List (Int × List Int)) (wd : Bool) {n : Nat} {a : Int} (h : (tab1 s a).2.2.1 ≠ 0) : aheadT l wd (tabsF s (n + 1) a) = ([], 0, (tab1 s a).2.2.1, false) := by
  unfold tabsF
  rw [if_pos h]; exact if_pos h
theorem aheadT_step {s : List UInt8} (l : List (Int × List Int)) (wd : Bool) {n : Nat} {a : Int} (h : (tab1 s a).2.2.1 = 0) :
    aheadT l wd (tabsF s (n + 1) a) = aheadT (l ++ [(tab1 s a).1]) (wd || (tab1 s a).2.2.2) (tabsF s n (tab1 s a).2.1) := by
  conv => lhs; unfold tabsF
  rw [if_neg (by simpa using h)]
  by_cases h2 : (tabsF s n (tab1 s a).2.1).2.2.1 ≠ 0
  · rw [if_pos h2]; unfold aheadT; rw [if_pos h2, if_pos h2]
  · rw [if_neg h2]; unfold aheadT; rw [if_neg h2, if_neg (by simp)]
    simp [Bool.or_assoc]
/-- texts ahead of what is read -/
def aheadX (l : List (List UInt8)) (q : List (List UInt8) × Int × Int) : List (List UInt8) × Int × Int := if q.2.2 ≠ 0 then ([], 0, q.2.2) else (l ++ q.1, q.2.1, 0)
theorem textsF_bad (s : List UInt8) : ∀ (n : Nat) (a : Int), (textsF s n a).2.2 ≠ 0 → textsF s n a = ([], 0, (textsF s n a).2.2)
  | 0, a, h => absurd rfl h
  | n + 1, a, h => by
    unfold textsF at h ⊢
    by_cases h1 : (gett s a 4096).2.2 ≠ 0
    · rw [if_pos h1]
    · rw [if_neg h1] at h ⊢
      by_cases h2 : (textsF s n (gett s a 4096).2.1).2.2 ≠ 0
      · rw [if_pos h2]
      · rw [if_neg h2] at h; exact absurd rfl h
theorem aheadX_nil (s : List UInt8) (n : Nat) (a : Int) : aheadX [] (textsF s n a) = textsF s n a := by
  unfold aheadX
  by_cases h : (textsF s n a).2.2 ≠ 0
  · rw [if_pos h]; exact (textsF_bad s n a h).symm
  · rw [if_neg h]
    have : (textsF s n a).2.2 = 0 := by simpa using h
    generalize textsF s n a = q at this ⊢
    obtain ⟨q1, q2, q3⟩ := q
    dsimp only at this
    subst this; simp
theorem aheadX_zero (s : List UInt8) (l : List (List UInt8)) (a : Int) : aheadX l (textsF s 0 a) = (l, a, 0) := by simp [aheadX, textsF]
theorem aheadX_bad {s : List UInt8} (l : List (List UInt8)) {n : Nat} {a : Int} (h : (gett s a 4096).2.2 ≠ 0) : aheadX l (textsF s (n + 1) a) = ([], 0, (gett s a 4096).2.2) := by
  unfold textsF
  rw [if_pos h]; exact if_pos h
theorem aheadX_step {s : List UInt8} (l : List (List UInt8)) {n : Nat} {a : Int} (h : (gett s a 4096).2.2 = 0) :
    aheadX l (textsF s (n + 1) a) = aheadX (l ++ [(gett s a 4096).1]) (textsF s n (gett s a 4096).2.1) := by
  conv => lhs; unfold textsF
  rw [if_neg (by simpa using h)]
  by_cases h2 : (textsF s n (gett s a 4096).2.1).2.2 ≠ 0
  · rw [if_pos h2]; unfold aheadX; rw [if_pos h2, if_pos h2]
  · rw [if_neg h2]; unfold aheadX; rw [if_neg h2, if_neg (by simp)]
    simp
end Go.Proofs.Ytbomloodllddaaa
