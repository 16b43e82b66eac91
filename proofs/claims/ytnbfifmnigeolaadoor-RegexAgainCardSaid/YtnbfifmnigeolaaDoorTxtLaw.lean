/- Plain laws: a tree's text, node by node; tables that stay. No program's walk. -/
import Derived.Test.YtnbfifmnigeolaaDoorTxtSet2
import Derived.Test.YtnbfifmnigeolaaDoorTxtOpen
import Derived.Test.YtnbfifmnigeolaaDoorReRight
import Derived.Test.YtnbfifmnigeolaaDoorOwnRows
namespace Go.Proofs.YtnbfifmnigeolaaDoor
open Go.RowKit Go.Lib
abbrev Tab10 (w : World) : Prop := Lib.TabIs Tryd.prog w "internal/strconv.uint64pow10" .u64 Lib.pow10Tab
theorem tab10_below {w w' : World} (h : Tab10 w) (hb : Below w.heap.size w w') : Tab10 w' := by
  have hg : Tryd.prog.globalNamed "internal/strconv.uint64pow10" = some 1 := by kernel_rfl
  unfold Tab10 Lib.TabIs World.var? at h ⊢
  rw [hg] at h ⊢
  simp only [Option.bind_some] at h ⊢
  have hlt : 1 < w.heap.size := by
    rcases Nat.lt_or_ge 1 w.heap.size with h' | h'
    · exact h'
    · rw [Array.getElem?_eq_none h'] at h; simp at h
  rw [hb.block _ hlt]; exact h
theorem below_growN {w : World} (k : Nat) (os : Array Obj) : Below w.heap.size w (Go.Sort.grow (w.drewN k) os) :=
  ⟨rfl, rfl, rfl, by simp [Go.Sort.grow, World.drewN], fun i hi => by simp [Go.Sort.grow, World.drewN, Array.getElem?_append_left hi]⟩
theorem itoa_t (n : Int) (h0 : -1 ≤ n) (h1 : n ≤ 20) (w : World) (hT : Tab10 w) :
    Calls Tryd.prog 25 #[.int .i64 n] w fun e w' => e = .returned (.string ⟨(Lib.itoa n).toArray⟩) ∧ Below w.heap.size w w' :=
  (Tryd.strconv_Itoa n (by omega) (by omega) w hT).mono fun _ _ ⟨he, k, os, hw⟩ => ⟨he, by rw [hw]; exact below_growN k os⟩
/-- the tables that are asked for -/
def TT (w : World) : Prop := TabB w ∧ Tab10 w
theorem TT.keep {w w' : World} (h : TT w) (hb : Below w.heap.size w w') : TT w' := ⟨h.1.keep hb, tab10_below h.2 hb⟩
/-- a tree that may be -/
structure Gd (h : Nat) (t : Re) : Prop where
  shp : shp h t = true
  cnt : cnt h t ≤ 512
  all : allW h t
theorem sum_le {g : Re → Nat} {u : Re} : ∀ {l : List Re}, u ∈ l → g u ≤ (l.map g).sum
  | [], h => by cases h
  | k :: l, h => by
    rw [List.map_cons, List.sum_cons]
    rcases List.mem_cons.1 h with rfl | h
    · omega
    · have := sum_le (g := g) h; omega
theorem Gd.kid {h : Nat} {t u : Re} (hg : Gd (h + 1) t) (hu : u ∈ t.kids) : Gd h u := by
  refine ⟨(shp_open hg.shp).2 u hu, ?_, hg.all.2 u hu⟩
  have h1 := hg.cnt
  rw [Go.Proofs.YtnbfifmnigeolaaDoor.cnt] at h1
  have := sum_le (g := Go.Proofs.YtnbfifmnigeolaaDoor.cnt h) hu
  omega
theorem cnt_pos : ∀ {h : Nat} {u : Re}, Go.Proofs.YtnbfifmnigeolaaDoor.shp h u = true → 1 ≤ Go.Proofs.YtnbfifmnigeolaaDoor.cnt h u
  | 0, _, hs => by rw [Go.Proofs.YtnbfifmnigeolaaDoor.shp] at hs; cases hs
  | h + 1, u, _ => by rw [Go.Proofs.YtnbfifmnigeolaaDoor.cnt]; omega
theorem few_kids {h : Nat} : ∀ {l : List Re}, (∀ u ∈ l, Go.Proofs.YtnbfifmnigeolaaDoor.shp h u = true) → l.length ≤ (l.map (Go.Proofs.YtnbfifmnigeolaaDoor.cnt h)).sum
  | [], _ => Nat.zero_le _
  | k :: l, hs => by
    have h1 := cnt_pos (hs k (by simp))
    have h2 := few_kids (l := l) fun u hu => hs u (by simp [hu])
    rw [List.map_cons, List.sum_cons, List.length_cons]
    omega
theorem Gd.few {h : Nat} {t : Re} (hg : Gd (h + 1) t) : t.kids.length ≤ 512 := by
  have h1 := hg.cnt
  rw [Go.Proofs.YtnbfifmnigeolaaDoor.cnt] at h1
  have := few_kids (shp_open hg.shp).2
  omega
theorem Gd.len {h : Nat} {t : Re} (hg : Gd h t) : (txt h t).length ≤ 2048000 := by
  have := txt_len h t hg.shp
  have := hg.cnt
  omega
/-- a set's value -/
theorem vS_set {s0 s1 s2 s3 : Nat} (h : words64 (s0, s1, s2, s3)) : vS (setP (s0, s1, s2, s3)) = .agg #[.int .u64 (s0 : Nat), .int .u64 (s1 : Nat), .int .u64 (s2 : Nat), .int .u64 (s3 : Nat)] := by
  obtain ⟨h0, h1, h2, h3⟩ := h
  unfold vS setP
  rw [← W_ofW0 s1 s2 s3 h0, ← W_ofW1 s0 s2 s3 h1, ← W_ofW2 s0 s1 s3 h2, ← W_ofW3 s0 s1 s2 h3]
/-- how often, over the numbers' texts -/
def rptZ (a b : Int) (x y : List UInt8) : List UInt8 :=
  if a = 0 ∧ b = -1 then [42] else if a = 1 ∧ b = -1 then [43] else if a = 0 ∧ b = 1 then [63]
  else if a = b then [123] ++ x ++ [125] else if b = -1 then [123] ++ x ++ [44, 125] else [123] ++ x ++ [44] ++ y ++ [125]
theorem rpt_Z (a b : Int) : rpt a b = rptZ a b (Lib.itoa a) (Lib.itoa b) := rfl
/-- a text of kids, up to so many -/
noncomputable def kidT (h : Nat) (k : Int) (u : Re) : List UInt8 := brk (decide (k = 2 ∧ u.kind = 3)) (txt h u)
def sepK (k : Int) : List UInt8 := if k = 2 then [] else [124]
theorem txt_23 {h : Nat} {t : Re} (h1 : t.kind ≠ 1) (h4 : t.kind ≠ 4) : txt (h + 1) t = Lib.join (t.kids.map (kidT h t.kind)) (sepK t.kind) := by
  rw [txt, if_neg h1, if_neg h4]; rfl
theorem txt_1 {h : Nat} {t : Re} (h1 : t.kind = 1) : txt (h + 1) t = setTx (setP t.set) := by rw [txt, if_pos h1]
theorem txt_4 {h : Nat} {t u : Re} (h4 : t.kind = 4) (hk : t.kids = [u]) : txt (h + 1) t = brk (decide (u.kind ≠ 1)) (txt h u) ++ rptZ t.mn t.mx (Lib.itoa t.mn) (Lib.itoa t.mx) := by
  rw [txt, if_neg (by omega), if_pos h4, hk]; rfl
theorem sepK_len (k : Int) : (sepK k).length ≤ 1 := by unfold sepK; split <;> simp
theorem sum_take {g : Re → Nat} : ∀ (l : List Re) (k : Nat), ((l.take k).map g).sum ≤ (l.map g).sum
  | [], k => by simp
  | u :: l, 0 => by simp
  | u :: l, k + 1 => by
    have := sum_take (g := g) l k
    simp only [List.take_succ_cons, List.map_cons, List.sum_cons]
    omega
/-- the texts of the kids ahead, joined: not long -/
theorem part_le {h : Nat} {t : Re} (hg : Gd (h + 1) t) (k : Nat) (kd : Int) : (Lib.join ((t.kids.take k).map (kidT h kd)) (sepK kd)).length ≤ 2048000 := by
  have h2 := join_le (sepK_len kd) ((t.kids.take k).map (kidT h kd))
  rw [List.map_map] at h2
  have h3 : ((t.kids.take k).map ((fun p : List UInt8 => p.length + 1) ∘ kidT h kd)).sum ≤ ((t.kids.take k).map fun u => 4000 * Go.Proofs.YtnbfifmnigeolaaDoor.cnt h u).sum := sum_mono fun u hm => by
    have h4 := txt_len h u ((hg.kid (List.mem_of_mem_take hm)).shp)
    have h5 := brk_len (decide (kd = 2 ∧ u.kind = 3)) (txt h u)
    simp only [Function.comp, kidT]
    omega
  rw [sum_mul] at h3
  have h4 := sum_take (g := Go.Proofs.YtnbfifmnigeolaaDoor.cnt h) t.kids k
  have h1 := hg.cnt
  rw [Go.Proofs.YtnbfifmnigeolaaDoor.cnt] at h1
  omega
theorem part_snoc {h k : Nat} {t u : Re} (kd : Int) (hu : t.kids[k]? = some u) : (t.kids.take (k + 1)).map (kidT h kd) = (t.kids.take k).map (kidT h kd) ++ [kidT h kd u] := by
  have hk := (List.getElem?_eq_some_iff.1 hu).1
  have he := (List.getElem?_eq_some_iff.1 hu).2
  rw [List.take_succ_eq_append_getElem hk, List.map_append, he]; rfl
theorem strK_len (l : List UInt8) : ([Value.string ⟨l.toArray⟩]).length = 1 := rfl
def stC (l : List UInt8) : List Value := [.string ⟨l.toArray⟩]
theorem stC_len (l : List UInt8) : (stC l).length = 1 := rfl
theorem info_stT : (Tryd.prog.info? 9).map (fun i => (i.zero, i.size, i.bytes)) = some (some (.string ⟨#[]⟩), 1, 16) := by kernel_rfl
/-- a row of texts of the call's own, joined -/
theorem join_own {B : Nat} {w : World} {v : Value} {ts : List (List UInt8)} (h : OwnR stC 1 B 9 w v ts) (sep : List UInt8) (hlen : (Lib.join ts sep).length ≤ 140737488355328) (hN : ts.length ≤ 140737488355328) :
    Calls Tryd.prog 27 #[v, .string ⟨sep.toArray⟩] w fun e w' => e = .returned (.string ⟨(Lib.join ts sep).toArray⟩) ∧ Below w.heap.size w w' := by
  by_cases h0 : 0 < ts.length
  · obtain ⟨g, cap, rfl⟩ := h.somewhere h0
    have hcp : ts.length ≤ cap := by
      obtain ⟨a, c, he, h1, _⟩ := h.form
      simp only [Value.slice.injEq] at he
      omega
    have e1 : (ts.map fun l => (⟨l.toArray⟩ : ByteArray)).map (fun b : ByteArray => b.data.toList) = ts := by rw [List.map_map]; simp [Function.comp_def]
    have e2 : (⟨sep.toArray⟩ : ByteArray).data.toList = sep := rfl
    have hb := h.below (g := g) rfl
    have := Tryd.strings_Join g 0 cap (ts.map fun l => (⟨l.toArray⟩ : ByteArray)) ⟨sep.toArray⟩ w (fun j x hj => by
      rw [List.getElem?_map, Option.map_eq_some_iff] at hj
      obtain ⟨l, hl, rfl⟩ := hj
      have := h.cellAt stC_len j l 0 hl (by decide)
      rw [Nat.mul_one] at this
      rw [Nat.zero_add]; exact this) hb.2 (by rw [List.length_map]; exact hN) (by rw [List.length_map]; exact hcp) (by rw [e1, e2]; exact hlen)
    rw [e1, e2, List.length_map] at this
    exact this
  · have e : ts = [] := List.length_eq_zero_iff.1 (by omega)
    subst e
    obtain ⟨a, c, rfl, _⟩ := h.form
    rw [Lib.join_nil]
    exact (Tryd.strings_Join_none a c ⟨sep.toArray⟩ w).mono fun _ _ ⟨he, hw⟩ => ⟨he, by rw [hw]; exact Below.refl _ _⟩
end Go.Proofs.YtnbfifmnigeolaaDoor
