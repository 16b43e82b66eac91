/- A great region's orders, looked through faster (Region.lexB by lists). No conditions; no program. -/
import Derived.Test.YtapanlchnmgkmaaDoorRegion
namespace Go.Proofs.YtapanlchnmgkmaaDoor
def lexRest (md : Region.Mode) (ops : Array Oper) (k : Nat) (o : Oper) (rest : List Oper) : Bool :=
  rest.all fun oj => oj.after.any (fun e => Region.binds md e && e.on == k) || o.apart ops oj
def lexGo (md : Region.Mode) (ops : Array Oper) : Nat → List Oper → Bool
  | _, [] => true
  | k, o :: rest => (o.after.all fun e => !Region.binds md e || decide (e.on < k)) && (lexRest md ops k o rest && lexGo md ops (k + 1) rest)
def lexQ (md : Region.Mode) (l : List Oper) : Bool := Region.noSelect l.toArray && lexGo md l.toArray 0 l
theorem lex_from (md : Region.Mode) (l : List Oper) : ∀ (rest : List Oper) (pre : List Oper) (listed : Array Bool), l = pre ++ rest → (∀ i, i < l.length → listed[i]? = some (decide (i < pre.length))) →
    lexGo md l.toArray pre.length rest = true → Region.lexFrom md l.toArray rest.length pre.length listed = true
  | [], pre, listed, hl, hs, _ => by
    simp only [List.length_nil, Region.lexFrom, List.isEmpty_iff]
    rw [List.eq_nil_iff_forall_not_mem]
    intro j hj
    obtain ⟨h1, o, ho, _⟩ := mem_ready.1 hj
    have hj : j < l.length := by have := (Array.getElem?_eq_some_iff.1 ho).1; simpa using this
    have h2 := hs j hj
    rw [Array.getD_eq_getD_getElem?, h2] at h1
    have : l.length = pre.length := by rw [hl]; simp
    simp at h1; omega
  | o :: rest, pre, listed, hl, hs, hg => by
    simp only [lexGo, Bool.and_eq_true] at hg
    obtain ⟨ha, hr, hg'⟩ := hg
    have hlen : l.length = pre.length + (rest.length + 1) := by rw [hl]; simp
    have hk : (l.toArray)[pre.length]? = some o := by rw [hl]; simp
    have hlk := hs pre.length (by omega)
    simp only [List.length_cons, Region.lexFrom, Bool.and_eq_true]
    refine ⟨⟨?_, ?_⟩, ?_⟩
    · rw [List.contains_iff_mem]
      refine mem_ready.2 ⟨by rw [Array.getD_eq_getD_getElem?, hlk]; simp, o, hk, fun e he hb => ?_⟩
      have := Array.all_eq_true_iff_forall_mem.1 ha e he
      rw [hb] at this
      have hlt : e.on < pre.length := by simpa using this
      rw [Array.getD_eq_getD_getElem?, hs e.on (by omega)]
      simp [hlt]
    · unfold Region.free
      rw [hk]
      simp only [List.all_eq_true, List.mem_range, List.size_toArray]
      intro j hj
      by_cases hjk : j < pre.length
      · have := hs j hj
        rw [Array.getD_eq_getD_getElem?, this]
        simp [hjk]
      · by_cases hje : j = pre.length
        · simp [hje]
        · obtain ⟨i, rfl⟩ : ∃ i, j = pre.length + 1 + i := ⟨j - pre.length - 1, by omega⟩
          have hji : (l.toArray)[pre.length + 1 + i]? = rest[i]? := by
            rw [hl]; simp [List.getElem?_append_right, Nat.add_assoc, Nat.add_comm 1 i]
          have hi : i < rest.length := by omega
          rw [hji, List.getElem?_eq_getElem hi]
          have := List.all_eq_true.1 hr _ (List.getElem_mem hi)
          simp only [this, Bool.or_true]
    · have := lex_from md l rest (pre ++ [o]) (listed.setIfInBounds pre.length true) (by rw [hl]; simp) (fun i hi => by
        rw [Array.getElem?_setIfInBounds]
        have hsz : pre.length < listed.size := (Array.getElem?_eq_some_iff.1 hlk).1
        by_cases h : pre.length = i
        · subst h; simp [hsz]
        · rw [if_neg h, hs i hi]
          simp; omega) (by simpa using hg')
      simpa using this
theorem lexB_of {md : Region.Mode} {l : List Oper} (h : lexQ md l = true) : Region.lexB md l.toArray = true := by
  simp only [lexQ, Bool.and_eq_true] at h
  simp only [Region.lexB, Bool.and_eq_true]
  refine ⟨h.1, ?_⟩
  have := lex_from md l l [] (Array.replicate l.length false) (by simp) (fun i hi => by simp [hi]) h.2
  simpa using this
end Go.Proofs.YtapanlchnmgkmaaDoor
