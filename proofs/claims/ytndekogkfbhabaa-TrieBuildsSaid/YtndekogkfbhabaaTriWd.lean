/- Plain laws: words, their beginnings, their numbers. No conditions; no program. -/
import Derived.Test.YtndekogkfbhabaaTriBT
namespace Go.Proofs.Ytndekogkfbhabaa
theorem mem_subs : ∀ {p : List UInt8} {ws : List Wd} {y : Wd}, y ∈ subs ws p ↔ (p ++ y.1, y.2) ∈ ws
  | [], ws, y => Iff.rfl
  | c :: p, ws, y => by
    show y ∈ subs (sub ws c) p ↔ _
    rw [mem_subs, mem_sub]
    rfl
theorem subs_ne {words : List (List UInt8)} {p : List UInt8} : subs (numbered words) p ≠ [] ↔ ∃ x ∈ words, p <+: x := by
  constructor
  · intro h
    obtain ⟨y, hy⟩ := List.exists_mem_of_ne_nil _ h
    have h1 := mem_subs.1 hy
    exact ⟨_, List.fst_mem_of_mem_zipIdx h1, ⟨y.1, rfl⟩⟩
  · rintro ⟨x, hx, t, rfl⟩ h
    obtain ⟨i, hi⟩ := List.getElem?_of_mem hx
    have h1 : (p ++ t, i) ∈ numbered words := by
      unfold numbered
      rw [List.mem_zipIdx_iff_getElem?]
      exact hi
    have : ((t, i) : Wd) ∈ subs (numbered words) p := mem_subs.2 h1
    rw [h] at this
    cases this
theorem numW (words : List (List UInt8)) (p : List UInt8) : wordN (subs (numbered words) p) = atW words p := by
  rw [wordN_subs]
  have := find_zip p words 0
  unfold numbered atW
  refine Eq.trans rfl (this.trans ?_)
  cases words.idxOf? p <;> rfl
theorem atW_neg {words : List (List UInt8)} {x : List UInt8} : atW words x < 0 ↔ x ∉ words := by
  rcases atW_cases words x with ⟨h1, h2⟩ | ⟨k, h1, h2, _⟩
  · rw [h1]
    refine ⟨fun _ hx => ?_, fun _ => by decide⟩
    obtain ⟨j, hj⟩ := List.getElem?_of_mem hx
    exact h2 j x hj rfl
  · rw [h1]
    refine ⟨fun h => by omega, fun h => absurd (List.mem_of_getElem? h2) h⟩
theorem atW_not {words : List (List UInt8)} {x : List UInt8} (h : x ∉ words) : atW words x = -1 := atW_no fun _ _ hy e => h (e ▸ List.mem_of_getElem? hy)
/-- a word more -/
theorem atW_snoc {l : List (List UInt8)} {x : List UInt8} (h : x ∉ l) : (fun p => atW (l ++ [x]) p) = upd (fun p => atW l p) x l.length := by
  funext p
  by_cases e : p = x
  · subst e
    rw [upd_at]
    refine atW_at (k := l.length) (by rw [List.getElem?_append_right (Nat.le_refl _)]; simp) fun j y hj hy he => ?_
    subst he
    rw [List.getElem?_append_left hj] at hy
    exact h (List.mem_of_getElem? hy)
  · rw [upd_ne _ _ e]
    rcases atW_cases l p with ⟨h1, h2⟩ | ⟨k, h1, h2, h3⟩
    · rw [h1]
      refine atW_no fun j y hy he => ?_
      subst he
      rcases List.mem_append.1 (List.mem_of_getElem? hy) with hm | hm
      · obtain ⟨i, hi⟩ := List.getElem?_of_mem hm
        exact h2 i y hi rfl
      · exact e (List.mem_singleton.1 hm)
    · rw [h1]
      have hk := (List.getElem?_eq_some_iff.1 h2).1
      refine atW_at (k := k) (by rw [List.getElem?_append_left hk]; exact h2) fun j y hj hy => ?_
      rw [List.getElem?_append_left (by omega)] at hy
      exact h3 j y hj hy
/-- the paths of some words, and of the beginning of one more -/
def PathsB (l : List (List UInt8)) (t : List UInt8) (S : List (List UInt8)) : Prop := ∀ p, p ∈ S ↔ p = [] ∨ (∃ y ∈ l, p <+: y) ∨ p <+: t
theorem PathsB.in {l : List (List UInt8)} {t : List UInt8} {S : List (List UInt8)} (h : PathsB l t S) {c : UInt8} (hc : t ++ [c] ∈ S) : PathsB l (t ++ [c]) S := fun p => by
  rw [h p, List.prefix_concat_iff]
  constructor
  · rintro (h1 | h1 | h1)
    · exact .inl h1
    · exact .inr (.inl h1)
    · exact .inr (.inr (.inr h1))
  · rintro (h1 | h1 | h1 | h1)
    · exact .inl h1
    · exact .inr (.inl h1)
    · subst h1
      exact (h _).1 hc
    · exact .inr (.inr h1)
theorem PathsB.out {l : List (List UInt8)} {t : List UInt8} {S : List (List UInt8)} (h : PathsB l t S) (c : UInt8) : PathsB l (t ++ [c]) (S ++ [t ++ [c]]) := fun p => by
  rw [List.mem_append, h p, List.prefix_concat_iff, List.mem_singleton]
  constructor
  · rintro ((h1 | h1 | h1) | h1)
    · exact .inl h1
    · exact .inr (.inl h1)
    · exact .inr (.inr (.inr h1))
    · exact .inr (.inr (.inl h1))
  · rintro (h1 | h1 | h1 | h1)
    · exact .inl (.inl h1)
    · exact .inl (.inr (.inl h1))
    · exact .inr h1
    · exact .inl (.inr (.inr h1))
theorem PathsB.next {l : List (List UInt8)} {x : List UInt8} {S : List (List UInt8)} (h : PathsB l x S) : PathsB (l ++ [x]) [] S := fun p => by
  rw [h p]
  constructor
  · rintro (h1 | ⟨y, hy, h1⟩ | h1)
    · exact .inl h1
    · exact .inr (.inl ⟨y, List.mem_append_left _ hy, h1⟩)
    · exact .inr (.inl ⟨x, List.mem_append_right _ (List.mem_singleton.2 rfl), h1⟩)
  · rintro (h1 | ⟨y, hy, h1⟩ | h1)
    · exact .inl h1
    · rcases List.mem_append.1 hy with hy | hy
      · exact .inr (.inl ⟨y, hy, h1⟩)
      · obtain rfl := List.mem_singleton.1 hy
        exact .inr (.inr h1)
    · exact .inl (List.prefix_nil.1 h1)
open Go in
/-- the tree of all words -/
theorem BT.tr {B : Nat} {w : World} {S : List (List UInt8)} {A Mp : List UInt8 → Nat} {words : List (List UInt8)} (h : BT B w S (fun p => atW words p) A Mp) (hS : PathsB words [] S) : TrAt w (numbered words) A Mp := fun p hp => by
  have hm : ∀ q, q ∈ S ↔ q = [] ∨ subs (numbered words) q ≠ [] := fun q => by
    rw [hS q, subs_ne]
    constructor
    · rintro (h1 | h1 | h1)
      · exact .inl h1
      · exact .inr h1
      · exact .inl (List.prefix_nil.1 h1)
    · rintro (h1 | h1)
      · exact .inl h1
      · exact .inr (.inl h1)
  obtain ⟨l, h1, h2⟩ := h.nd p ((hm p).2 hp)
  refine ⟨l, by rw [numW]; exact h1, fun c => ?_⟩
  rw [h2 c, ← subs_snoc]
  by_cases e : p ++ [c] ∈ S
  · rw [if_pos e, if_neg]
    rcases (hm _).1 e with h3 | h3
    · simp at h3
    · exact h3
  · rw [if_neg e, if_pos]
    refine Classical.byContradiction fun h3 => e ((hm _).2 (.inr h3))
end Go.Proofs.Ytndekogkfbhabaa
