/- Walk: how a byte is written (regex.byteText). Conditions: a byte. -/
import Derived.Test.YtonkenlkigfeoaaDoorPk16
import Derived.Test.YtonkenlkigfeoaaDoorPk18
import Derived.Test.YtonkenlkigfeoaaDoorPk04
import Derived.Test.YtonkenlkigfeoaaDoorPk07
import Derived.Test.YtonkenlkigfeoaaDoorPk10
namespace Go.Proofs.YtonkenlkigfeoaaDoor
open Go.RowKit
theorem wp_convT {P : Program} {w : World} {o : Oper} {a : Act} {K : Act → World → Prop} {Q : Exit → Act → World → Prop} {B : Nat} {e : TypeId} {v : Value} {l : List Int} {t d : TypeId} (h1 : P.underlying t = some (.slice e)) (h2 : P.underlying e = some (.int .u8)) (h3 : P.underlying d = some .string)
   (x : Operand) (hop : o.op = Op.convert t d x) (hs : a.eval x = v) (hown : OwnI B e .u8 w v l) (hK : K (a.put o.dst (.string ⟨(toU8s l).toArray⟩)) w) : o.wp P a w K Q := by
 have hrun := conv_own h1 h2 h3 hown; unfold Oper.wp
 simp [execOp, hop, hs, hrun, Result.andThen]
 exact hK
open Go.RowKit
theorem info_q8 : (Tryd.prog.info? 5).map (fun i => (i.zero, i.size, i.bytes)) = some (some (.int .u8 0), 1, 1) := by kernel_rfl
open Go.RowKit
section
variable {s : List UInt8} {en i : Nat}
end
open Go.RowKit
section
variable {s : List UInt8} {b : Nat}
end
open Go.RowKit
theorem word_pass (r : List UInt8) : wordsC.findIdx? (fun w => w.isPrefixOf ([112, 97, 115, 115] ++ r)) = some 0 := rfl
theorem word_rule (r : List UInt8) : wordsC.findIdx? (fun w => w.isPrefixOf ([114, 117, 108, 101, 32] ++ r)) = some 1 := rfl
theorem word_split (r : List UInt8) : wordsC.findIdx? (fun w => w.isPrefixOf ([115, 112, 108, 105, 116, 32] ++ r)) = some 2 := rfl
theorem word_merge (r : List UInt8) : wordsC.findIdx? (fun w => w.isPrefixOf ([109, 101, 114, 103, 101, 32] ++ r)) = some 3 := rfl
theorem word_name (r : List UInt8) : wordsC.findIdx? (fun w => w.isPrefixOf ([110, 97, 109, 101, 32] ++ r)) = some 4 := rfl
theorem word_before (r : List UInt8) : wordsC.findIdx? (fun w => w.isPrefixOf ([98, 101, 102, 111, 114, 101, 32] ++ r)) = some 5 := rfl
theorem word_after (r : List UInt8) : wordsC.findIdx? (fun w => w.isPrefixOf ([97, 102, 116, 101, 114, 32] ++ r)) = some 6 := rfl
section
variable {s : List UInt8} {b f : Nat} {st : CS}
end
open Go.RowKit
/-- a word of the seven -/
def wrd (k : Nat) : List UInt8 := wordsC.getD k []
theorem wrd_only {l : List UInt8} {k : Nat} (hk : k < 7) (h : (wrd k).isPrefixOf l = true) : wordsC.findIdx? (fun w => w.isPrefixOf l) = some k := by
 rw [List.isPrefixOf_iff_prefix] at h; obtain ⟨r, rfl⟩ := h
 rcases (by omega : k = 0 ∨ k = 1 ∨ k = 2 ∨ k = 3 ∨ k = 4 ∨ k = 5 ∨ k = 6) with rfl | rfl | rfl | rfl | rfl | rfl | rfl
 · exact word_pass r
 · exact word_rule r
 · exact word_split r
 · exact word_merge r
 · exact word_name r
 · exact word_before r
 · exact word_after r
theorem wrd_none {l : List UInt8} (h : ∀ k, k < 7 → (wrd k).isPrefixOf l = false) : wordsC.findIdx? (fun w => w.isPrefixOf l) = none := by
 rw [List.findIdx?_eq_none_iff]; intro w hw; obtain ⟨k, hk, rfl⟩ := List.getElem_of_mem hw; have hk7 : k < 7 := hk; have := h k hk7; unfold wrd at this; rw [List.getD_eq_getElem?_getD, List.getElem?_eq_getElem hk] at this; exact this
/-- how far the words that have been looked at agree with a line -/
def lngF (l : List UInt8) (seen : Array Nat) (k : Nat) : Nat := if seen.contains k = true then agreeN (wrd k) l else 0
def lng (l : List UInt8) (seen : Array Nat) : Nat := ((List.range 7).map (lngF l seen)).foldl max 0
theorem fold_le {n : Nat} : ∀ (L : List Nat) (a : Nat), L.foldl max a ≤ n ↔ a ≤ n ∧ ∀ x ∈ L, x ≤ n
 | [], a => by simp
 | x :: L, a => by
   rw [List.foldl_cons, fold_le L]
   constructor
   · rintro ⟨h1, h2⟩; refine ⟨by omega, fun y hy => ?_⟩
     rcases List.mem_cons.1 hy with rfl | hy
     · omega
     · exact h2 y hy
   · rintro ⟨h1, h2⟩; have := h2 x (by simp); exact ⟨by omega, fun y hy => h2 y (by simp [hy])⟩
theorem lng_iff {l : List UInt8} {seen : Array Nat} {n : Nat} : lng l seen ≤ n ↔ ∀ k, k < 7 → lngF l seen k ≤ n := by
 unfold lng; rw [fold_le]
 constructor
 · rintro ⟨_, h⟩ k hk; exact h _ (List.mem_map.2 ⟨k, List.mem_range.2 hk, rfl⟩)
 · intro h; refine ⟨Nat.zero_le _, fun x hx => ?_⟩; obtain ⟨k, hk, rfl⟩ := List.mem_map.1 hx; exact h k (List.mem_range.1 hk)
theorem lngF_push {l : List UInt8} {seen : Array Nat} {k j : Nat} : lngF l (seen.push k) j = if j = k then agreeN (wrd k) l else lngF l seen j := by
 unfold lngF; rw [Array.contains_push]
 by_cases h : j = k
 · subst h; rw [if_pos rfl, beq_self_eq_true, Bool.or_true, if_pos rfl]
 · rw [if_neg h, beq_false_of_ne h, Bool.or_false]
theorem lng_push {l : List UInt8} {seen : Array Nat} {k : Nat} (hk : k < 7) (hn : seen.contains k = false) : lng l (seen.push k) = max (lng l seen) (agreeN (wrd k) l) := by
 have h0 : lngF l seen k = 0 := by unfold lngF; rw [hn]; rfl
 have a1 := lng_iff.1 (Nat.le_refl (lng l seen)); have a2 := lng_iff.1 (Nat.le_refl (lng l (seen.push k))); refine Nat.le_antisymm (lng_iff.2 fun j hj => ?_) (Nat.max_le.2 ⟨lng_iff.2 fun j hj => ?_, ?_⟩)
 · rw [lngF_push]; split
   · exact Nat.le_max_right _ _
   · exact Nat.le_trans (a1 j hj) (Nat.le_max_left _ _)
 · have := a2 j hj; rw [lngF_push] at this
   by_cases h : j = k
   · subst h; rw [h0]; exact Nat.zero_le _
   · rw [if_neg h] at this; exact this
 · have := a2 k hk; rw [lngF_push, if_pos rfl] at this; exact this
theorem lng_empty (l : List UInt8) : lng l #[] = 0 := Nat.le_antisymm (lng_iff.2 fun k _ => by unfold lngF; simp) (Nat.zero_le _)
theorem lng_all {l : List UInt8} {seen : Array Nat} (h : ∀ k, k < 7 → seen.contains k = true) : lng l seen = (wordsC.map fun w => agreeN w l).foldl max 0 := by
 have e : (List.range 7).map (lngF l seen) = (List.range 7).map fun k => agreeN (wrd k) l := List.map_congr_left fun k hk => by
   unfold lngF; rw [if_pos (h k (List.mem_range.1 hk))]
 unfold lng; rw [e]; rfl
theorem agree_le : ∀ u l : List UInt8, agreeN u l ≤ u.length
 | [], l => by cases l <;> simp [agreeN]
 | c :: u, [] => by simp [agreeN]
 | c :: u, d :: l => by
   rw [agreeN]; split
   · have := agree_le u l; rw [List.length_cons]; omega
   · omega
theorem wrd_len {k : Nat} (hk : k < 7) : (wrd k).length ≤ 7 := by
 rcases (by omega : k = 0 ∨ k = 1 ∨ k = 2 ∨ k = 3 ∨ k = 4 ∨ k = 5 ∨ k = 6) with rfl | rfl | rfl | rfl | rfl | rfl | rfl <;> decide
theorem lng_le {l : List UInt8} {seen : Array Nat} : lng l seen ≤ 7 := lng_iff.2 fun k hk => by
 unfold lngF; split
 · exact Nat.le_trans (agree_le _ _) (wrd_len hk)
 · omega
/-- how far two texts agree, byte by byte -/
theorem agree_go {u l : List UInt8} {n : Nat} (h1 : n < u.length) (h2 : n < l.length) (h : bt u n = bt l n) : agreeN (u.drop n) (l.drop n) = agreeN (u.drop (n + 1)) (l.drop (n + 1)) + 1 := by
 rw [List.drop_eq_getElem_cons h1, List.drop_eq_getElem_cons h2, agreeN]; have e : u[n] = l[n] := by
   unfold bt at h; rw [List.getD_eq_getElem?_getD, List.getD_eq_getElem?_getD, List.getElem?_eq_getElem h1, List.getElem?_eq_getElem h2] at h; exact UInt8.toNat_inj.1 h
 rw [if_pos e]
theorem agree_no {u l : List UInt8} {n : Nat} (h : ¬ n < u.length ∨ ¬ n < l.length ∨ bt u n ≠ bt l n) : agreeN (u.drop n) (l.drop n) = 0 := by
 by_cases h1 : n < u.length
 · by_cases h2 : n < l.length
   · have h3 : bt u n ≠ bt l n := by rcases h with h | h | h; exact absurd h1 h; exact absurd h2 h; exact h
     rw [List.drop_eq_getElem_cons h1, List.drop_eq_getElem_cons h2, agreeN, if_neg]; intro e; refine h3 ?_; unfold bt; rw [List.getD_eq_getElem?_getD, List.getD_eq_getElem?_getD, List.getElem?_eq_getElem h1, List.getElem?_eq_getElem h2, e]
   · rw [List.drop_eq_nil_of_le (Nat.not_lt.1 h2)]
     cases u.drop n <;> rfl
 · rw [List.drop_eq_nil_of_le (Nat.not_lt.1 h1)]
   cases l.drop n <;> rfl
theorem lineR_0 {s : List UInt8} {en f b : Nat} {st : CS} (h0 : ¬ (b = en ∨ bt s b = 35)) (hk : wordsC.findIdx? (fun w => w.isPrefixOf ((s.drop b).take (en - b))) = some 0) : lineR s en f b st = ((doneR en (b + 4)).bind fun _ j => if 4 ≤ st.c.ps.length then .bad 172 b else .ok { st with c := { st.c with ps := st.c.ps ++ [[]] } } j) := by
 unfold lineR; rw [if_neg h0, hk]; rfl
theorem lineR_1 {s : List UInt8} {en f b : Nat} {st : CS} (h0 : ¬ (b = en ∨ bt s b = 35)) (hk : wordsC.findIdx? (fun w => w.isPrefixOf ((s.drop b).take (en - b))) = some 1) : lineR s en f b st = ((quotedR s en f (b + 5)).bind fun u i => (mustR s en [32, 45, 62, 32] i).bind fun _ j => (quotedR s en f j).bind fun v k => (doneR en k).bind fun _ m =>
       if st.c.ps.length = 0 then .bad 172 b else .ok { st with c := { st.c with ps := st.c.ps.take (st.c.ps.length - 1) ++ [st.c.ps.getD (st.c.ps.length - 1) [] ++ [(u, v)]] } } m) := by
 unfold lineR; rw [if_neg h0, hk]; rfl
theorem lineR_2 {s : List UInt8} {en f b : Nat} {st : CS} (h0 : ¬ (b = en ∨ bt s b = 35)) (hk : wordsC.findIdx? (fun w => w.isPrefixOf ((s.drop b).take (en - b))) = some 2) : lineR s en f b st = (if st.split then .bad 172 b else (splitR s en (b + 6)).bind fun t j => .ok { st with c := { st.c with re := t }, split := true } j) := by
 unfold lineR; rw [if_neg h0, hk]; rfl
theorem lineR_3 {s : List UInt8} {en f b : Nat} {st : CS} (h0 : ¬ (b = en ∨ bt s b = 35)) (hk : wordsC.findIdx? (fun w => w.isPrefixOf ((s.drop b).take (en - b))) = some 3) : lineR s en f b st = ((quotedR s en f (b + 6)).bind fun u i => (mustR s en [32] i).bind fun _ j => (quotedR s en f j).bind fun v k => (doneR en k).bind fun _ m =>
       (idR st.ids u (b + 6) m).bind fun l _ => (idR st.ids v j m).bind fun r _ =>
         .ok { st with c := { st.c with ms := st.c.ms ++ [(l, r)] }, ids := if (idOf st.ids (u ++ v)).isSome then st.ids else st.ids ++ [(u ++ v, ((256 + st.c.ms.length : Nat) : Int))] } m) := by
 unfold lineR; rw [if_neg h0, hk]; rfl
theorem lineR_4 {s : List UInt8} {en f b : Nat} {st : CS} (h0 : ¬ (b = en ∨ bt s b = 35)) (hk : wordsC.findIdx? (fun w => w.isPrefixOf ((s.drop b).take (en - b))) = some 4) : lineR s en f b st = ((quotedR s en f (b + 5)).bind fun u i => (doneR en i).bind fun _ j => .ok { st with c := { st.c with ns := st.c.ns ++ [u] } } j) := by
 unfold lineR; rw [if_neg h0, hk]; rfl
theorem lineR_5 {s : List UInt8} {en f b : Nat} {st : CS} (h0 : ¬ (b = en ∨ bt s b = 35)) (hk : wordsC.findIdx? (fun w => w.isPrefixOf ((s.drop b).take (en - b))) = some 5) : lineR s en f b st = ((knownR s en f st.c.ns (b + 7)).bind fun n j => .ok { st with c := { st.c with bf := st.c.bf ++ [n] } } j) := by
 unfold lineR; rw [if_neg h0, hk]; rfl
theorem lineR_6 {s : List UInt8} {en f b : Nat} {st : CS} (h0 : ¬ (b = en ∨ bt s b = 35)) (hk : wordsC.findIdx? (fun w => w.isPrefixOf ((s.drop b).take (en - b))) = some 6) : lineR s en f b st = ((knownR s en f st.c.ns (b + 6)).bind fun n j => .ok { st with c := { st.c with af := st.c.af ++ [n] } } j) := by
 unfold lineR; rw [if_neg h0, hk]; rfl
theorem lineR_none {s : List UInt8} {en f b : Nat} {st : CS} (h0 : ¬ (b = en ∨ bt s b = 35)) (hk : wordsC.findIdx? (fun w => w.isPrefixOf ((s.drop b).take (en - b))) = none) : lineR s en f b st = .bad 170 (b + (wordsC.map fun w => agreeN w ((s.drop b).take (en - b))).foldl max 0) := by
 unfold lineR; rw [if_neg h0, hk]
end Go.Proofs.YtonkenlkigfeoaaDoor
