/- Plain laws: how bytes, sets and trees are written (P6.3). No conditions; no program. -/
import Derived.Test.YtonkenlkigfeoaaDoorPk07
import Derived.Test.YtonkenlkigfeoaaDoorPk01
import Derived.Lib.ItoaLen
import Derived.Lib.Join
namespace Go.Proofs.YtonkenlkigfeoaaDoor
open Go.RowKit
/-- a digit of sixteen -/
def hexd (n : Nat) : UInt8 := if n < 10 then u8 (48 + n) else u8 (87 + n)
def sgL : List Nat := [92, 40, 41, 91, 93, 123, 125, 46, 42, 43, 63, 124, 94, 36]
/-- a byte, written; within a class? -/
def wrt (c : Nat) (inn : Bool) : List UInt8 :=
 if c = 10 then [92, 110] else if c = 9 then [92, 116] else if c = 13 then [92, 114]
 else if c ∈ sgL ∨ (inn = true ∧ (c = 45 ∨ c = 47)) then [92, u8 c] else if 32 < c ∧ c < 127 then [u8 c] else [92, 120, hexd (c / 16), hexd (c % 16)]
/-- how many rise one by one from i on -/
def runF (l : List Nat) (i : Nat) : Nat → Nat → Nat
 | 0, n => n
 | f + 1, n => if i + n < l.length ∧ l.getD (i + n) 0 = l.getD i 0 + n then runF l i f (n + 1) else n
def runN (l : List Nat) (i : Nat) : Nat := runF l i (l.length - i) 1
/-- a list of bytes, written as a class -/
def prtF (l : List Nat) : Nat → Nat → List UInt8
 | 0, _ => []
 | f + 1, i => if i < l.length then (if 4 ≤ runN l i then wrt (l.getD i 0) true ++ [45] ++ wrt (l.getD (i + runN l i - 1) 0) true ++ prtF l f (i + runN l i) else wrt (l.getD i 0) true ++ prtF l f (i + 1)) else []
def prt (l : List Nat) : List UInt8 := prtF l l.length 0
theorem prtF_end {l : List Nat} {f i : Nat} (h : ¬ i < l.length) : prtF l f i = [] := by
 cases f with
 | zero => rfl
 | succ g => rw [prtF, if_neg h]
theorem prtF_run {l : List Nat} {f i : Nat} (h : i < l.length) (h4 : 4 ≤ runN l i) : prtF l (f + 1) i = wrt (l.getD i 0) true ++ [45] ++ wrt (l.getD (i + runN l i - 1) 0) true ++ prtF l f (i + runN l i) := by
 rw [prtF, if_pos h, if_pos h4]
theorem prtF_one {l : List Nat} {f i : Nat} (h : i < l.length) (h4 : ¬ 4 ≤ runN l i) : prtF l (f + 1) i = wrt (l.getD i 0) true ++ prtF l f (i + 1) := by
 rw [prtF, if_pos h, if_neg h4]
/-- all bytes but the line's end -/
def noLn : Nat → Bool := fun b => !(b == 10)
/-- a set, written -/
noncomputable def setTx (p : Nat → Bool) : List UInt8 :=
 if (bytesTo p 256).length = 1 then wrt ((bytesTo p 256).getD 0 0) false
 else if W p 0 = W noLn 0 ∧ W p 1 = W noLn 1 ∧ W p 2 = W noLn 2 ∧ W p 3 = W noLn 3 then [46]
 else if (bytesTo p 256).length = 0 then [91, 94, 92, 120, 48, 48, 45, 92, 120, 102, 102, 93]
 else if (bytesTo p 256).length = 256 then [91, 92, 120, 48, 48, 45, 92, 120, 102, 102, 93]
 else if 128 < (bytesTo p 256).length then [91, 94] ++ prt (bytesTo (fun b => !p b) 256) ++ [93]
 else [91] ++ prt (bytesTo p 256) ++ [93]
/-- in brackets? -/
def brk (b : Bool) (s : List UInt8) : List UInt8 := if b then [40] ++ s ++ [41] else s
/-- how often, written -/
def rpt (a b : Int) : List UInt8 :=
 if a = 0 ∧ b = -1 then [42] else if a = 1 ∧ b = -1 then [43] else if a = 0 ∧ b = 1 then [63]
 else if a = b then [123] ++ Lib.itoa a ++ [125] else if b = -1 then [123] ++ Lib.itoa a ++ [44, 125] else [123] ++ Lib.itoa a ++ [44] ++ Lib.itoa b ++ [125]
/-- the set of a node -/
noncomputable def setP (s : Nat × Nat × Nat × Nat) : Nat → Bool := ofW s.1 s.2.1 s.2.2.1 s.2.2.2
def words64 (s : Nat × Nat × Nat × Nat) : Prop := U64 s.1 ∧ U64 s.2.1 ∧ U64 s.2.2.1 ∧ U64 s.2.2.2
def Re.set : Re → Nat × Nat × Nat × Nat | .mk _ s _ _ _ => s
def Re.mn : Re → Int | .mk _ _ a _ _ => a
def Re.mx : Re → Int | .mk _ _ _ b _ => b
/-- all sets' words are words -/
def allW : Nat → Re → Prop
 | 0, _ => True
 | h + 1, t => words64 t.set ∧ ∀ k ∈ t.kids, allW h k
/-- a tree, written -/
noncomputable def txt : Nat → Re → List UInt8
 | 0, _ => []
 | h + 1, t =>
   if t.kind = 1 then setTx (setP t.set)
   else if t.kind = 4 then brk (decide ((t.kids.getD 0 (.mk 0 (0, 0, 0, 0) 0 0 [])).kind ≠ 1)) (txt h (t.kids.getD 0 (.mk 0 (0, 0, 0, 0) 0 0 []))) ++ rpt t.mn t.mx
   else Lib.join (t.kids.map fun k => brk (decide (t.kind = 2 ∧ k.kind = 3)) (txt h k)) (if t.kind = 2 then [] else [124])
theorem runF_ge (l : List Nat) (i : Nat) : ∀ (f n : Nat), n ≤ runF l i f n
 | 0, _ => Nat.le_refl _
 | f + 1, n => by
   rw [runF]; split
   · have := runF_ge l i f (n + 1); omega
   · exact Nat.le_refl _
theorem runF_le (l : List Nat) (i : Nat) : ∀ (f n : Nat), i + n ≤ l.length → i + runF l i f n ≤ l.length
 | 0, _, h => h
 | f + 1, n, h => by
   rw [runF]; split
   · rename_i h'; exact runF_le l i f (n + 1) (by omega)
   · exact h
theorem runN_b {l : List Nat} {i : Nat} (h : i < l.length) : 1 ≤ runN l i ∧ i + runN l i ≤ l.length := ⟨runF_ge l i _ 1, runF_le l i _ 1 (by omega)⟩
open Go.RowKit
/-- these bytes stand there -/
def At (s : List UInt8) (i : Nat) (u : List UInt8) : Prop := ∀ k, k < u.length → i + k < s.length ∧ s.getD (i + k) 0 = u.getD k 0
section
variable {s : List UInt8} {i : Nat}
theorem At.nil : At s i [] := fun _ hk => absurd hk (Nat.not_lt_zero _)
theorem At.left {u v : List UInt8} (h : At s i (u ++ v)) : At s i u := fun k hk => by
 obtain ⟨h1, h2⟩ := h k (by rw [List.length_append]; omega); refine ⟨h1, h2.trans ?_⟩; rw [List.getD_eq_getElem?_getD, List.getD_eq_getElem?_getD, List.getElem?_append_left hk]
theorem At.right {u v : List UInt8} (h : At s i (u ++ v)) : At s (i + u.length) v := fun k hk => by
 obtain ⟨h1, h2⟩ := h (u.length + k) (by rw [List.length_append]; omega); rw [← Nat.add_assoc] at h1 h2; refine ⟨h1, h2.trans ?_⟩; rw [List.getD_eq_getElem?_getD, List.getD_eq_getElem?_getD, List.getElem?_append_right (by omega), Nat.add_sub_cancel_left]
theorem At.head {c : UInt8} {u : List UInt8} (h : At s i (c :: u)) : i < s.length ∧ bt s i = c.toNat := by
 obtain ⟨h1, h2⟩ := h 0 (by simp); rw [Nat.add_zero] at h1 h2; exact ⟨h1, by unfold bt; rw [h2]; rfl⟩
theorem At.tail {c : UInt8} {u : List UInt8} (h : At s i (c :: u)) : At s (i + 1) u := At.right (u := [c]) h
theorem At.isC {c : UInt8} {u : List UInt8} (h : At s i (c :: u)) : isC s i c.toNat := h.head
theorem At.len {u : List UInt8} (h : At s i u) (h0 : i ≤ s.length) : i + u.length ≤ s.length := by
 rcases Nat.eq_zero_or_pos u.length with h1 | h1
 · omega
 · have := (h (u.length - 1) (by omega)).1; omega
end
theorem isC_ne {s : List UInt8} {i c d : Nat} (h : bt s i = c) (hne : c ≠ d) : ¬ isC s i d := fun q => hne (h.symm.trans q.2)
theorem hexV_hexd : ∀ n : Fin 16, hexV (hexd n.val).toNat = some n.val := by decide
theorem hexR_at {s : List UInt8} {i n : Nat} (hn : n < 16) (h : i < s.length ∧ bt s i = (hexd n).toNat) : hexR s i = .ok n (i + 1) := by
 unfold hexR; rw [if_pos h.1, h.2, hexV_hexd ⟨n, hn⟩]
theorem sgL_not : ∀ c, (c ∈ sgL ∨ c = 45 ∨ c = 47) → c ≠ 110 ∧ c ≠ 116 ∧ c ≠ 114 ∧ c ≠ 120 ∧ c ≠ 100 ∧ c ≠ 68 ∧ c ≠ 119 ∧ c ≠ 87 ∧ c ≠ 115 ∧ c ≠ 83 := by
 intro c h
 rcases h with h | h | h
 · simp only [sgL, List.mem_cons, List.not_mem_nil, or_false] at h; omega
 · omega
 · omega
theorem u8n {c : Nat} (h : c < 256) : (u8 c).toNat = c := u8_toNat_lt h
theorem sgP_sgL : sgP = sgL := rfl
/-- what escR reads behind the backslash of a written byte; no class's letter stands there -/
theorem esc_wrt {s : List UInt8} {i c : Nat} {inn : Bool} (hc : c < 256) (h : At s i (wrt c inn)) (hb : bt s i = 92) : escR s (i + 1) = .ok c (i + (wrt c inn).length) ∧ kndR s (i + 1) = none ∧ isC s i 92 := by
 unfold wrt at h ⊢
 by_cases h1 : c = 10
 · subst h1; rw [if_pos rfl] at h ⊢; have e1 : i + 1 < s.length ∧ bt s (i + 1) = 110 := h.tail.head; refine ⟨?_, ?_, h.head⟩
   · unfold escR; rw [if_pos e1.1, if_pos e1.2]; rfl
   · unfold kndR; rw [if_pos e1.1, e1.2]; rfl
 rw [if_neg h1] at h ⊢
 by_cases h2 : c = 9
 · subst h2; rw [if_pos rfl] at h ⊢; have e1 : i + 1 < s.length ∧ bt s (i + 1) = 116 := h.tail.head; refine ⟨?_, ?_, h.head⟩
   · unfold escR; rw [if_pos e1.1, if_neg (by rw [e1.2]; decide), if_pos e1.2]; rfl
   · unfold kndR; rw [if_pos e1.1, e1.2]; rfl
 rw [if_neg h2] at h ⊢
 by_cases h3 : c = 13
 · subst h3; rw [if_pos rfl] at h ⊢; have e1 : i + 1 < s.length ∧ bt s (i + 1) = 114 := h.tail.head; refine ⟨?_, ?_, h.head⟩
   · unfold escR; rw [if_pos e1.1, if_neg (by rw [e1.2]; decide), if_neg (by rw [e1.2]; decide), if_pos e1.2]; rfl
   · unfold kndR; rw [if_pos e1.1, e1.2]; rfl
 rw [if_neg h3] at h ⊢
 by_cases h4 : c ∈ sgL ∨ (inn = true ∧ (c = 45 ∨ c = 47))
 · rw [if_pos h4] at h ⊢; have h5 : c ∈ sgL ∨ c = 45 ∨ c = 47 := h4.imp id And.right; have hn := sgL_not c h5; have e1 := h.tail.head; rw [u8n hc] at e1; refine ⟨?_, ?_, h.head⟩
   · unfold escR; rw [if_pos e1.1, e1.2, if_neg hn.1, if_neg hn.2.1, if_neg hn.2.2.1, if_neg hn.2.2.2.1, sgP_sgL, if_pos h5]; rfl
   · unfold kndR kndC; rw [if_pos e1.1, e1.2, if_neg hn.2.2.2.2.1, if_neg hn.2.2.2.2.2.1, if_neg hn.2.2.2.2.2.2.1, if_neg hn.2.2.2.2.2.2.2.1, if_neg hn.2.2.2.2.2.2.2.2.1, if_neg hn.2.2.2.2.2.2.2.2.2]
 rw [if_neg h4] at h ⊢
 by_cases h5 : 32 < c ∧ c < 127
 · rw [if_pos h5] at h; have e0 := h.head; rw [u8n hc, hb] at e0; exact absurd (.inl (by rw [← e0.2]; decide)) h4
 · rw [if_neg h5] at h ⊢; have e1 : i + 1 < s.length ∧ bt s (i + 1) = 120 := h.tail.head; have e2 := h.tail.tail.head; have e3 := h.tail.tail.tail.head; refine ⟨?_, ?_, h.head⟩
   · unfold escR; rw [if_pos e1.1, if_neg (by rw [e1.2]; decide), if_neg (by rw [e1.2]; decide), if_neg (by rw [e1.2]; decide), if_pos e1.2, hexR_at (by omega) e2]; simp only [PR.bind]; rw [hexR_at (Nat.mod_lt _ (by decide)) e3]; simp only [Nat.div_add_mod]; rfl
   · unfold kndR; rw [if_pos e1.1, e1.2]; rfl
/-- a written byte begins with a backslash, or is that byte, which is no sign -/
theorem wrt_head {s : List UInt8} {i c : Nat} {inn : Bool} (hc : c < 256) (h : At s i (wrt c inn)) : i < s.length ∧ (bt s i = 92 ∨ (bt s i = c ∧ (wrt c inn).length = 1 ∧ c ∉ sgL ∧ ¬ (inn = true ∧ (c = 45 ∨ c = 47)))) := by
 unfold wrt at h ⊢
 by_cases h1 : c = 10
 · rw [if_pos h1] at h; exact ⟨h.head.1, .inl h.head.2⟩
 rw [if_neg h1] at h ⊢
 by_cases h2 : c = 9
 · rw [if_pos h2] at h; exact ⟨h.head.1, .inl h.head.2⟩
 rw [if_neg h2] at h ⊢
 by_cases h3 : c = 13
 · rw [if_pos h3] at h; exact ⟨h.head.1, .inl h.head.2⟩
 rw [if_neg h3] at h ⊢
 by_cases h4 : c ∈ sgL ∨ (inn = true ∧ (c = 45 ∨ c = 47))
 · rw [if_pos h4] at h; exact ⟨h.head.1, .inl h.head.2⟩
 rw [if_neg h4] at h ⊢
 by_cases h5 : 32 < c ∧ c < 127
 · rw [if_pos h5] at h ⊢; exact ⟨h.head.1, .inr ⟨by rw [h.head.2, u8n hc], rfl, fun q => h4 (.inl q), fun q => h4 (.inr q)⟩⟩
 · rw [if_neg h5] at h; exact ⟨h.head.1, .inl h.head.2⟩
theorem pnt_wrt {s : List UInt8} {i c : Nat} (hc : c < 256) (h : At s i (wrt c true)) : pntR s i = .ok c (i + (wrt c true).length) := by
 obtain ⟨h0, hb | ⟨hb, hl, hn, hx⟩⟩ := wrt_head hc h
 · unfold pntR; rw [if_pos ⟨h0, hb⟩, (esc_wrt hc h hb).1]
 · have n92 : c ≠ 92 := fun e => hn (by rw [e]; decide)
   have n93 : c ≠ 93 := fun e => hn (by rw [e]; decide)
   unfold pntR; rw [if_neg (isC_ne hb n92), if_pos ⟨h0, by rw [hb]; exact n93, by rw [hb]; exact fun e => hx ⟨rfl, .inl e⟩⟩, hb, hl]
theorem atom_wrt {s : List UInt8} {f d i c : Nat} (hc : c < 256) (h : At s i (wrt c false)) : prs s (f + 1) .atom d i = .ok (setT (oneB c)) (i + (wrt c false).length) := by
 obtain ⟨h0, hb | ⟨hb, hl, hn, hx⟩⟩ := wrt_head hc h
 · obtain ⟨e1, e2, e3⟩ := esc_wrt hc h hb; rw [prs, if_neg (isC_ne hb (by decide)), if_neg (isC_ne hb (by decide)), if_neg (isC_ne hb (by decide)), if_pos e3, e2]; dsimp only; rw [e1]; rfl
 · have n : ∀ k ∈ sgL, c ≠ k := fun k hk e => hn (by rw [e]; exact hk)
   rw [prs, if_neg (isC_ne hb (n 40 (by decide))), if_neg (isC_ne hb (n 91 (by decide))), if_neg (isC_ne hb (n 46 (by decide))), if_neg (isC_ne hb (n 92 (by decide))), if_pos ⟨h0, by rw [hb]; exact hn⟩, hb, hl]
open Go.RowKit
theorem runF_rise (l : List Nat) (i : Nat) : ∀ (f n : Nat), (∀ m, m < n → l.getD (i + m) 0 = l.getD i 0 + m) → ∀ m, m < runF l i f n → l.getD (i + m) 0 = l.getD i 0 + m
 | 0, n, h, m, hm => h m hm
 | f + 1, n, h, m, hm => by
   rw [runF] at hm
   split at hm
   · rename_i hc
     exact runF_rise l i f (n + 1) (fun m' hm' => by
       by_cases e : m' = n
       · rw [e]; exact hc.2
       · exact h m' (by omega)) m hm
   · exact h m hm
theorem runN_rise (l : List Nat) (i : Nat) : ∀ m, m < runN l i → l.getD (i + m) 0 = l.getD i 0 + m := runF_rise l i _ 1 fun m hm => by
 have : m = 0 := by omega
 subst this; simp
section
variable {s : List UInt8} {l : List Nat}
theorem prt_head {pf k j : Nat} (hl : ∀ x ∈ l, x < 256) (hp : l.length - k ≤ pf) (h : At s j (prtF l pf k ++ [93])) : ¬ isC s j 45 := by
 by_cases hk : k < l.length
 · obtain ⟨pf', rfl⟩ : ∃ q, pf = q + 1 := ⟨pf - 1, by omega⟩; have hx : l.getD k 0 < 256 := by rw [List.getD_eq_getElem?_getD, List.getElem?_eq_getElem hk]; exact hl _ (List.getElem_mem hk)
   have hw : At s j (wrt (l.getD k 0) true) := by
     by_cases h4 : 4 ≤ runN l k
     · rw [prtF_run hk h4] at h; exact h.left.left.left.left
     · rw [prtF_one hk h4] at h; exact h.left.left
   obtain ⟨h0, hb | ⟨hb, _, _, hn⟩⟩ := wrt_head hx hw
   · exact isC_ne hb (by decide)
   · exact isC_ne hb fun e => hn ⟨rfl, .inl e⟩
 · rw [prtF_end hk] at h; exact isC_ne h.head.2 (by decide)
theorem cls_prt (hl : ∀ x ∈ l, x < 256) : ∀ (pf F k i : Nat) (a : Nat → Bool) (first : Bool), At s i (prtF l pf k ++ [93]) → l.length - k ≤ pf → l.length - k < F → (first = true → k < l.length) →
   ∃ A, clsL s F a first i = .ok A (i + (prtF l pf k).length) ∧ ∀ b, A b = (a b || decide (b ∈ l.drop k))
 | pf, 0, k, i, a, first, _, _, hF, _ => by omega
 | pf, F + 1, k, i, a, first, h, hp, hF, hf => by
   by_cases hk : k < l.length
   · obtain ⟨pf', rfl⟩ : ∃ q, pf = q + 1 := ⟨pf - 1, by omega⟩; obtain ⟨lo, hlo⟩ : ∃ lo, l.getD k 0 = lo := ⟨_, rfl⟩; have hx : lo < 256 := by rw [← hlo, List.getD_eq_getElem?_getD, List.getElem?_eq_getElem hk]; exact hl _ (List.getElem_mem hk)
     have hlk : l.drop k = lo :: l.drop (k + 1) := by
       rw [List.drop_eq_getElem_cons hk, ← hlo, List.getD_eq_getElem?_getD, List.getElem?_eq_getElem hk]; rfl
     have hw : At s i (wrt lo true) := by
       rw [← hlo]
       by_cases h4 : 4 ≤ runN l k
       · rw [prtF_run hk h4] at h; exact h.left.left.left.left
       · rw [prtF_one hk h4] at h; exact h.left.left
     have n93 : ¬ isC s i 93 := by
       obtain ⟨h0, hb | ⟨hb, _, hn, _⟩⟩ := wrt_head hx hw
       · exact isC_ne hb (by decide)
       · exact isC_ne hb fun e => hn (by rw [e]; decide)
     have hK : (if isC s i 92 then kndR s (i + 1) else none) = none := by
       obtain ⟨h0, hb | ⟨hb, _, hn, _⟩⟩ := wrt_head hx hw
       · rw [if_pos ⟨h0, hb⟩]; exact (esc_wrt hx hw hb).2.1
       · exact if_neg (isC_ne hb fun e => hn (by rw [e]; decide))
     rw [clsL, if_neg (fun q => n93 q.2), hK]; dsimp only; rw [pnt_wrt hx hw]; simp only [PR.bind]
     by_cases h4 : 4 ≤ runN l k
     · obtain ⟨hr1, hr2⟩ := runN_b hk; have hrise := runN_rise l k; obtain ⟨n, hn⟩ : ∃ n, runN l k = n := ⟨_, rfl⟩; have hhi : l.getD (k + n - 1) 0 = lo + (n - 1) := by
         have := hrise (n - 1) (by omega); rw [← Nat.add_sub_assoc (by omega)] at this; rw [this, hlo]
       rw [prtF_run hk h4, hlo, hn, hhi] at h ⊢; rw [hn] at hr1 hr2 hrise h4; have hx2 : lo + (n - 1) < 256 := by
         rw [← hhi, List.getD_eq_getElem?_getD, List.getElem?_eq_getElem (show k + n - 1 < l.length by omega)]; exact hl _ (List.getElem_mem _)
       have h45 : isC s (i + (wrt lo true).length) 45 := h.left.left.left.right.isC; have hw2 : At s (i + (wrt lo true).length + 1) (wrt (lo + (n - 1)) true) := by
         have := h.left.left.right; rw [List.length_append, List.length_cons, List.length_nil, ← Nat.add_assoc] at this; exact this
       have hr : At s (i + (wrt lo true).length + 1 + (wrt (lo + (n - 1)) true).length) (prtF l pf' (k + n) ++ [93]) := by
         have e : (wrt lo true ++ [45] ++ wrt (lo + (n - 1)) true ++ prtF l pf' (k + n) ++ [93]) = (wrt lo true ++ [45] ++ wrt (lo + (n - 1)) true) ++ (prtF l pf' (k + n) ++ [93]) := by simp only [List.append_assoc]
         rw [e] at h; have := h.right; rw [List.length_append, List.length_append, List.length_cons, List.length_nil] at this; rw [show i + (wrt lo true).length + 1 + (wrt (lo + (n - 1)) true).length = i + ((wrt lo true).length + (0 + 1) + (wrt (lo + (n - 1)) true).length) by omega]; exact this
       rw [if_pos h45, pnt_wrt hx2 hw2]; dsimp only; rw [if_neg (by omega)]; obtain ⟨A, hA, hAb⟩ := cls_prt hl pf' F (k + n) _ (orB a (rngB lo (lo + (n - 1)))) false hr (by omega) (by omega) (fun e => by cases e); refine ⟨A, ?_, fun b => ?_⟩
       · rw [hA]; simp only [List.length_append, List.length_cons, List.length_nil, PR.ok.injEq, true_and]; omega
       · rw [hAb b]; have hmem : b ∈ l.drop k ↔ (lo ≤ b ∧ b < lo + (n - 1) + 1) ∨ b ∈ l.drop (k + n) := by
           have e : l.drop k = (l.drop k).take n ++ l.drop (k + n) := by rw [← List.drop_drop, List.take_append_drop]
           rw [e, List.mem_append]; refine or_congr ?_ Iff.rfl
           constructor
           · intro hm; obtain ⟨m, hm1⟩ := List.getElem?_of_mem hm; have hmn : m < n := by
               have := (List.getElem?_eq_some_iff.1 hm1).1; rw [List.length_take] at this; omega
             rw [List.getElem?_take_of_lt hmn, List.getElem?_drop] at hm1; have := hrise m hmn; rw [List.getD_eq_getElem?_getD, hm1, hlo] at this; simp only [Option.getD_some] at this; omega
           · rintro ⟨h1, h2⟩; have hmn : b - lo < n := by omega
             have := hrise (b - lo) hmn; rw [hlo, List.getD_eq_getElem?_getD, List.getElem?_eq_getElem (show k + (b - lo) < l.length by omega)] at this; simp only [Option.getD_some] at this; refine List.mem_of_getElem? (i := b - lo) ?_; rw [List.getElem?_take_of_lt hmn, List.getElem?_drop, List.getElem?_eq_getElem (show k + (b - lo) < l.length by omega), this]
             congr 1; omega
         unfold orB rngB; rw [Bool.or_assoc, ← Bool.decide_and, ← Bool.decide_or, decide_eq_decide.2 hmem]
     · rw [prtF_one hk h4, hlo] at h ⊢; have hr : At s (i + (wrt lo true).length) (prtF l pf' (k + 1) ++ [93]) := by
         rw [List.append_assoc] at h; exact h.right
       rw [if_neg (prt_head hl (by omega) hr)]; obtain ⟨A, hA, hAb⟩ := cls_prt hl pf' F (k + 1) _ (orB a (rngB lo lo)) false hr (by omega) (by omega) (fun e => by cases e); refine ⟨A, ?_, fun b => ?_⟩
       · rw [hA, List.length_append, Nat.add_assoc]
       · rw [hAb b, hlk]; have hmem : b ∈ lo :: l.drop (k + 1) ↔ (lo ≤ b ∧ b < lo + 1) ∨ b ∈ l.drop (k + 1) := by
           rw [List.mem_cons]; exact or_congr ⟨fun e => by omega, fun e => by omega⟩ Iff.rfl
         unfold orB rngB; rw [Bool.or_assoc, ← Bool.decide_and, ← Bool.decide_or, decide_eq_decide.2 hmem]
   · have hfst : first = false := by
       cases first with
       | true => exact absurd (hf rfl) hk
       | false => rfl
     rw [prtF_end hk] at h ⊢; rw [clsL, if_pos ⟨hfst, h.isC⟩]; exact ⟨a, rfl, fun b => by rw [List.drop_eq_nil_of_le (by omega)]; simp⟩
end
open Go.RowKit
theorem bytes_all {p : Nat → Bool} (h : (bytesTo p 256).length = 256) (b : Nat) (hb : b < 256) : p b = true := by
 unfold bytesTo at h; have := List.length_filter_eq_length_iff.1 (h.trans (by simp : (256 : Nat) = (List.range 256).length)); exact this b (by simp [hb])
theorem bytes_none {p : Nat → Bool} (h : (bytesTo p 256).length = 0) (b : Nat) (hb : b < 256) : p b = false := by
 cases hp : p b with
 | false => rfl
 | true =>
   have := (bytesTo_mem hb).2 hp; rw [List.eq_nil_of_length_eq_zero h] at this
   cases this
theorem bytes_low (p : Nat → Bool) : ∀ x ∈ bytesTo p 256, x < 256 := fun _ h => bytesTo_lt h
theorem bytes_is (p : Nat → Bool) (b : Nat) (hb : b < 256) : decide (b ∈ bytesTo p 256) = p b := by
 cases hp : p b with
 | true => exact decide_eq_true ((bytesTo_mem hb).2 hp)
 | false => exact decide_eq_false fun q => by rw [(bytesTo_mem hb).1 q] at hp; cases hp
section
variable {s : List UInt8} {d i F : Nat} {p : Nat → Bool}
theorem atom_class {A : Nat → Bool} {k : Nat} (h : isC s i 91) (hc : clsR s F (i + 1) = .ok (setT A) k) : prs s (F + 1) .atom d i = .ok (setT A) k := by
 rw [prs, if_neg (isC_ne h.2 (by decide)), if_pos h, hc]
/-- a class's parts, written, between brackets -/
theorem cls_list {l : List Nat} {neg : Bool} (hl : ∀ x ∈ l, x < 256) (h0 : 0 < l.length) (hF : l.length < F) (h : At s i ([91] ++ (if neg then [94] else []) ++ prt l ++ [93])) :
   ∃ A, prs s (F + 1) .atom d i = .ok (setT A) (i + ([91] ++ (if neg then [94] else []) ++ prt l ++ [93] : List UInt8).length) ∧ ∀ b, A b = (if neg then !decide (b ∈ l) else decide (b ∈ l)) := by
 have h91 : isC s i 91 := h.left.left.left.isC
 cases neg with
 | true =>
   have h' : At s i (([91] ++ [94]) ++ (prt l ++ [93])) := by simpa only [List.append_assoc, if_true] using h
   have h94 : isC s (i + 1) 94 := h'.left.right.isC; obtain ⟨A, hA, hb⟩ := cls_prt (s := s) hl l.length F 0 (i + 1 + 1) (fun _ => false) true h'.right (Nat.le_refl _) (by omega) (fun _ => h0); refine ⟨notB A, atom_class h91 ?_, fun b => ?_⟩
   · unfold clsR; rw [if_pos h94, hA]; simp only [PR.bind, PR.ok.injEq, true_and, if_true, prt, List.length_append, List.length_cons, List.length_nil]; omega
   · show (!A b) = _; rw [hb b]
     simp
 | false =>
   have h' : At s i ([91] ++ (prt l ++ [93])) := by simpa only [List.append_assoc, List.append_nil, Bool.false_eq_true, if_false] using h
   have n94 : ¬ isC s (i + 1) 94 := by
     have hx : l.getD 0 0 < 256 := by rw [List.getD_eq_getElem?_getD, List.getElem?_eq_getElem h0]; exact hl _ (List.getElem_mem h0)
     have hw : At s (i + 1) (wrt (l.getD 0 0) true) := by
       have hr : At s (i + 1) (prt l ++ [93]) := h'.right; unfold prt at hr; obtain ⟨m, hm⟩ : ∃ m, l.length = m + 1 := ⟨l.length - 1, by omega⟩; rw [hm] at hr
       by_cases h4 : 4 ≤ runN l 0
       · rw [prtF_run h0 h4] at hr; exact hr.left.left.left.left
       · rw [prtF_one h0 h4] at hr; exact hr.left.left
     obtain ⟨_, hb | ⟨hb, _, hn, _⟩⟩ := wrt_head hx hw
     · exact isC_ne hb (by decide)
     · exact isC_ne hb fun e => hn (by rw [e]; decide)
   obtain ⟨A, hA, hb⟩ := cls_prt (s := s) hl l.length F 0 (i + 1) (fun _ => false) true h'.right (Nat.le_refl _) (by omega) (fun _ => h0); refine ⟨A, atom_class h91 ?_, fun b => ?_⟩
   · unfold clsR; rw [if_neg n94, hA]; simp only [PR.bind, PR.ok.injEq, true_and, Bool.false_eq_true, if_false, prt, List.length_append, List.length_cons, List.length_nil]; omega
   · rw [hb b]
     simp
/-- all bytes, as one range -/
theorem all_prt : [92, 120, 48, 48, 45, 92, 120, 102, 102] = wrt 0 true ++ [45] ++ wrt 255 true := by decide
theorem cls_all {a : Nat → Bool} {j : Nat} (h : At s j ([92, 120, 48, 48, 45, 92, 120, 102, 102] ++ [93])) (hF : 2 ≤ F) : ∃ A, clsL s F a true j = .ok A (j + 9) ∧ ∀ b, b < 256 → A b = true := by
 rw [all_prt] at h; obtain ⟨F', rfl⟩ : ∃ q, F = q + 1 + 1 := ⟨F - 2, by omega⟩; have hw : At s j (wrt 0 true) := h.left.left.left; have hb := (h.left.left.left.head (c := 92) (u := [120, 48, 48])); have h45 : isC s (j + (wrt 0 true).length) 45 := h.left.left.right.isC; have hw2 : At s (j + (wrt 0 true).length + 1) (wrt 255 true) := by
   have := h.left.right; rw [List.length_append, List.length_cons, List.length_nil, ← Nat.add_assoc] at this; exact this
 have h93 : isC s (j + (wrt 0 true).length + 1 + (wrt 255 true).length) 93 := by
   have := h.right.isC; rw [List.length_append, List.length_append, List.length_cons, List.length_nil] at this; rw [show j + (wrt 0 true).length + 1 + (wrt 255 true).length = j + ((wrt 0 true).length + (0 + 1) + (wrt 255 true).length) by omega]; exact this
 have e := esc_wrt (inn := true) (c := 0) (by decide) hw hb.2; refine ⟨orB a (rngB 0 255), ?_, fun b hb => by unfold orB rngB; rw [decide_eq_true (Nat.zero_le b), decide_eq_true (show b < 255 + 1 by omega)]; simp⟩; rw [clsL, if_neg (fun q => by cases q.1), if_pos e.2.2, e.2.1]; dsimp only; rw [pnt_wrt (by decide) hw]; simp only [PR.bind]; rw [if_pos h45, pnt_wrt (by decide) hw2]; dsimp only; rw [if_neg (by decide), clsL, if_pos ⟨rfl, h93⟩]; rfl
theorem atom_set (hF : 300 ≤ F) (h : At s i (setTx p)) : ∃ q, prs s (F + 1) .atom d i = .ok (setT q) (i + (setTx p).length) ∧ ∀ b, b < 256 → q b = p b := by
 unfold setTx at h ⊢
 by_cases h1 : (bytesTo p 256).length = 1
 · rw [if_pos h1] at h ⊢; obtain ⟨c, hc⟩ := List.length_eq_one_iff.1 h1; have e : (bytesTo p 256).getD 0 0 = c := by rw [hc]; rfl
   rw [e] at h ⊢; have hc256 : c < 256 := bytesTo_lt (p := p) (by rw [hc]; simp); refine ⟨oneB c, atom_wrt hc256 h, fun b hb => ?_⟩; rw [← bytes_is p b hb, hc]; unfold oneB
   by_cases e : b = c
   · subst e; simp
   · simp [e]
 rw [if_neg h1] at h ⊢
 by_cases h2 : W p 0 = W noLn 0 ∧ W p 1 = W noLn 1 ∧ W p 2 = W noLn 2 ∧ W p 3 = W noLn 3
 · rw [if_pos h2] at h ⊢; have e0 : bt s i = 46 := h.head.2; refine ⟨notB (oneB 10), ?_, fun b hb => ?_⟩
   · have h46 : isC s i 46 := h.isC; rw [prs, if_neg (isC_ne e0 (by decide)), if_neg (isC_ne e0 (by decide)), if_pos h46]; rfl
   · have := W_inj (p := p) (q := noLn) (fun k hk => by
       rcases (by omega : k = 0 ∨ k = 1 ∨ k = 2 ∨ k = 3) with rfl | rfl | rfl | rfl
       · exact h2.1
       · exact h2.2.1
       · exact h2.2.2.1
       · exact h2.2.2.2) b hb
     rw [this]; rfl
 rw [if_neg h2] at h ⊢
 by_cases h3 : (bytesTo p 256).length = 0
 · rw [if_pos h3] at h ⊢; have h' : At s i (([91, 94] : List UInt8) ++ ([92, 120, 48, 48, 45, 92, 120, 102, 102] ++ [93])) := h; obtain ⟨A, hA, hb⟩ := cls_all (F := F) (a := fun _ => false) h'.right (by omega); refine ⟨notB A, atom_class h'.left.isC ?_, fun b hb2 => ?_⟩
   · unfold clsR; have h94 : isC s (i + 1) 94 := h'.left.tail.isC; rw [if_pos h94]; have e : clsL s F (fun _ => false) true (i + 1 + 1) = .ok A (i + 2 + 9) := hA; rw [e]; rfl
   · show (!A b) = _; rw [hb b hb2, bytes_none h3 b hb2]; rfl
 rw [if_neg h3] at h ⊢
 by_cases h4 : (bytesTo p 256).length = 256
 · rw [if_pos h4] at h ⊢; have h' : At s i (([91] : List UInt8) ++ ([92, 120, 48, 48, 45, 92, 120, 102, 102] ++ [93])) := h; obtain ⟨A, hA, hb⟩ := cls_all (F := F) (a := fun _ => false) h'.right (by omega); refine ⟨A, atom_class h'.left.isC ?_, fun b hb2 => ?_⟩
   · unfold clsR; have e92 : bt s (i + 1) = 92 := (h'.right.head (c := 92) (u := [120, 48, 48, 45, 92, 120, 102, 102, 93])).2; rw [if_neg (isC_ne e92 (by decide))]; have e : clsL s F (fun _ => false) true (i + 1) = .ok A (i + 1 + 9) := hA; rw [e]; rfl
   · rw [hb b hb2, bytes_all h4 b hb2]
 rw [if_neg h4] at h ⊢; have hlen := bytesTo_length p 256
 by_cases h5 : 128 < (bytesTo p 256).length
 · rw [if_pos h5] at h ⊢; have hne : 0 < (bytesTo (fun b => !p b) 256).length := by
     rcases Nat.eq_zero_or_pos (bytesTo (fun b => !p b) 256).length with h0 | h0
     · exfalso
       apply h4; unfold bytesTo; rw [List.length_filter_eq_length_iff.2]
       · simp
       · intro b hb; have := bytes_none h0 b (by simpa using hb)
         simpa using this
     · exact h0
   have hl2 := bytesTo_length (fun b => !p b) 256; obtain ⟨A, hA, hb⟩ := cls_list (s := s) (i := i) (d := d) (F := F) (neg := true) (bytes_low _) hne (by omega) h; refine ⟨A, hA, fun b hb2 => ?_⟩; rw [hb b, if_pos rfl, bytes_is _ b hb2]
   simp
 · rw [if_neg h5] at h ⊢; have h' : At s i ([91] ++ (if false = true then [94] else []) ++ prt (bytesTo p 256) ++ [93]) := by simpa using h
   obtain ⟨A, hA, hb⟩ := cls_list (s := s) (i := i) (d := d) (F := F) (neg := false) (bytes_low _) (by omega) (by omega) h'; refine ⟨A, ?_, fun b hb2 => ?_⟩
   · rw [hA]; simp
   · rw [hb b, if_neg (by decide), bytes_is _ b hb2]
end
open Go.RowKit
theorem bind_mono {α β : Type} {x x' : PR α} {g g' : α → Nat → PR β} (hx : x ≠ .out → x' = x) (hg : ∀ a j, g a j ≠ .out → g' a j = g a j) (h : x.bind g ≠ .out) : x'.bind g' = x.bind g := by
 cases x with
 | ok a j => rw [hx (fun e => by cases e)]; exact hg a j h
 | bad e j => rw [hx (fun e => by cases e)]; rfl
 | out => exact absurd rfl h
theorem ite_mono {α : Type} {p : Prop} [Decidable p] {a b a' b' : PR α} (h1 : a ≠ .out → a' = a) (h2 : b ≠ .out → b' = b) (h : (if p then a else b) ≠ .out) : (if p then a' else b') = if p then a else b := by
 by_cases hp : p
 · rw [if_pos hp] at h ⊢; rw [if_pos hp]; exact h1 h
 · rw [if_neg hp] at h ⊢; rw [if_neg hp]; exact h2 h
section
variable {s : List UInt8}
theorem clsL_mono : ∀ (f : Nat) (a : Nat → Bool) (first : Bool) (i : Nat), clsL s f a first i ≠ .out → clsL s (f + 1) a first i = clsL s f a first i
 | 0, _, _, _, h => absurd (by rw [clsL]) h
 | f + 1, a, first, i, h => by
   rw [clsL] at h
   conv => rhs; rw [clsL]
   rw [clsL]; refine ite_mono (fun _ => rfl) (fun h => ?_) h
   cases hK : (if isC s i 92 then kndR s (i + 1) else none) with
   | some p => rw [hK] at h; exact clsL_mono f _ _ _ h
   | none =>
     rw [hK] at h; dsimp only at h ⊢; refine bind_mono (fun _ => rfl) (fun lo j h => ?_) h; refine ite_mono (fun h => ?_) (fun h => clsL_mono f _ _ _ h) h; refine bind_mono (fun _ => rfl) (fun hi k h => ?_) h; exact ite_mono (fun _ => rfl) (fun h => clsL_mono f _ _ _ h) h
theorem clsR_mono (f i : Nat) (h : clsR s f i ≠ .out) : clsR s (f + 1) i = clsR s f i := by
 unfold clsR at h ⊢; refine ite_mono (fun h => ?_) (fun h => ?_) h
 · exact bind_mono (fun h => clsL_mono f _ _ _ h) (fun _ _ _ => rfl) h
 · exact bind_mono (fun h => clsL_mono f _ _ _ h) (fun _ _ _ => rfl) h
theorem prs_mono : ∀ (f : Nat) (k : Tk) (d i : Nat), prs s f k d i ≠ .out → prs s (f + 1) k d i = prs s f k d i
 | 0, _, _, _, h => absurd (by rw [prs]) h
 | f + 1, k, d, i, h => by
   cases k with
   | alt =>
     rw [prs] at h
     conv => rhs; rw [prs]
     rw [prs]; exact bind_mono (fun h => prs_mono f _ _ _ h) (fun _ _ h => prs_mono f _ _ _ h) h
   | altL l =>
     rw [prs] at h
     conv => rhs; rw [prs]
     rw [prs]; refine ite_mono (fun h => ?_) (fun _ => rfl) h; exact bind_mono (fun h => prs_mono f _ _ _ h) (fun _ _ h => prs_mono f _ _ _ h) h
   | cat l =>
     rw [prs] at h
     conv => rhs; rw [prs]
     rw [prs]; refine ite_mono (fun h => ?_) (fun _ => rfl) h; exact bind_mono (fun h => prs_mono f _ _ _ h) (fun _ _ h => prs_mono f _ _ _ h) h
   | item =>
     rw [prs] at h
     conv => rhs; rw [prs]
     rw [prs]; exact bind_mono (fun h => prs_mono f _ _ _ h) (fun _ _ h => prs_mono f _ _ _ h) h
   | itemL t =>
     rw [prs] at h
     conv => rhs; rw [prs]
     rw [prs]; refine ite_mono (fun h => prs_mono f _ _ _ h) (fun h => ?_) h; refine ite_mono (fun h => prs_mono f _ _ _ h) (fun h => ?_) h; refine ite_mono (fun h => prs_mono f _ _ _ h) (fun h => ?_) h; refine ite_mono (fun h => ?_) (fun _ => rfl) h; refine bind_mono (fun _ => rfl) (fun b j h => ?_) h; exact ite_mono (fun h => prs_mono f _ _ _ h) (fun _ => rfl) h
   | atom =>
     rw [prs] at h
     conv => rhs; rw [prs]
     rw [prs]; refine ite_mono (fun h => ?_) (fun h => ?_) h
     · refine ite_mono (fun _ => rfl) (fun h => ?_) h; exact bind_mono (fun h => prs_mono f _ _ _ h) (fun _ _ _ => rfl) h
     refine ite_mono (fun h => clsR_mono f _ h) (fun _ => rfl) h
theorem prs_more {f : Nat} {k : Tk} {d i : Nat} {t : Re} {j : Nat} (h : prs s f k d i = .ok t j) : ∀ n, prs s (f + n) k d i = .ok t j
 | 0 => h
 | n + 1 => by
   have := prs_more h n; rw [← Nat.add_assoc, prs_mono _ _ _ _ (by rw [this]; intro e; cases e), this]
theorem prs_le {f g : Nat} {k : Tk} {d i : Nat} {t : Re} {j : Nat} (h : prs s f k d i = .ok t j) (hg : f ≤ g) : prs s g k d i = .ok t j := by
 have := prs_more h (g - f); rwa [Nat.add_sub_of_le hg] at this
/-- with enough fuel, it is read so -/
def Rd (s : List UInt8) (k : Tk) (d i : Nat) (t : Re) (j : Nat) : Prop := ∃ f, prs s f k d i = .ok t j
variable {d i j j' : Nat} {t t' : Re} {l : List Re}
theorem Rd.alt (h1 : Rd s (.cat []) d i t j) (h2 : Rd s (.altL [t]) d j t' j') : Rd s .alt d i t' j' := by
 obtain ⟨f, h1⟩ := h1; obtain ⟨g, h2⟩ := h2; refine ⟨max f g + 1, ?_⟩; rw [prs, prs_le h1 (Nat.le_max_left _ _)]; exact prs_le h2 (Nat.le_max_right _ _)
theorem Rd.item (h1 : Rd s .atom d i t j) (h2 : Rd s (.itemL t) d j t' j') : Rd s .item d i t' j' := by
 obtain ⟨f, h1⟩ := h1; obtain ⟨g, h2⟩ := h2; refine ⟨max f g + 1, ?_⟩; rw [prs, prs_le h1 (Nat.le_max_left _ _)]; exact prs_le h2 (Nat.le_max_right _ _)
theorem Rd.brk (h40 : isC s i 40) (hd : d < 30) (h1 : Rd s .alt (d + 1) (i + 1) t j) (h41 : isC s j 41) : Rd s .atom d i t (j + 1) := by
 obtain ⟨f, h1⟩ := h1; exact ⟨f + 1, by rw [prs, if_pos h40, if_neg (by omega), h1]; simp only [PR.bind]; rw [if_pos h41]⟩
theorem Rd.set {p : Nat → Bool} (h : At s i (setTx p)) : ∃ q, Rd s .atom d i (setT q) (i + (setTx p).length) ∧ ∀ b, b < 256 → q b = p b := by
 obtain ⟨q, hq, hb⟩ := atom_set (F := 300) (d := d) (Nat.le_refl _) h; exact ⟨q, ⟨301, hq⟩, hb⟩
/-- how often, with a bound of digits -/
theorem Rd.bound {lo : Nat} {hi : Int} {k : Nat} (hc : isC s i 123) (hb : bndR s (i + 1) = .ok (lo, hi) k) (h125 : isC s k 125) (h2 : Rd s (.itemL (repT lo hi t)) d (k + 1) t' j') : Rd s (.itemL t) d i t' j' := by
 obtain ⟨g, h2⟩ := h2; refine ⟨g + 1, ?_⟩; have e0 := hc.2; rw [prs, if_neg (isC_ne e0 (by decide)), if_neg (isC_ne e0 (by decide)), if_neg (isC_ne e0 (by decide)), if_pos hc, hb]; simp only [PR.bind]; rw [if_pos h125, h2]
theorem Rd.star (hc : isC s i 42) (h2 : Rd s (.itemL (repT 0 (-1) t)) d (i + 1) t' j') : Rd s (.itemL t) d i t' j' := by
 obtain ⟨g, h2⟩ := h2; exact ⟨g + 1, by rw [prs, if_pos hc, h2]⟩
theorem Rd.plus (hc : isC s i 43) (h2 : Rd s (.itemL (repT 1 (-1) t)) d (i + 1) t' j') : Rd s (.itemL t) d i t' j' := by
 obtain ⟨g, h2⟩ := h2; exact ⟨g + 1, by rw [prs, if_neg (isC_ne hc.2 (by decide)), if_pos hc, h2]⟩
theorem Rd.may (hc : isC s i 63) (h2 : Rd s (.itemL (repT 0 1 t)) d (i + 1) t' j') : Rd s (.itemL t) d i t' j' := by
 obtain ⟨g, h2⟩ := h2; exact ⟨g + 1, by rw [prs, if_neg (isC_ne hc.2 (by decide)), if_neg (isC_ne hc.2 (by decide)), if_pos hc, h2]⟩
end
open Go.RowKit
theorem itoa_20 : ∀ n : Fin 21, Lib.itoa ((n.val : Nat) : Int) = if n.val < 10 then [u8 (48 + n.val)] else [u8 (48 + n.val / 10), u8 (48 + n.val % 10)] := by decide +kernel
section
variable {s : List UInt8} {i d : Nat}
theorem dig_at {n : Nat} {u : List UInt8} (hn : n < 10) (h : At s i (u8 (48 + n) :: u)) : isD s i ∧ bt s i - 48 = n := by
 have e := h.head; rw [u8n (by omega)] at e; exact ⟨⟨e.1, by omega, by omega⟩, by omega⟩
theorem num_at {n least : Nat} (hn : n ≤ 20) (hl : least ≤ n) (h : At s i (Lib.itoa (n : Int))) (hd : ¬ isD s (i + (Lib.itoa (n : Int)).length)) : numR s least i = .ok n (i + (Lib.itoa (n : Int)).length) := by
 have e := itoa_20 ⟨n, by omega⟩; dsimp only at e; rw [e] at h hd ⊢
 by_cases h10 : n < 10
 · rw [if_pos h10] at h hd ⊢; obtain ⟨h1, h2⟩ := dig_at h10 h; have hd' : ¬ isD s (i + 1) := hd; unfold numR; rw [if_pos h1, if_neg hd', h2, if_neg (by omega)]; rfl
 · rw [if_neg h10] at h hd ⊢; obtain ⟨h1, h2⟩ := dig_at (by omega) h; obtain ⟨h3, h4⟩ := dig_at (Nat.mod_lt _ (by decide)) h.tail; unfold numR; rw [if_pos h1, if_pos h3, h2, h4, show 10 * (n / 10) + n % 10 = n by omega, if_neg (by omega)]; rfl
theorem noD {c : Nat} (h : isC s i c) (hc : ¬ (48 ≤ c ∧ c ≤ 57)) : ¬ isD s i := fun q => hc (by have := q.2; rw [h.2] at this; exact this)
theorem numDig {n : Nat} {u : List UInt8} (hn : n ≤ 20) (h : At s i (Lib.itoa (n : Int) ++ u)) : isD s i := by
 have e := itoa_20 ⟨n, by omega⟩; dsimp only at e; rw [e] at h
 by_cases h10 : n < 10
 · rw [if_pos h10] at h; exact (dig_at h10 h).1
 · rw [if_neg h10] at h; exact (dig_at (by omega) h).1
variable {t t' : Re} {j' : Nat}
theorem repT_is {lo : Nat} {hi : Int} (h : ¬ (lo = 1 ∧ hi = 1)) : repT lo hi t = .mk 4 (0, 0, 0, 0) lo hi [t] := by unfold repT; rw [if_neg h]
theorem Rd.rpt {a b : Int} (ha : 0 ≤ a ∧ a ≤ 20) (hb : b = -1 ∨ (a ≤ b ∧ b ≤ 20 ∧ ¬ (a = 1 ∧ b = 1))) (h : At s i (rpt a b)) (h2 : Rd s (.itemL (.mk 4 (0, 0, 0, 0) a b [t])) d (i + (Go.Proofs.YtonkenlkigfeoaaDoor.rpt a b).length) t' j') : Rd s (.itemL t) d i t' j' := by
 obtain ⟨n, rfl⟩ : ∃ n : Nat, a = n := ⟨a.toNat, by omega⟩; unfold Go.Proofs.YtonkenlkigfeoaaDoor.rpt at h h2
 by_cases c1 : ((n : Nat) : Int) = 0 ∧ b = -1
 · rw [if_pos c1] at h h2; obtain ⟨e1, rfl⟩ := c1; have hn : n = 0 := by omega
   subst hn; exact Rd.star h.isC (by rw [repT_is (by omega)]; exact h2)
 rw [if_neg c1] at h h2
 by_cases c2 : ((n : Nat) : Int) = 1 ∧ b = -1
 · rw [if_pos c2] at h h2; obtain ⟨e1, rfl⟩ := c2; have hn : n = 1 := by omega
   subst hn; exact Rd.plus h.isC (by rw [repT_is (by omega)]; exact h2)
 rw [if_neg c2] at h h2
 by_cases c3 : ((n : Nat) : Int) = 0 ∧ b = 1
 · rw [if_pos c3] at h h2; obtain ⟨e1, rfl⟩ := c3; have hn : n = 0 := by omega
   subst hn; exact Rd.may h.isC (by rw [repT_is (by omega)]; exact h2)
 rw [if_neg c3] at h h2
 by_cases c4 : ((n : Nat) : Int) = b
 · subst c4; rw [if_pos rfl] at h h2; have hA : At s (i + 1) (Lib.itoa (n : Int) ++ [125]) := by rw [List.append_assoc] at h; exact h.right
   have h125 : isC s (i + 1 + (Lib.itoa (n : Int)).length) 125 := hA.right.isC; have hnum := num_at (least := 0) (by omega) (Nat.zero_le _) hA.left (noD h125 (by decide)); refine Rd.bound (lo := n) (hi := n) (k := i + 1 + (Lib.itoa (n : Int)).length) h.left.left.isC ?_ h125 ?_
   · unfold bndR; rw [hnum]; simp only [PR.bind]; rw [if_neg (isC_ne h125.2 (by decide))]
   · rw [repT_is (by omega)]; rw [List.length_append, List.length_append, List.length_cons, List.length_nil, List.length_cons, List.length_nil] at h2; rw [show i + 1 + (Lib.itoa (n : Int)).length + 1 = i + (0 + 1 + (Lib.itoa (n : Int)).length + (0 + 1)) by omega]; exact h2
 rw [if_neg c4] at h h2
 by_cases c5 : b = -1
 · subst c5; rw [if_pos rfl] at h h2; have hA : At s (i + 1) (Lib.itoa (n : Int) ++ [44, 125]) := by rw [List.append_assoc] at h; exact h.right
   have h44 : isC s (i + 1 + (Lib.itoa (n : Int)).length) 44 := hA.right.isC; have h125 : isC s (i + 1 + (Lib.itoa (n : Int)).length + 1) 125 := hA.right.tail.isC; have hnum := num_at (least := 0) (by omega) (Nat.zero_le _) hA.left (noD h44 (by decide)); refine Rd.bound (lo := n) (hi := -1) (k := i + 1 + (Lib.itoa (n : Int)).length + 1) h.left.left.isC ?_ h125 ?_
   · unfold bndR; rw [hnum]; simp only [PR.bind]; rw [if_pos h44, if_pos h125]
   · rw [repT_is (by omega)]; rw [List.length_append, List.length_append, List.length_cons, List.length_nil, List.length_cons, List.length_cons, List.length_nil] at h2; rw [show i + 1 + (Lib.itoa (n : Int)).length + 1 + 1 = i + (0 + 1 + (Lib.itoa (n : Int)).length + (0 + 1 + 1)) by omega]; exact h2
 rw [if_neg c5] at h h2; obtain ⟨m, rfl⟩ : ∃ m : Nat, b = m := ⟨b.toNat, by omega⟩; have hA : At s (i + 1) (Lib.itoa (n : Int) ++ ([44] ++ (Lib.itoa (m : Int) ++ [125]))) := by
   simp only [List.append_assoc] at h; exact h.right
 have h44 : isC s (i + 1 + (Lib.itoa (n : Int)).length) 44 := hA.right.isC; have hB : At s (i + 1 + (Lib.itoa (n : Int)).length + 1) (Lib.itoa (m : Int) ++ [125]) := hA.right.tail; have h125 : isC s (i + 1 + (Lib.itoa (n : Int)).length + 1 + (Lib.itoa (m : Int)).length) 125 := hB.right.isC; have hnum := num_at (least := 0) (by omega) (Nat.zero_le _) hA.left (noD h44 (by decide)); have hnum2 := num_at (least := n) (by omega) (by omega) hB.left (noD h125 (by decide)); have hdg := numDig (by omega) hB
 refine Rd.bound (lo := n) (hi := m) (k := i + 1 + (Lib.itoa (n : Int)).length + 1 + (Lib.itoa (m : Int)).length) h.left.left.left.left.isC ?_ h125 ?_
 · unfold bndR; rw [hnum]; simp only [PR.bind]; rw [if_pos h44, if_neg (fun q => by have h1 := hdg.2; rw [q.2] at h1; omega), hnum2]
 · rw [repT_is (by omega)]; simp only [List.length_append, List.length_cons, List.length_nil] at h2; rw [show i + 1 + (Lib.itoa (n : Int)).length + 1 + (Lib.itoa (m : Int)).length + 1 = i + (0 + 1 + (Lib.itoa (n : Int)).length + (0 + 1) + (Lib.itoa (m : Int)).length + (0 + 1)) by omega]; exact h2
end
open Go.RowKit
/-- one behind the other ends there -/
def End1 (s : List UInt8) (j : Nat) : Prop := ¬ (j < s.length ∧ bt s j ≠ 124 ∧ bt s j ≠ 41)
/-- alternatives end there -/
def End2 (s : List UInt8) (j : Nat) : Prop := End1 s j ∧ ¬ isC s j 124
/-- a part begins there -/
def Hd (s : List UInt8) (i : Nat) : Prop := i < s.length ∧ bt s i ≠ 124 ∧ bt s i ≠ 41 ∧ bt s i ≠ 42 ∧ bt s i ≠ 43 ∧ bt s i ≠ 63 ∧ bt s i ≠ 123
section
variable {s : List UInt8} {i j d : Nat}
theorem Hd.of {c : Nat} (h : isC s i c) (hc : c ≠ 124 ∧ c ≠ 41 ∧ c ≠ 42 ∧ c ≠ 43 ∧ c ≠ 63 ∧ c ≠ 123) : Hd s i := ⟨h.1, by rw [h.2]; exact hc.1, by rw [h.2]; exact hc.2.1, by rw [h.2]; exact hc.2.2.1, by rw [h.2]; exact hc.2.2.2.1, by rw [h.2]; exact hc.2.2.2.2.1, by rw [h.2]; exact hc.2.2.2.2.2⟩
theorem End2.brk (h : isC s j 41) : End2 s j := ⟨fun q => q.2.2 h.2, isC_ne h.2 (by decide)⟩
end
/-- a node's text within a row -/
noncomputable def tx (h : Nat) (u : Re) : List UInt8 := brk (decide (u.kind = 3)) (txt h u)
section
variable {s : List UInt8} {h d : Nat}
end
theorem dep_kid {h : Nat} {t u : Re} (hu : u ∈ t.kids) : 1 + dep h u ≤ dep (h + 1) t := by
 rw [dep]; have : ∀ {l : List Nat} {x : Nat}, x ∈ l → x ≤ mxl l := by
   intro l
   induction l with
   | nil => intro x hx; cases hx
   | cons y l ih =>
     intro x hx; rw [mxl]
     rcases List.mem_cons.1 hx with rfl | hx
     · omega
     · have := ih hx; omega
 have := this (List.mem_map.2 ⟨u, hu, rfl⟩ : dep h u ∈ t.kids.map (dep h)); omega
open Go.RowKit
theorem kind_same (t : Re) : t.kindP = t.kind := by cases t; rfl
open Go.RowKit
/-- each node may be, its words are words -/
inductive Shp : Re → Prop where
 | mk (k : Int) (st : Nat × Nat × Nat × Nat) (mn mx : Int) (kids : List Re) (h : okP (.mk k st mn mx kids)) (hw : words64 st) (hk : ∀ u ∈ kids, Shp u) : Shp (.mk k st mn mx kids)
theorem Shp.ok {t : Re} (h : Shp t) : okP t := by cases h; assumption
theorem Shp.kid {t u : Re} (h : Shp t) (hu : u ∈ t.kidsP) : Shp u := by
 cases h with
 | mk k st mn mx kids h hw hk => exact hk u hu
theorem w00 : words64 (0, 0, 0, 0) := by unfold words64 U64; decide
theorem Shp.set (p : Nat → Bool) : Shp (setT p) := .mk _ _ _ _ _ (.inl ⟨rfl, rfl, rfl, rfl⟩) ⟨W_u64 p 0, W_u64 p 1, W_u64 p 2, W_u64 p 3⟩ (fun u hu => by cases hu)
theorem noS0 : noS (0, 0, 0, 0) = true := by decide
theorem Shp.rep {lo : Nat} {hi : Int} {t : Re} (ht : Shp t) (hl : lo ≤ 20) (hh : hi = -1 ∨ ((lo : Int) ≤ hi ∧ hi ≤ 20)) : Shp (repT lo hi t) := by
 unfold repT; split
 · exact ht
 · rename_i hn; refine .mk _ _ _ _ _ (.inr (.inr ⟨rfl, noS0, rfl, by omega, by omega, ?_⟩)) w00 (fun u hu => by simp only [List.mem_singleton] at hu; rw [hu]; exact ht)
   rcases hh with hh | ⟨h1, h2⟩
   · exact .inl hh
   · exact .inr ⟨h1, h2, fun q => hn ⟨by omega, q.2⟩⟩
theorem flat_shp {k : Int} (hk : k = 2 ∨ k = 3) : ∀ {l : List Re}, (∀ u ∈ l, Shp u) → ∀ u ∈ flatT k l, Shp u ∧ u.kind ≠ k
 | [], _, u, hu => by cases hu
 | t :: l, h, u, hu => by
   unfold flatT at hu; rw [List.flatMap_cons, List.mem_append] at hu
   rcases hu with hu | hu
   · have ht := h t (by simp)
     split at hu
     · rename_i hkt; refine ⟨ht.kid hu, ?_⟩; have ho := ht.ok; obtain ⟨k', st, mn, mx, kids⟩ := t; have e : k' = k := hkt; subst e
       rcases ho with ⟨o, _⟩ | ⟨_, _, _, _, _, o⟩ | ⟨o, _⟩
       · omega
       · exact o u hu
       · omega
     · rename_i hkt; simp only [List.mem_singleton] at hu; subst hu; exact ⟨ht, by rw [← kind_same]; exact hkt⟩
   · exact flat_shp hk (fun v hv => h v (by simp [hv])) u hu
theorem flat_some {k : Int} (hk : k = 2 ∨ k = 3) {l : List Re} (h : ∀ u ∈ l, Shp u) (h3 : k = 3) (h0 : l ≠ []) : 0 < (flatT k l).length := by
 cases l with
 | nil => exact absurd rfl h0
 | cons t l =>
   unfold flatT; rw [List.flatMap_cons, List.length_append]; have ht := (h t (by simp)).ok; split
   · rename_i hkt; obtain ⟨k', st, mn, mx, kids⟩ := t; have e : k' = k := hkt; subst e; have : 0 < kids.length := by
       rcases ht with ⟨o, _⟩ | ⟨_, _, _, _, o, _⟩ | ⟨o, _⟩
       · omega
       · rcases o with o | ⟨o, _⟩
         · omega
         · omega
       · omega
     show 0 < kids.length + _; omega
   · simp only [List.length_cons, List.length_nil]; omega
theorem Shp.join {k : Int} (hk : k = 2 ∨ k = 3) {l : List Re} (h : ∀ u ∈ l, Shp u) (h0 : k = 3 → l ≠ []) : Shp (joinT k l) := by
 have hf := flat_shp hk h
 by_cases h1 : (flatT k l).length = 1
 · obtain ⟨t, ht⟩ := List.length_eq_one_iff.1 h1; rw [joinT_one ht]; exact (hf t (by rw [ht]; simp)).1
 · rw [joinT_many h1]; refine .mk _ _ _ _ _ (.inr (.inl ⟨hk, noS0, rfl, rfl, ?_, fun u hu => (hf u hu).2⟩)) w00 (fun u hu => (hf u hu).1)
   by_cases h3 : k = 3
   · have := flat_some hk h h3 (h0 h3); exact .inl (by omega)
   · by_cases hz : (flatT k l).length = 0
     · exact .inr ⟨by omega, by omega⟩
     · exact .inl (by omega)
/-- the trees that a part begins with -/
def Tk.good : Tk → Prop
 | .altL l => (∀ u ∈ l, Shp u) ∧ l ≠ []
 | .cat l => ∀ u ∈ l, Shp u
 | .itemL t => Shp t
 | _ => True
section
variable {s : List UInt8}
theorem numR_ge {least i a j : Nat} (h : numR s least i = .ok a j) : least ≤ a ∧ a ≤ 20 := by
 unfold numR at h
 split at h
 · rename_i hd
   split at h
   · split at h
     · cases h
     · simp only [PR.ok.injEq] at h; omega
   · split at h
     · cases h
     · simp only [PR.ok.injEq] at h; have := hd.2; omega
 · cases h
theorem bndR_ge {i j : Nat} {b : Nat × Int} (h : bndR s i = .ok b j) : b.1 ≤ 20 ∧ (b.2 = -1 ∨ ((b.1 : Int) ≤ b.2 ∧ b.2 ≤ 20)) := by
 unfold bndR at h; obtain ⟨lo, k, h1, h2⟩ := PR.bind_ok h; have hl := numR_ge h1
 split at h2
 · split at h2
   · simp only [PR.ok.injEq] at h2; rw [← h2.1]; exact ⟨hl.2, .inl rfl⟩
   · obtain ⟨hi, k2, h3, h4⟩ := PR.bind_ok h2; have hh := numR_ge h3; simp only [PR.ok.injEq] at h4; rw [← h4.1]; exact ⟨hl.2, .inr ⟨by show (lo : Int) ≤ (hi : Int); omega, by show (hi : Int) ≤ 20; omega⟩⟩
 · simp only [PR.ok.injEq] at h2; rw [← h2.1]; exact ⟨hl.2, .inr ⟨Int.le_refl _, by show (lo : Int) ≤ 20; omega⟩⟩
theorem clsR_shp {f i : Nat} {t : Re} {j : Nat} (h : clsR s f i = .ok t j) : Shp t := by
 unfold clsR at h
 split at h
 all_goals
   obtain ⟨a, k, _, h2⟩ := PR.bind_ok h; simp only [PR.ok.injEq] at h2; rw [← h2.1]; exact Shp.set _
theorem app_shp {l : List Re} {a : Re} (h : ∀ u ∈ l, Shp u) (ha : Shp a) : ∀ u ∈ l ++ [a], Shp u := fun u hu => by
 rcases List.mem_append.1 hu with hu | hu
 · exact h u hu
 · simp only [List.mem_singleton] at hu; rw [hu]; exact ha
theorem prs_shp : ∀ (f : Nat) (k : Tk) (d i : Nat) (t : Re) (j : Nat), k.good → prs s f k d i = .ok t j → Shp t
 | 0, _, _, _, _, _, _, h => by rw [prs] at h; cases h
 | f + 1, .alt, d, i, t, j, _, h => by
   rw [prs] at h; obtain ⟨a, k, h1, h2⟩ := PR.bind_ok h; have ha := prs_shp f (.cat []) d i a k (fun u hu => by cases hu) h1; exact prs_shp f (.altL [a]) d k t j ⟨fun u hu => by simp only [List.mem_singleton] at hu; rw [hu]; exact ha, by simp⟩ h2
 | f + 1, .altL l, d, i, t, j, hg, h => by
   rw [prs] at h
   split at h
   · obtain ⟨a, k, h1, h2⟩ := PR.bind_ok h; have ha := prs_shp f (.cat []) d (i + 1) a k (fun u hu => by cases hu) h1; exact prs_shp f (.altL (l ++ [a])) d k t j ⟨app_shp hg.1 ha, by simp⟩ h2
   · simp only [PR.ok.injEq] at h; rw [← h.1]; exact Shp.join (.inr rfl) hg.1 fun _ => hg.2
 | f + 1, .cat l, d, i, t, j, hg, h => by
   rw [prs] at h
   split at h
   · obtain ⟨a, k, h1, h2⟩ := PR.bind_ok h; have ha := prs_shp f .item d i a k trivial h1; exact prs_shp f (.cat (l ++ [a])) d k t j (app_shp hg ha) h2
   · simp only [PR.ok.injEq] at h; rw [← h.1]; exact Shp.join (.inl rfl) hg fun q => by omega
 | f + 1, .item, d, i, t, j, _, h => by
   rw [prs] at h; obtain ⟨a, k, h1, h2⟩ := PR.bind_ok h; exact prs_shp f (.itemL a) d k t j (prs_shp f .atom d i a k trivial h1) h2
 | f + 1, .itemL t0, d, i, t, j, hg, h => by
   rw [prs] at h; have ht : Shp t0 := hg
   split at h
   · exact prs_shp f (.itemL (repT 0 (-1) t0)) d _ t j (Shp.rep (lo := 0) ht (by omega) (.inl rfl)) h
   split at h
   · exact prs_shp f (.itemL (repT 1 (-1) t0)) d _ t j (Shp.rep (lo := 1) ht (by omega) (.inl rfl)) h
   split at h
   · exact prs_shp f (.itemL (repT 0 1 t0)) d _ t j (Shp.rep (lo := 0) ht (by omega) (.inr ⟨by omega, by omega⟩)) h
   split at h
   · obtain ⟨b, k, h1, h2⟩ := PR.bind_ok h; have hb := bndR_ge h1
     split at h2
     · exact prs_shp f (.itemL (repT b.1 b.2 t0)) d _ t j (Shp.rep ht hb.1 hb.2) h2
     · cases h2
   · simp only [PR.ok.injEq] at h; rw [← h.1]; exact ht
 | f + 1, .atom, d, i, t, j, _, h => by
   rw [prs] at h
   split at h
   · split at h
     · cases h
     · obtain ⟨a, k, h1, h2⟩ := PR.bind_ok h; have ha := prs_shp f .alt (d + 1) (i + 1) a k trivial h1
       split at h2
       · simp only [PR.ok.injEq] at h2; rw [← h2.1]; exact ha
       · cases h2
   split at h
   · exact clsR_shp h
   split at h
   · simp only [PR.ok.injEq] at h; rw [← h.1]; exact Shp.set _
   split at h
   · split at h
     · simp only [PR.ok.injEq] at h; rw [← h.1]; exact Shp.set _
     · obtain ⟨a, k, h1, h2⟩ := PR.bind_ok h; simp only [PR.ok.injEq] at h2; rw [← h2.1]; exact Shp.set _
   split at h
   · simp only [PR.ok.injEq] at h; rw [← h.1]; exact Shp.set _
   · cases h
theorem prsA_shp {t : Re} {j : Nat} (h : prsA s = .ok t j) : Shp t := by
 unfold prsA at h
 split at h
 · cases h
 · cases hx : prs s 4200 .alt 0 0 with
   | ok t' k =>
     rw [hx] at h; dsimp only at h
     split at h
     · cases h
     · simp only [PR.ok.injEq] at h; rw [← h.1]; exact prs_shp 4200 .alt 0 0 t' k trivial hx
   | bad e k => rw [hx] at h; cases h
   | out => rw [hx] at h; cases h
theorem prsA_le {e j : Nat} (h : prsA s = .bad e j) : j ≤ s.length := by
 unfold prsA at h
 split at h
 · simp only [PR.bad.injEq] at h; omega
 · have hin := prs_in (s := s) 4200 .alt 0 0 (Nat.zero_le _)
   cases hx : prs s 4200 .alt 0 0 with
   | ok t' k =>
     rw [hx] at h hin; dsimp only at h
     split at h
     · simp only [PR.bad.injEq] at h; have := hin.2; omega
     · cases h
   | bad e' k => rw [hx] at h hin; simp only [PR.bad.injEq] at h; have := hin.2; omega
   | out => rw [hx] at h; cases h
end
theorem Shp.shp {t : Re} (h : Shp t) : ∀ {n : Nat} {w : World} {r : RN}, ReAt w n r t → Go.Proofs.YtonkenlkigfeoaaDoor.shp n t = true ∧ allW n t := by
 induction h with
 | mk k st mn mx kids ho hw hk ih =>
   intro n w r hr
   cases n with
   | zero => exact hr.elim
   | succ n =>
     obtain ⟨_, _, _, rs, _, hl, hs⟩ := hr; have hkid : ∀ u ∈ kids, Go.Proofs.YtonkenlkigfeoaaDoor.shp n u = true ∧ allW n u := fun u hu => by
       obtain ⟨i, hi⟩ := List.getElem?_of_mem hu; have hlt := (List.getElem?_eq_some_iff.1 hi).1; exact ih u hu (hs i _ u (List.getElem?_eq_getElem (by omega)) hi)
     refine ⟨?_, hw, fun u hu => (hkid u hu).2⟩; rw [Go.Proofs.YtonkenlkigfeoaaDoor.shp]; simp only [Bool.and_eq_true, List.all_eq_true]; exact ⟨okN_iff.2 ho, fun u hu => (hkid u hu).1⟩
/-- so many levels as a tree is deep are enough -/
theorem ReAt.tight : ∀ {H n : Nat} {w : World} {r : RN} {t : Re}, ReAt w n r t → dep n t ≤ H → ReAt w H r t
 | _, 0, _, _, _, h, _ => h.elim
 | 0, n + 1, _, _, t, _, hd => by have := dep_pos (h := n) (t := t); omega
 | H + 1, n + 1, w, r, .mk k st mn mx kids, h, hd => by
   obtain ⟨h1, h2, h3, rs, h4, h5, h6⟩ := h; refine ⟨h1, h2, h3, rs, h4, h5, fun i r' t hi ht => (h6 i r' t hi ht).tight ?_⟩; have := dep_kid (h := n) (t := .mk k st mn mx kids) (List.mem_of_getElem? ht); omega
/-- a failing has a number -/
def PR.Nz {α : Type} (x : PR α) : Prop := match x with
 | .bad e _ => e ≠ 0
 | _ => True
theorem PR.Nz.bind {α β : Type} {x : PR α} {f : α → Nat → PR β} (h : x.Nz) (h2 : ∀ a j, (f a j).Nz) : (x.bind f).Nz := by
 cases x with
 | ok a j => exact h2 a j
 | bad e j => exact h
 | out => trivial
theorem PR.Nz.ite {α : Type} {p : Prop} [Decidable p] {a b : PR α} (h1 : a.Nz) (h2 : b.Nz) : (if p then a else b).Nz := by
 by_cases hp : p
 · rw [if_pos hp]; exact h1
 · rw [if_neg hp]; exact h2
theorem nz60 {α : Type} {j : Nat} : (PR.bad 60 j : PR α).Nz := by show 60 ≠ 0; decide
theorem nzok {α : Type} {a : α} {j : Nat} : (PR.ok a j).Nz := trivial
section
variable {s : List UInt8}
theorem numR_nz (l i : Nat) : (numR s l i).Nz := .ite (.ite (.ite nz60 nzok) (.ite nz60 nzok)) nz60
theorem hexR_nz (i : Nat) : (hexR s i).Nz := by
 unfold hexR; refine .ite ?_ nz60; split
 · exact nzok
 · exact nz60
theorem escR_nz (i : Nat) : (escR s i).Nz := .ite (.ite nzok (.ite nzok (.ite nzok (.ite ((hexR_nz _).bind fun _ _ => (hexR_nz _).bind fun _ _ => nzok) (.ite nzok nz60))))) nz60
theorem pntR_nz (i : Nat) : (pntR s i).Nz := .ite (escR_nz _) (.ite nzok nz60)
theorem bndR_nz (i : Nat) : (bndR s i).Nz := (numR_nz _ _).bind fun _ _ => .ite (.ite nzok ((numR_nz _ _).bind fun _ _ => nzok)) nzok
theorem clsL_nz : ∀ (f : Nat) (a : Nat → Bool) (first : Bool) (i : Nat), (clsL s f a first i).Nz
 | 0, _, _, _ => trivial
 | f + 1, a, first, i => by
   rw [clsL]; refine .ite nzok ?_; split
   · exact clsL_nz f _ _ _
   · exact (pntR_nz _).bind fun _ _ => .ite ((pntR_nz _).bind fun _ _ => .ite nz60 (clsL_nz f _ _ _)) (clsL_nz f _ _ _)
theorem clsR_nz (f i : Nat) : (clsR s f i).Nz := .ite ((clsL_nz _ _ _ _).bind fun _ _ => nzok) ((clsL_nz _ _ _ _).bind fun _ _ => nzok)
theorem prs_nz : ∀ (f : Nat) (k : Tk) (d i : Nat), (prs s f k d i).Nz
 | 0, _, _, _ => trivial
 | f + 1, k, d, i => by
   cases k with
   | alt => rw [prs]; exact (prs_nz f _ _ _).bind fun _ _ => prs_nz f _ _ _
   | altL l => rw [prs]; exact .ite ((prs_nz f _ _ _).bind fun _ _ => prs_nz f _ _ _) nzok
   | cat l => rw [prs]; exact .ite ((prs_nz f _ _ _).bind fun _ _ => prs_nz f _ _ _) nzok
   | item => rw [prs]; exact (prs_nz f _ _ _).bind fun _ _ => prs_nz f _ _ _
   | itemL t => rw [prs]; exact .ite (prs_nz f _ _ _) (.ite (prs_nz f _ _ _) (.ite (prs_nz f _ _ _) (.ite ((bndR_nz _).bind fun _ _ => .ite (prs_nz f _ _ _) nz60) nzok)))
   | atom =>
     rw [prs]; refine .ite (.ite (by show 2 ≠ 0; decide) ((prs_nz f _ _ _).bind fun _ _ => .ite nzok nz60)) (.ite (clsR_nz _ _) (.ite nzok (.ite ?_ (.ite nzok nz60)))); split
     · exact nzok
     · exact (escR_nz _).bind fun _ _ => nzok
theorem prsA_nz {e j : Nat} (h : prsA s = .bad e j) : e ≠ 0 := by
 unfold prsA at h
 split at h
 · simp only [PR.bad.injEq] at h; omega
 · have hn := prs_nz (s := s) 4200 .alt 0 0
   cases hx : prs s 4200 .alt 0 0 with
   | ok t' k =>
     rw [hx] at h; dsimp only at h
     split at h
     · simp only [PR.bad.injEq] at h; omega
     · cases h
   | bad e' k => rw [hx] at h hn; simp only [PR.bad.injEq] at h; rw [← h.1]; exact hn
   | out => rw [hx] at h; cases h
end
end Go.Proofs.YtonkenlkigfeoaaDoor
