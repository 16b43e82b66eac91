/- Plain laws: a configuration's text, line by line (P17.3). No conditions; no program's walk. -/
import Derived.Test.YtonkenlkigfeoaaGreatDoorPk32
import Derived.Test.YtonkenlkigfeoaaGreatDoorPk29
import Derived.Test.YtonkenlkigfeoaaGreatDoorPk38
import Derived.Test.YtonkenlkigfeoaaGreatDoorPk12
import Derived.Test.YtonkenlkigfeoaaGreatDoorPk30
namespace Go.Proofs.YtonkenlkigfeoaaGreatDoor
open Go.RowKit
def ttl : List UInt8 := [102, 114, 101, 116, 115, 97, 119, 32, 49]
def pasw : List UInt8 := [112, 97, 115, 115]
def rulw : List UInt8 := [114, 117, 108, 101, 32]
def arrw : List UInt8 := [32, 45, 62, 32]
def splw : List UInt8 := [115, 112, 108, 105, 116, 32]
def merw : List UInt8 := [109, 101, 114, 103, 101, 32]
def namw : List UInt8 := [110, 97, 109, 101, 32]
def befw : List UInt8 := [98, 101, 102, 111, 114, 101, 32]
def aftw : List UInt8 := [97, 102, 116, 101, 114, 32]
def lnRule (m : RuleP) : List UInt8 := rulw ++ quo m.1 ++ arrw ++ quo m.2
def lnMerge (ts : List (List UInt8)) (m : Int × Int) : List UInt8 := merw ++ quo (ts.getD m.1.toNat []) ++ [32] ++ quo (ts.getD m.2.toNat [])
def lnName (n : List UInt8) : List UInt8 := namw ++ quo n
def lnFrame (p : List UInt8) (ns : List (List UInt8)) (i : Int) : List UInt8 := p ++ quo (ns.getD i.toNat [])
/-- lines, written -/
def lnT (ls : List (List UInt8)) : List UInt8 := (ls.map fun l => l ++ [10]).flatten
theorem lnT_tail : ∀ l : List (List UInt8), Lib.joinTail [10] l ++ [10] = [10] ++ lnT l
 | [] => rfl
 | x :: l => by
   have ih := lnT_tail l; unfold Lib.joinTail lnT at ih ⊢; simp only [List.map_cons, List.flatten_cons, List.append_assoc] at ih ⊢; rw [ih]
theorem lnT_join : ∀ (ls : List (List UInt8)), ls ≠ [] → Lib.join ls [10] ++ [10] = lnT ls
 | [], h => absurd rfl h
 | x :: l, _ => by
   have ih := lnT_tail l; rw [Lib.join_cons, List.append_assoc, ih]; unfold lnT
   simp
theorem lnT_len : ∀ {ls : List (List UInt8)}, (∀ x ∈ ls, x.length ≤ 600) → (lnT ls).length ≤ 601 * ls.length
 | [], _ => by simp [lnT]
 | x :: l, h => by
   have h1 := h x (by simp); have h2 := lnT_len (ls := l) fun y hy => h y (by simp [hy])
   unfold lnT at h2 ⊢; simp only [List.map_cons, List.flatten_cons, List.length_append, List.length_cons, List.length_nil] at h2 ⊢; omega
/-- lines that are short and few -/
structure SL (m : Nat) (ls : List (List UInt8)) : Prop where
 short : ∀ x ∈ ls, x.length ≤ 600
 few : ls.length ≤ m
theorem SL.snoc {m : Nat} {ls : List (List UInt8)} (h : SL m ls) {x : List UInt8} (hx : x.length ≤ 600) : SL (m + 1) (ls ++ [x]) := by
 refine ⟨fun y hy => ?_, by have := h.few; rw [List.length_append, List.length_cons, List.length_nil]; omega⟩
 rcases List.mem_append.1 hy with hy | hy
 · exact h.short y hy
 · simp at hy; rw [hy]; exact hx
theorem SL.up {m m' : Nat} {ls : List (List UInt8)} (h : SL m ls) (hm : m ≤ m') : SL m' ls := ⟨h.short, Nat.le_trans h.few hm⟩
theorem SL.len {m : Nat} {ls : List (List UInt8)} (h : SL m ls) (hm : m ≤ 4000) : (lnT ls).length ≤ 2404000 := by
 have := lnT_len h.short; have := h.few; omega
theorem SL.join {m : Nat} {ls : List (List UInt8)} (h : SL m ls) (hm : m ≤ 4000) : (Lib.join ls [10]).length ≤ 2404000 := by
 by_cases e : ls = []
 · rw [e, Lib.join_nil]; simp
 · have h1 := h.len hm; rw [← lnT_join ls e, List.length_append] at h1; omega
/-- what stands ahead of a rule, of a pass -/
def l1 (ps : List (List RuleP)) (j : Nat) : List (List UInt8) := [ttl] ++ (ps.take j).flatMap fun l => pasw :: l.map lnRule
def lk {α : Type} (b : List (List UInt8)) (f : α → List UInt8) (l : List α) (k : Nat) : List (List UInt8) := b ++ (l.take k).map f
theorem lk_zero {α : Type} (b : List (List UInt8)) (f : α → List UInt8) (l : List α) : lk b f l 0 = b := by unfold lk; simp
theorem lk_succ {α : Type} (b : List (List UInt8)) (f : α → List UInt8) {l : List α} {k : Nat} {x : α} (h : l[k]? = some x) : lk b f l (k + 1) = lk b f l k ++ [f x] := by
 have hk := (List.getElem?_eq_some_iff.1 h).1; have he := (List.getElem?_eq_some_iff.1 h).2; unfold lk; rw [List.take_succ_eq_append_getElem hk, List.map_append, he, ← List.append_assoc]; rfl
theorem lk_all {α : Type} (b : List (List UInt8)) (f : α → List UInt8) (l : List α) : lk b f l l.length = b ++ l.map f := by unfold lk; rw [List.take_length]
theorem l1_zero (ps : List (List RuleP)) : l1 ps 0 = [ttl] := by unfold l1; simp
theorem l1_succ {ps : List (List RuleP)} {j : Nat} {l : List RuleP} (h : ps[j]? = some l) : l1 ps (j + 1) = lk (l1 ps j ++ [pasw]) lnRule l l.length := by
 have hk := (List.getElem?_eq_some_iff.1 h).1; have he := (List.getElem?_eq_some_iff.1 h).2; rw [lk_all]; unfold l1; rw [List.take_succ_eq_append_getElem hk, List.flatMap_append, he]
 simp
/-- all lines -/
def allL (c : ConfP) (rt : List UInt8) (ts : List (List UInt8)) : List (List UInt8) :=
 lk (lk (lk (lk (l1 c.ps c.ps.length ++ [splw ++ rt]) (lnMerge ts) c.ms c.ms.length) lnName c.ns c.ns.length) (lnFrame befw c.ns) c.bf c.bf.length) (lnFrame aftw c.ns) c.af c.af.length
/-- a configuration that may be -/
structure Gc (h : Nat) (c : ConfP) : Prop where
 ps : c.ps.length ≤ 4
 ru : ∀ (j : Nat) (l : List RuleP), c.ps[j]? = some l → l.length ≤ 64 ∧ ∀ m ∈ l, m.1.length ≤ 16 ∧ m.2.length ≤ 32
 re : rgt h c.re = 0
 tx : textsE c.ms = 0
 ms : c.ms.length ≤ 1024
 ns : c.ns.length ≤ 64 ∧ ∀ n ∈ c.ns, n.length ≤ 32
 bf : c.bf.length ≤ 32 ∧ ∀ x ∈ c.bf, 0 ≤ x ∧ x < c.ns.length
 af : c.af.length ≤ 32 ∧ ∀ x ∈ c.af, 0 ≤ x ∧ x < c.ns.length
theorem passE_all {ps : List (List RuleP)} : ∀ {k : Nat}, passE ps k = 0 → ∀ j, j < k → ruleE (ps.getD j []) = 0
 | 0, _, j, hj => by omega
 | k + 1, h, j, hj => by
   rw [passE] at h
   by_cases e : passE ps k = 0
   · rw [if_pos e] at h
     by_cases ej : j = k
     · rw [ej]; exact h
     · exact passE_all e j (by omega)
   · rw [if_neg e] at h; exact absurd h e
theorem rule_ok {l : List RuleP} (h : ruleE l = 0) : l.length ≤ 64 ∧ ∀ m ∈ l, m.1.length ≤ 16 ∧ m.2.length ≤ 32 := by
 obtain ⟨h1, h2⟩ := ruleE_open h; refine ⟨h1, fun m hm => ?_⟩; obtain ⟨i, hi, e⟩ := List.getElem_of_mem hm; have hb := h2 i hi; have e1 : l.getD i ([], []) = m := by rw [List.getD_eq_getElem?_getD, List.getElem?_eq_getElem hi, e]; rfl
 unfold badR frm rto at hb; rw [e1] at hb
 constructor
 · by_cases h : 16 < m.1.length
   · exact absurd (.inr (.inl h)) hb
   · omega
 · by_cases h : 32 < m.2.length
   · exact absurd (.inr (.inr (.inl h))) hb
   · omega
theorem fr_ok {n : Nat} {l : List Int} (h : ¬ frB n l) : l.length ≤ 32 ∧ ∀ x ∈ l, 0 ≤ x ∧ x < n := by
 unfold frB at h; refine ⟨by by_cases h1 : 32 < l.length; exact absurd (.inl h1) h; omega, fun x hx => ?_⟩; have h2 : noName n x = false := by
   by_cases e : noName n x = true
   · exact absurd (.inr (List.any_eq_true.2 ⟨x, hx, e⟩)) h
   · simpa using e
 simp [noName] at h2
 omega
theorem conf_good {h : Nat} {c : ConfP} (hz : confE h c = 0) : Gc h c := by
 unfold confE at hz
 by_cases h1 : 4 < c.ps.length
 · rw [if_pos h1] at hz; exact absurd hz (by decide)
 rw [if_neg h1] at hz
 by_cases h2 : passE c.ps c.ps.length = 0
 · rw [if_neg (fun q => q h2)] at hz
   by_cases h3 : 32 < growAll c.ps c.ps.length
   · rw [if_pos h3] at hz; exact absurd hz (by decide)
   rw [if_neg h3] at hz
   by_cases h4 : rgt h c.re = 0
   · rw [if_neg (fun q => q h4)] at hz
     by_cases h5 : 1000 < szR h c.re
     · rw [if_pos h5] at hz; exact absurd hz (by decide)
     rw [if_neg h5] at hz
     by_cases h6 : textsE c.ms = 0
     · rw [if_neg (fun q => q h6)] at hz
       by_cases h7 : 64 < c.ns.length
       · rw [if_pos h7] at hz; exact absurd hz (by decide)
       rw [if_neg h7] at hz
       by_cases h8 : namesBad c.ns
       · rw [if_pos h8] at hz; exact absurd hz (by decide)
       rw [if_neg h8] at hz
       by_cases h9 : frB c.ns.length c.bf ∨ frB c.ns.length c.af
       · rw [if_pos h9] at hz; exact absurd hz (by decide)
       refine ⟨by omega, fun j l hl => ?_, h4, h6, ?_, ⟨by omega, fun n hn => ?_⟩, fr_ok fun q => h9 (.inl q), fr_ok fun q => h9 (.inr q)⟩
       · have := passE_all h2 j (List.getElem?_eq_some_iff.1 hl).1; rw [List.getD_eq_getElem?_getD, hl] at this; exact rule_ok this
       · by_cases e : 1024 < c.ms.length
         · rw [textsE_long e] at h6; exact absurd h6 (by decide)
         · omega
       · obtain ⟨i, hi, e⟩ := List.getElem_of_mem hn; have hb : ¬ badN c.ns i := fun q => h8 ⟨i, hi, q⟩
         have e1 : nam c.ns i = n := by unfold nam; rw [List.getD_eq_getElem?_getD, List.getElem?_eq_getElem hi, e]; rfl
         unfold badN at hb; rw [e1] at hb
         by_cases q : 32 < n.length
         · exact absurd (.inr (.inl q)) hb
         · omega
     · rw [if_pos h6] at hz; exact absurd hz h6
   · rw [if_pos h4] at hz; exact absurd hz h4
 · rw [if_pos h2] at hz; exact absurd hz h2
/-- merges of texts that are there -/
theorem txTo_idx {l : List (Int × Int)} : ∀ {n : Nat} {ts : List (List UInt8)}, txTo l n = some ts → ts.length = 256 + n ∧ ∀ k, k < n → (0 ≤ (l.getD k (0, 0)).1 ∧ (l.getD k (0, 0)).1 < ts.length) ∧ (0 ≤ (l.getD k (0, 0)).2 ∧ (l.getD k (0, 0)).2 < ts.length)
 | 0, ts, h => by
   rw [txTo] at h; simp only [Option.some.injEq] at h; subst h; exact ⟨by simp [tx0], fun k hk => by omega⟩
 | n + 1, ts, h => by
   rw [txTo] at h; obtain ⟨t0, h0, h1⟩ := Option.bind_eq_some_iff.1 h; obtain ⟨hl, hi⟩ := txTo_idx h0; unfold txStep at h1
   split at h1
   · rename_i hc; simp only [Option.some.injEq] at h1; subst h1; have hL : (t0 ++ [t0.getD (l.getD n (0, 0)).1.toNat [] ++ t0.getD (l.getD n (0, 0)).2.toNat []]).length = t0.length + 1 := by simp
     rw [hL]; refine ⟨by omega, fun k hk => ?_⟩
     by_cases e : k = n
     · subst e; omega
     · have := hi k (by omega); omega
   · cases h1
open Go.RowKit
theorem prR_len {h : Nat} {t : Re} (hz : (prR h t).2 = 0) : (prR h t).1.length ≤ 512 := by
 unfold prR at hz ⊢
 by_cases h1 : rgt h t = 0
 · rw [if_pos h1] at hz ⊢
   by_cases h2 : 512 < (txt h t).length
   · rw [if_pos h2] at hz; exact absurd hz (by decide)
   · rw [if_neg h2]; show (txt h t).length ≤ 512; omega
 · rw [if_neg h1] at hz; exact absurd hz h1
/-- what Print tells -/
noncomputable def prC (h : Nat) (c : ConfP) : List UInt8 × Int :=
 if confE h c ≠ 0 then ([], confE h c) else if (prR h c.re).2 ≠ 0 then ([], (prR h c.re).2)
 else if 65536 < (lnT (allL c (prR h c.re).1 ((txTo c.ms c.ms.length).getD []))).length then ([], 2) else (lnT (allL c (prR h c.re).1 ((txTo c.ms c.ms.length).getD [])), 0)
structure PrS (c : ConfP) (E E2 : Int) (rt : List UInt8) (R : List UInt8 × Int) : Prop where
 p1 : E ≠ 0 → R = ([], E)
 p2 : E = 0 → E2 ≠ 0 → R = ([], E2)
 p3 : E = 0 → E2 = 0 → ∀ ts, txTo c.ms c.ms.length = some ts → (65536 < (lnT (allL c rt ts)).length → R = ([], 2)) ∧ (¬ 65536 < (lnT (allL c rt ts)).length → R = (lnT (allL c rt ts), 0))
theorem prC_steps (h : Nat) (c : ConfP) : PrS c (confE h c) (prR h c.re).2 (prR h c.re).1 (prC h c) := by
 unfold prC; refine ⟨fun h1 => if_pos h1, fun h1 h2 => by rw [if_neg (fun q => q h1), if_pos h2], fun h1 h2 ts hts => ?_⟩; rw [if_neg (fun q => q h1), if_neg (fun q => q h2), hts]; exact ⟨fun h3 => if_pos h3, fun h3 => if_neg h3⟩
theorem lnRule_len {m : RuleP} (h : m.1.length ≤ 16 ∧ m.2.length ≤ 32) : (lnRule m).length ≤ 600 := by
 have h1 := quo_len m.1; have h2 := quo_len m.2; unfold lnRule rulw arrw; simp only [List.length_append, List.length_cons, List.length_nil]; omega
theorem lnMerge_len {ts : List (List UInt8)} {m : Int × Int} (h : ∀ t ∈ ts, t.length ≤ 64) : (lnMerge ts m).length ≤ 600 := by
 have g : ∀ i, (ts.getD i []).length ≤ 64 := fun i => by
   by_cases hi : i < ts.length
   · exact getD_all h hi
   · rw [List.getD_eq_getElem?_getD, List.getElem?_eq_none (by omega)]; simp
 have h1 := quo_len (ts.getD m.1.toNat []); have h2 := quo_len (ts.getD m.2.toNat []); have h3 := g m.1.toNat; have h4 := g m.2.toNat; unfold lnMerge merw; simp only [List.length_append, List.length_cons, List.length_nil]; omega
theorem lnName_len {n : List UInt8} (h : n.length ≤ 32) : (lnName n).length ≤ 600 := by
 have h1 := quo_len n; unfold lnName namw; simp only [List.length_append, List.length_cons, List.length_nil]; omega
theorem lnFrame_len {p : List UInt8} (hp : p.length ≤ 7) {ns : List (List UInt8)} (h : ∀ n ∈ ns, n.length ≤ 32) (x : Int) : (lnFrame p ns x).length ≤ 600 := by
 have g : (ns.getD x.toNat []).length ≤ 32 := by
   by_cases hi : x.toNat < ns.length
   · exact getD_all h hi
   · rw [List.getD_eq_getElem?_getD, List.getElem?_eq_none (by omega)]; simp
 have h1 := quo_len (ns.getD x.toNat []); unfold lnFrame; rw [List.length_append]; omega
theorem str_cellC {w : World} {b off : Nat} {l : List (List UInt8)} (h : ∀ (i : Nat) (x : List UInt8) (j : Nat), l[i]? = some x → j < 1 → w.cell? ⟨b, off + (i * 1 + j), none⟩ = (strC x)[j]?) (k : Nat) (hk : k < l.length) : w.cell? ⟨b, off + k, none⟩ = some (.string ⟨(l.getD k []).toArray⟩) := by
 have hx : l[k]? = some (l.getD k []) := by rw [List.getD_eq_getElem?_getD, List.getElem?_eq_getElem hk]; rfl
 have := h k _ 0 hx (by decide); rw [Nat.mul_one, Nat.add_zero] at this; exact this
theorem int_cellC {w : World} {b off : Nat} {l : List Int} (h : ∀ (i : Nat) (x : Int) (j : Nat), l[i]? = some x → j < 1 → w.cell? ⟨b, off + (i * 1 + j), none⟩ = (intC x)[j]?) (k : Nat) (hk : k < l.length) : w.cell? ⟨b, off + k, none⟩ = some (.int .i64 (l.getD k 0)) := by
 have hx : l[k]? = some (l.getD k 0) := by rw [List.getD_eq_getElem?_getD, List.getElem?_eq_getElem hk]; rfl
 have := h k _ 0 hx (by decide); rw [Nat.mul_one, Nat.add_zero] at this; exact this
theorem getD_some {α : Type} {l : List α} {k : Nat} {d : α} (hk : k < l.length) : l[k]? = some (l.getD k d) := by rw [List.getD_eq_getElem?_getD, List.getElem?_eq_getElem hk]; rfl
open Go.RowKit
theorem lnT_app (a b : List (List UInt8)) : lnT (a ++ b) = lnT a ++ lnT b := by unfold lnT; simp
theorem lnT_one (l : List UInt8) : lnT [l] = l ++ [10] := by unfold lnT; simp
/-- these lines lead from there to there -/
def Runs (s : List UInt8) (ls : List (List UInt8)) (st st' : CS) : Prop := ∀ f i, At s i (lnT ls) → i ≠ 0 → i ≤ s.length → linesR s (f + ls.length) i st = linesR s f (i + (lnT ls).length) st'
section
variable {s : List UInt8} {st st1 st' : CS}
theorem Runs.nil : Runs s [] st st := fun _ _ _ _ _ => rfl
theorem Runs.app {a b : List (List UInt8)} (h : Runs s a st st1) (h' : Runs s b st1 st') : Runs s (a ++ b) st st' := fun f i hat h0 hi => by
 rw [lnT_app] at hat; have e := h (f + b.length) i hat.left h0 hi; have hl := hat.left.len hi; have e' := h' f (i + (lnT a).length) hat.right (by omega) hl; rw [lnT_app, List.length_append, List.length_append, show f + (a.length + b.length) = f + b.length + a.length by omega, e, e', Nat.add_assoc]
theorem Runs.one {l : List UInt8} (hl : ∀ x ∈ l, x ≠ 10) (hr : ∀ i, At s i l → i + l.length ≤ s.length → lineR s (i + l.length) (s.length + 1) i st = .ok st' (i + l.length)) : Runs s [l] st st' := fun f i hat h0 hi => by
 rw [lnT_one] at hat ⊢; rw [List.length_cons, List.length_nil, lines_step hat h0 hl (hr i hat.left (hat.left.len hi)), List.length_append, List.length_cons, List.length_nil, Nat.add_assoc]
end
theorem quo_ge (l : List UInt8) : l.length ≤ (quo l).length := by
 rw [quo_is]; have h1 : ∀ b : UInt8, 1 ≤ (qB b).length := fun b => by
   have : ∀ n : Fin 256, 1 ≤ (toU8s (qL n.val)).length := by decide +kernel
   exact this ⟨b.toNat, UInt8.toNat_lt b⟩
 have h2 : ∀ l : List UInt8, l.length ≤ (l.flatMap qB).length := by
   intro l
   induction l with
   | nil => simp
   | cons b l ih =>
     have := h1 b; rw [List.flatMap_cons, List.length_append, List.length_cons]; omega
 have := h2 l; simp only [List.length_append, List.length_cons, List.length_nil]; omega
theorem ne_app {a b : List UInt8} (ha : ∀ x ∈ a, x ≠ 10) (hb : ∀ x ∈ b, x ≠ 10) : ∀ x ∈ a ++ b, x ≠ 10 := fun x hx => (List.mem_append.1 hx).elim (ha x) (hb x)
section
variable {s : List UInt8}
/-- one pass's rules -/
theorem runs_rules {ps : List (List RuleP)} {re : Re} {ms : List (Int × Int)} {ns : List (List UInt8)} {bf af : List Int} {sp : Bool} {ids : List (List UInt8 × Int)} :
   ∀ (l acc : List RuleP), Runs s (l.map lnRule) ⟨⟨ps ++ [acc], re, ms, ns, bf, af⟩, sp, ids⟩ ⟨⟨ps ++ [acc ++ l], re, ms, ns, bf, af⟩, sp, ids⟩
 | [], acc => by rw [List.append_nil]; exact Runs.nil
 | m :: l, acc => by
   have ih := runs_rules (ps := ps) (re := re) (ms := ms) (ns := ns) (bf := bf) (af := af) (sp := sp) (ids := ids) l (acc ++ [m]); rw [List.append_assoc] at ih; refine Runs.app (a := [lnRule m]) (Runs.one ?_ fun i hat hi => ?_) ih
   · unfold lnRule; exact ne_app (ne_app (ne_app (by decide) (quo_ne _)) (by decide)) (quo_ne _)
   · have e : lnRule m = [114, 117, 108, 101, 32] ++ (quo m.1 ++ [32, 45, 62, 32] ++ quo m.2) := by unfold lnRule rulw arrw; simp
     rw [e] at hat hi ⊢; have h1 := quo_ge m.1; have h2 := quo_ge m.2; simp only [List.length_append, List.length_cons, List.length_nil] at hi; have hh := line_rule (f := s.length + 1) (st := ⟨⟨ps ++ [acc], re, ms, ns, bf, af⟩, sp, ids⟩) hat (by omega) (by omega) (by simp); rw [hh]
     simp [List.getD_eq_getElem?_getD]
/-- the passes -/
theorem runs_passes {re : Re} {ms : List (Int × Int)} {ns : List (List UInt8)} {bf af : List Int} {sp : Bool} {ids : List (List UInt8 × Int)} :
   ∀ (l ps : List (List RuleP)), ps.length + l.length ≤ 4 → Runs s (l.flatMap fun l => pasw :: l.map lnRule) ⟨⟨ps, re, ms, ns, bf, af⟩, sp, ids⟩ ⟨⟨ps ++ l, re, ms, ns, bf, af⟩, sp, ids⟩
 | [], ps, _ => by rw [List.append_nil]; exact Runs.nil
 | x :: l, ps, h => by
   rw [List.length_cons] at h; have ih := runs_passes (re := re) (ms := ms) (ns := ns) (bf := bf) (af := af) (sp := sp) (ids := ids) l (ps ++ [x]) (by rw [List.length_append, List.length_cons, List.length_nil]; omega); rw [List.append_assoc] at ih; rw [List.flatMap_cons]; refine Runs.app (a := pasw :: x.map lnRule) (Runs.app (a := [pasw]) (Runs.one (by decide) fun i hat hi => ?_) (runs_rules (ps := ps) x [])) ih; exact line_pass (st := ⟨⟨ps, re, ms, ns, bf, af⟩, sp, ids⟩) hat (show ps.length < 4 by omega)
/-- names -/
theorem runs_names {ps : List (List RuleP)} {re : Re} {ms : List (Int × Int)} {bf af : List Int} {sp : Bool} {ids : List (List UInt8 × Int)} :
   ∀ (l ns : List (List UInt8)), Runs s (l.map lnName) ⟨⟨ps, re, ms, ns, bf, af⟩, sp, ids⟩ ⟨⟨ps, re, ms, ns ++ l, bf, af⟩, sp, ids⟩
 | [], ns => by rw [List.append_nil]; exact Runs.nil
 | x :: l, ns => by
   have ih := runs_names (ps := ps) (re := re) (ms := ms) (bf := bf) (af := af) (sp := sp) (ids := ids) l (ns ++ [x]); rw [List.append_assoc] at ih; refine Runs.app (a := [lnName x]) (Runs.one ?_ fun i hat hi => ?_) ih
   · unfold lnName; exact ne_app (by decide) (quo_ne _)
   · unfold lnName namw at hat hi ⊢; have h1 := quo_ge x; simp only [List.length_append, List.length_cons, List.length_nil] at hi; exact line_name (f := s.length + 1) (st := ⟨⟨ps, re, ms, ns, bf, af⟩, sp, ids⟩) hat (by omega)
theorem name_idx {ns : List (List UInt8)} (hn : ¬ namesBad ns) {x : Int} (hx : 0 ≤ x ∧ x < ns.length) : ns.findIdx? (· == ns.getD x.toNat []) = some x.toNat := by
 have hlt : x.toNat < ns.length := by omega
 rw [List.findIdx?_eq_some_iff_getElem]; refine ⟨hlt, ?_, fun j hj => ?_⟩
 · rw [List.getD_eq_getElem?_getD, List.getElem?_eq_getElem hlt]; simp
 · have hne : nam ns j ≠ nam ns x.toNat := fun e => hn ⟨x.toNat, hlt, .inr (.inr ⟨j, hj, e⟩)⟩
   unfold nam at hne; have hj' : j < ns.length := by omega
   have e : ns.getD j [] = ns[j] := by rw [List.getD_eq_getElem?_getD, List.getElem?_eq_getElem hj']; rfl
   rw [e] at hne; simp only [beq_iff_eq]; exact hne
/-- the ids ahead -/
theorem runs_before {ps : List (List RuleP)} {re : Re} {ms : List (Int × Int)} {ns : List (List UInt8)} {af : List Int} {sp : Bool} {ids : List (List UInt8 × Int)} (hn : ¬ namesBad ns) :
   ∀ (l bf : List Int), (∀ x ∈ l, 0 ≤ x ∧ x < ns.length) → Runs s (l.map (lnFrame befw ns)) ⟨⟨ps, re, ms, ns, bf, af⟩, sp, ids⟩ ⟨⟨ps, re, ms, ns, bf ++ l, af⟩, sp, ids⟩
 | [], bf, _ => by rw [List.append_nil]; exact Runs.nil
 | x :: l, bf, hx => by
   have ih := runs_before (ps := ps) (re := re) (ms := ms) (af := af) (sp := sp) (ids := ids) hn l (bf ++ [x]) fun y hy => hx y (by simp [hy])
   rw [List.append_assoc] at ih; have hx0 := hx x (by simp); refine Runs.app (a := [lnFrame befw ns x]) (Runs.one ?_ fun i hat hi => ?_) ih
   · unfold lnFrame; exact ne_app (by decide) (quo_ne _)
   · unfold lnFrame befw at hat hi ⊢; have h1 := quo_ge (ns.getD x.toNat []); simp only [List.length_append, List.length_cons, List.length_nil] at hi; have hh := line_before (f := s.length + 1) (st := ⟨⟨ps, re, ms, ns, bf, af⟩, sp, ids⟩) hat (by omega) (name_idx hn hx0); rw [hh, show ((x.toNat : Nat) : Int) = x by omega]
/-- the ids behind -/
theorem runs_after {ps : List (List RuleP)} {re : Re} {ms : List (Int × Int)} {ns : List (List UInt8)} {bf : List Int} {sp : Bool} {ids : List (List UInt8 × Int)} (hn : ¬ namesBad ns) :
   ∀ (l af : List Int), (∀ x ∈ l, 0 ≤ x ∧ x < ns.length) → Runs s (l.map (lnFrame aftw ns)) ⟨⟨ps, re, ms, ns, bf, af⟩, sp, ids⟩ ⟨⟨ps, re, ms, ns, bf, af ++ l⟩, sp, ids⟩
 | [], af, _ => by rw [List.append_nil]; exact Runs.nil
 | x :: l, af, hx => by
   have ih := runs_after (ps := ps) (re := re) (ms := ms) (bf := bf) (sp := sp) (ids := ids) hn l (af ++ [x]) fun y hy => hx y (by simp [hy])
   rw [List.append_assoc] at ih; have hx0 := hx x (by simp); refine Runs.app (a := [lnFrame aftw ns x]) (Runs.one ?_ fun i hat hi => ?_) ih
   · unfold lnFrame; exact ne_app (by decide) (quo_ne _)
   · unfold lnFrame aftw at hat hi ⊢; have h1 := quo_ge (ns.getD x.toNat []); simp only [List.length_append, List.length_cons, List.length_nil] at hi; have hh := line_after (f := s.length + 1) (st := ⟨⟨ps, re, ms, ns, bf, af⟩, sp, ids⟩) hat (by omega) (name_idx hn hx0); rw [hh, show ((x.toNat : Nat) : Int) = x by omega]
end
/-- what a table of texts bears -/
structure Tab (l : List (Int × Int)) (n : Nat) (ts : List (List UInt8)) : Prop where
 len : ts.length = 256 + n
 low : ∀ b, b < 256 → ts.getD b [] = [u8 b]
 idx : ∀ k, k < n → (0 ≤ (l.getD k (0, 0)).1 ∧ (l.getD k (0, 0)).1 < 256 + k) ∧ (0 ≤ (l.getD k (0, 0)).2 ∧ (l.getD k (0, 0)).2 < 256 + k)
 two : ∀ k, k < n → ts.getD (256 + k) [] = ts.getD (l.getD k (0, 0)).1.toNat [] ++ ts.getD (l.getD k (0, 0)).2.toNat []
 big : ∀ k, k < n → 2 ≤ (ts.getD (256 + k) []).length
 dis : ∀ j k, j < k → k < n → ts.getD (256 + j) [] ≠ ts.getD (256 + k) []
theorem getD_app {α : Type} {l l' : List α} {d : α} {i : Nat} (h : i < l.length) : (l ++ l').getD i d = l.getD i d := by
 rw [List.getD_eq_getElem?_getD, List.getD_eq_getElem?_getD, List.getElem?_append_left h]
theorem getD_new {α : Type} {l : List α} {x d : α} {i : Nat} (h : i = l.length) : (l ++ [x]).getD i d = x := by
 rw [List.getD_eq_getElem?_getD, List.getElem?_append_right (by omega), h, Nat.sub_self]; rfl
theorem tab_of {l : List (Int × Int)} : ∀ {n : Nat} {ts : List (List UInt8)}, txTo l n = some ts → Tab l n ts
 | 0, ts, h => by
   rw [txTo] at h; simp only [Option.some.injEq] at h; subst h; refine ⟨by simp [tx0], fun b hb => ?_, fun k hk => by omega, fun k hk => by omega, fun k hk => by omega, fun j k _ hk => by omega⟩; unfold tx0; rw [List.getD_eq_getElem?_getD, List.getElem?_map, List.getElem?_range hb]; rfl
 | n + 1, ts, h => by
   rw [txTo] at h; obtain ⟨t0, h0, h1⟩ := Option.bind_eq_some_iff.1 h; have T := tab_of h0; have hl := T.len; unfold txStep at h1
   split at h1
   · rename_i hc; simp only [Option.some.injEq] at h1; obtain ⟨⟨a0, a1⟩, ⟨b0, b1⟩, _, hnd⟩ := hc; obtain ⟨u, hu⟩ : ∃ u, t0.getD (l.getD n (0, 0)).1.toNat [] ++ t0.getD (l.getD n (0, 0)).2.toNat [] = u := ⟨_, rfl⟩; rw [hu] at h1 hnd; have hpos : ∀ q, q < 256 + n → 1 ≤ (t0.getD q []).length := fun q hq => by
       by_cases h : q < 256
       · rw [T.low q h]; simp
       · have := T.big (q - 256) (by omega); rw [show 256 + (q - 256) = q by omega] at this; omega
     have hub : 2 ≤ u.length := by
       have e1 := hpos (l.getD n (0, 0)).1.toNat (by omega); have e2 := hpos (l.getD n (0, 0)).2.toNat (by omega); rw [← hu, List.length_append]; omega
     subst h1; refine ⟨by rw [List.length_append, List.length_cons, List.length_nil]; omega, fun b hb => by rw [getD_app (by omega)]; exact T.low b hb, fun k hk => ?_, fun k hk => ?_, fun k hk => ?_, fun j k hj hk => ?_⟩
     · by_cases e : k = n
       · subst e; exact ⟨⟨a0, a1⟩, b0, b1⟩
       · exact T.idx k (by omega)
     · by_cases e : k = n
       · subst e; rw [getD_new (by omega), getD_app (by omega), getD_app (by omega), hu]
       · have hi := T.idx k (by omega); rw [getD_app (by omega), getD_app (by omega), getD_app (by omega)]; exact T.two k (by omega)
     · by_cases e : k = n
       · subst e; rw [getD_new (by omega)]; exact hub
       · rw [getD_app (by omega)]; exact T.big k (by omega)
     · by_cases e : k = n
       · subst e; rw [getD_app (i := 256 + j) (by omega), getD_new (i := 256 + k) (by omega)]; intro q; refine hnd ?_; rw [← q]; have hj2 : 256 + j < t0.length := by omega
         refine List.mem_of_getElem? (i := j) ?_; rw [List.getElem?_drop, List.getD_eq_getElem?_getD, List.getElem?_eq_getElem hj2]; rfl
       · rw [getD_app (by omega), getD_app (by omega)]; exact T.dis j k hj (by omega)
   · cases h1
/-- the ids behind so many merges -/
def idsK (ts : List (List UInt8)) (k : Nat) : List (List UInt8 × Int) := (List.range k).map fun j => (ts.getD (256 + j) [], ((256 + j : Nat) : Int))
theorem idsK_succ (ts : List (List UInt8)) (k : Nat) : idsK ts (k + 1) = idsK ts k ++ [(ts.getD (256 + k) [], ((256 + k : Nat) : Int))] := by
 unfold idsK; rw [List.range_succ, List.map_append]; rfl
theorem idOf_snoc (l : List (List UInt8 × Int)) (x : List UInt8 × Int) (u : List UInt8) : idOf (l ++ [x]) u = (idOf l u).or (if x.1 == u then some x.2 else none) := by
 unfold idOf; rw [List.find?_append]
 cases h : l.find? (fun x => x.1 == u) with
 | some y => rfl
 | none =>
   rw [Option.none_or, List.find?_cons]
   cases e : x.1 == u with
   | true => rfl
   | false => rfl
section
variable {l : List (Int × Int)} {n : Nat} {ts : List (List UInt8)}
theorem idOf_not (T : Tab l n ts) {q : Nat} (hq : q < n) : ∀ k, k ≤ q → idOf (idsK ts k) (ts.getD (256 + q) []) = none
 | 0, _ => rfl
 | k + 1, hk => by
   rw [idsK_succ, idOf_snoc, idOf_not T hq k (by omega), Option.none_or, if_neg]; simp only [beq_iff_eq]; exact T.dis k q (by omega) hq
theorem idOf_there (T : Tab l n ts) {q : Nat} (hq : q < n) : ∀ k, q < k → k ≤ n → idOf (idsK ts k) (ts.getD (256 + q) []) = some ((256 + q : Nat) : Int)
 | 0, h, _ => by omega
 | k + 1, hk, hn => by
   rw [idsK_succ, idOf_snoc]
   by_cases e : q = k
   · subst e; rw [idOf_not T hq q (Nat.le_refl _), Option.none_or, if_pos (by simp)]
   · rw [idOf_there T hq k (by omega) (by omega)]; rfl
theorem idR_tab (T : Tab l n ts) {k : Nat} (hk : k ≤ n) {x : Int} (hx : 0 ≤ x ∧ x < 256 + k) (a i : Nat) : idR (idsK ts k) (ts.getD x.toNat []) a i = .ok x i := by
 unfold idR
 by_cases h : x.toNat < 256
 · rw [T.low _ h, if_pos (show ([u8 x.toNat] : List UInt8).length = 1 from rfl)]; rw [show ([u8 x.toNat] : List UInt8).getD 0 0 = u8 x.toNat from rfl, u8n h, show ((x.toNat : Nat) : Int) = x by omega]
 · have hb := T.big (x.toNat - 256) (by omega); have ht := idOf_there T (q := x.toNat - 256) (by omega) k (by omega) hk; rw [show 256 + (x.toNat - 256) = x.toNat by omega] at hb ht; rw [if_neg (by omega), ht]; show PR.ok ((x.toNat : Nat) : Int) i = _; rw [show ((x.toNat : Nat) : Int) = x by omega]
theorem tab_le (T : Tab l n ts) {s : List UInt8} {ps : List (List RuleP)} {re : Re} {ns : List (List UInt8)} {bf af : List Int} {sp : Bool} (hl : l.length = n) :
   ∀ k, k ≤ n → Runs s ((l.take k).map (lnMerge ts)) ⟨⟨ps, re, [], ns, bf, af⟩, sp, []⟩ ⟨⟨ps, re, l.take k, ns, bf, af⟩, sp, idsK ts k⟩
 | 0, _ => by rw [List.take_zero]; exact Runs.nil
 | k + 1, hk => by
   have ih := tab_le T (s := s) (ps := ps) (re := re) (ns := ns) (bf := bf) (af := af) (sp := sp) hl k (by omega); have hkl : k < l.length := by omega
   have hm : l.getD k (0, 0) = l[k] := by rw [List.getD_eq_getElem?_getD, List.getElem?_eq_getElem hkl]; rfl
   have hidx := T.idx k (by omega); have htwo := T.two k (by omega); have hnot := idOf_not T (q := k) (by omega) k (Nat.le_refl _); rw [List.take_succ_eq_append_getElem hkl, List.map_append, ← hm]; refine ih.app (Runs.one (l := lnMerge ts (l.getD k (0, 0))) ?_ fun i hat hi => ?_)
   · unfold lnMerge; exact ne_app (ne_app (ne_app (by decide) (quo_ne _)) (by decide)) (quo_ne _)
   · have e : lnMerge ts (l.getD k (0, 0)) = [109, 101, 114, 103, 101, 32] ++ (quo (ts.getD (l.getD k (0, 0)).1.toNat []) ++ [32] ++ quo (ts.getD (l.getD k (0, 0)).2.toNat [])) := by unfold lnMerge merw; simp
     rw [e] at hat hi ⊢; have h1 := quo_ge (ts.getD (l.getD k (0, 0)).1.toNat []); have h2 := quo_ge (ts.getD (l.getD k (0, 0)).2.toNat []); simp only [List.length_append, List.length_cons, List.length_nil] at hi; have hh := line_merge (f := s.length + 1) (st := ⟨⟨ps, re, l.take k, ns, bf, af⟩, sp, idsK ts k⟩) hat (by omega) (by omega) (fun a i => idR_tab T (by omega) hidx.1 a i) (fun a i => idR_tab T (by omega) hidx.2 a i); rw [hh, ← htwo]; have hlen : (l.take k).length = k := by rw [List.length_take]; omega
     dsimp only; rw [hnot, hlen, idsK_succ]
     simp
end
/-- before anything is read -/
def st0 : CS := ⟨⟨[], .mk 0 (0, 0, 0, 0) 0 0 [], [], [], [], []⟩, false, []⟩
theorem conf_names {h : Nat} {c : ConfP} (hz : confE h c = 0) : ¬ namesBad c.ns := by
 intro hb; unfold confE at hz
 by_cases h1 : 4 < c.ps.length
 · rw [if_pos h1] at hz; exact absurd hz (by decide)
 rw [if_neg h1] at hz
 by_cases h2 : passE c.ps c.ps.length ≠ 0
 · rw [if_pos h2] at hz; exact h2 hz
 rw [if_neg h2] at hz
 by_cases h3 : 32 < growAll c.ps c.ps.length
 · rw [if_pos h3] at hz; exact absurd hz (by decide)
 rw [if_neg h3] at hz
 by_cases h4 : rgt h c.re ≠ 0
 · rw [if_pos h4] at hz; exact h4 hz
 rw [if_neg h4] at hz
 by_cases h5 : 1000 < szR h c.re
 · rw [if_pos h5] at hz; exact absurd hz (by decide)
 rw [if_neg h5] at hz
 by_cases h6 : textsE c.ms ≠ 0
 · rw [if_pos h6] at hz; exact h6 hz
 rw [if_neg h6] at hz
 by_cases h7 : 64 < c.ns.length
 · rw [if_pos h7] at hz; exact absurd hz (by decide)
 rw [if_neg h7, if_pos hb] at hz; exact absurd hz (by decide)
theorem lnT_ge : ∀ ls : List (List UInt8), ls.length ≤ (lnT ls).length
 | [] => Nat.zero_le _
 | l :: ls => by
   have ih := lnT_ge ls; unfold lnT at ih ⊢; simp only [List.map_cons, List.flatten_cons, List.length_append, List.length_cons, List.length_nil]; omega
/-- all lines, read -/
theorem lines_all {h : Nat} {c : ConfP} {rt : List UInt8} {ts : List (List UInt8)} {f : Nat} (hz : confE h c = 0) (hts : txTo c.ms c.ms.length = some ts) (hrt : prsA rt = .ok c.re 0) (hd : ¬ tooDeep c.re) (hne : ∀ x ∈ rt, x ≠ 10) (hf : (lnT (allL c rt ts)).length < f) :
   ∃ ids, linesR (lnT (allL c rt ts)) f 0 st0 = .ok ⟨c, true, ids⟩ (lnT (allL c rt ts)).length := by
 have hG := conf_good hz; have hn := conf_names hz; have T := tab_of hts; obtain ⟨ps, re, ms, ns, bf, af⟩ := c; obtain ⟨rest, hrest⟩ : ∃ rest, rest = (ps.flatMap fun l => pasw :: l.map lnRule) ++ [splw ++ rt] ++ ms.map (lnMerge ts) ++ ns.map lnName ++ bf.map (lnFrame befw ns) ++ af.map (lnFrame aftw ns) := ⟨_, rfl⟩; have hall : allL ⟨ps, re, ms, ns, bf, af⟩ rt ts = ttl :: rest := by
   unfold allL; rw [lk_all, lk_all, lk_all, lk_all]; unfold l1; dsimp only; rw [List.take_length, hrest]
   simp
 rw [hall] at hf ⊢; obtain ⟨s, hs⟩ : ∃ s, lnT (ttl :: rest) = s := ⟨_, rfl⟩; rw [hs] at hf ⊢; have hs' : s = (ttl ++ [10]) ++ lnT rest := by rw [← hs]; unfold lnT; simp
 have hat : At s 0 ((ttl ++ [10]) ++ lnT rest) := fun k hk => ⟨by rw [hs', Nat.zero_add]; exact hk, by rw [Nat.zero_add, hs']⟩
 have hfirst : At s 0 ([102, 114, 101, 116, 115, 97, 119, 32, 49] ++ [10]) := hat.left; have hrestat : At s 10 (lnT rest) := hat.right; have hlen : s.length = 10 + (lnT rest).length := by rw [hs', List.length_append]; rfl
 have hrl := lnT_ge rest; have hrun : Runs s rest st0 ⟨⟨ps, re, ms, ns, bf, af⟩, true, idsK ts ms.length⟩ := by
   rw [hrest]; have r1 := runs_passes (s := s) (re := .mk 0 (0, 0, 0, 0) 0 0 []) (ms := []) (ns := []) (bf := []) (af := []) (sp := false) (ids := []) ps [] (by have := hG.ps; simpa using this); have r2 : Runs s [splw ++ rt] ⟨⟨[] ++ ps, .mk 0 (0, 0, 0, 0) 0 0 [], [], [], [], []⟩, false, []⟩ ⟨⟨ps, re, [], [], [], []⟩, true, []⟩ := by
     refine Runs.one (ne_app (by decide) hne) fun i hat hi => ?_
     exact line_split (f := s.length + 1) (st := ⟨⟨[] ++ ps, .mk 0 (0, 0, 0, 0) 0 0 [], [], [], [], []⟩, false, []⟩) hat hrt hd rfl
   have r3 := tab_le T (s := s) (ps := ps) (re := re) (ns := []) (bf := []) (af := []) (sp := true) rfl ms.length (Nat.le_refl _); rw [List.take_length] at r3; have r4 := runs_names (s := s) (ps := ps) (re := re) (ms := ms) (bf := []) (af := []) (sp := true) (ids := idsK ts ms.length) ns []; have r5 := runs_before (s := s) (ps := ps) (re := re) (ms := ms) (af := []) (sp := true) (ids := idsK ts ms.length) hn bf [] hG.bf.2; have r6 := runs_after (s := s) (ps := ps) (re := re) (ms := ms) (bf := bf) (sp := true) (ids := idsK ts ms.length) hn af [] hG.af.2
   exact ((((r1.app r2).app r3).app r4).app r5).app r6
 refine ⟨idsK ts ms.length, ?_⟩; obtain ⟨f1, rfl⟩ : ∃ f1, f = f1 + 1 := ⟨f - 1, by omega⟩; rw [lines_first hfirst]; obtain ⟨f2, rfl⟩ : ∃ f2, f1 = f2 + rest.length := ⟨f1 - rest.length, by omega⟩; rw [hrun f2 10 hrestat (by decide) (by omega)]; obtain ⟨f3, rfl⟩ : ∃ f3, f2 = f3 + 1 := ⟨f2 - 1, by omega⟩; rw [lines_end (by omega), hlen]
open Go.RowKit
theorem own_one {B : Nat} (w : World) (x : List UInt8) (hB : B ≤ w.heap.size) : OwnR stC 1 B 9 (w.alloc (.cells (stC x).toArray 9)) (.slice (some ⟨w.heap.size, 0, none⟩) 1 1) [x] := by
 have h := World.ownsRow_lit (base := B) (e := 9) (size := 1) w (stC x).toArray 1 hB (by unfold maxLen; omega) (by simp [stC]); exact OwnC.of_own (by simpa [stC] using h)
/-- a text appended to a row of one's own: other blocks of another type stand -/
theorem app_stG {B g : Nat} {w w0 : World} {v : Value} {l0 : List (List UInt8)} {y : List UInt8} {o : Oper} {a : Act} {K : Act → World → Prop} {Q : Exit → Act → World → Prop} {h : Nat} {cs : Array Value} {tt : TypeId} {fz : Nat × Nat}
   (s x' : Operand) (hop : o.op = Op.call { callee := Callee.builtin Builtin.append, args := #[s, x'], argTypes := #[31, 31] }) (hs : a.eval s = v) (hx : a.eval x' = .slice (some ⟨h, 0, none⟩) 1 1)
   (hc : w.cell? ⟨h, 0, none⟩ = some (.string ⟨y.toArray⟩)) (hh : h < w.heap.size) (hown : OwnR stC 1 B 9 w v l0) (hlen : l0.length ≤ 4000) (hw : Below B w0 w) (hB : B ≤ w.heap.size)
   (hg : w.heap[g]? = some (.cells cs tt fz)) (ht : tt ≠ 9)
   (hK : ∀ v' w', OwnR stC 1 B 9 w' v' (l0 ++ [y]) → Below B w0 w' → w'.heap[g]? = some (.cells cs tt fz) → K (a.put o.dst v') w') : o.wp Tryz.prog a w K Q := by
 have hrow : RowOf stC 1 w (a.eval x') [y] := by
   rw [hx]; refine ⟨some ⟨h, 0, none⟩, 1, rfl, Nat.le_refl _, by unfold maxLen; omega, rfl, .inr ⟨h, 0, rfl, hh, fun i hi => ?_⟩⟩; obtain rfl : i = 0 := by simpa using hi
   exact hc
 refine app_rowW (f := stC) (sz := 1) 16 stC_len (fun y _ u hu => by simp only [stC, List.mem_singleton] at hu; subst hu; rfl) Tryz.underlying31 info_stT rfl s x' hop hs hrow hown hB (by simp only [List.length_cons, List.length_nil]; omega) (by simp only [List.length_cons, List.length_nil]; unfold maxLen; omega) fun v' w' r1 r2 => ?_
 refine hK v' w' r1 (hw.trans (grown_below r2 hB fun k hk => (hown.below hk).1)) (grown_obj r2 hg fun hk => ?_); obtain ⟨cs', fz', h'⟩ := hown.typed hk; rw [hg] at h'
 cases h'
 exact ht rfl
set_option maxRecDepth 100000 in
set_option maxHeartbeats 8000000 in
theorem config_Print (h : Nat) (r : RN) (vp vm vn vb va : Value) (c : ConfP) (w : World) (H : CfAt w h r vp vm vn vb va c) (ha : allW h c.re) (hT : TT w) :
   Calls Tryz.prog 6 #[.agg (cfC r vp vm vn vb va)] w fun e w' => e = .returned (.tuple #[.string ⟨(prC h c).1.toArray⟩, .int .i64 (prC h c).2]) ∧ Below w.heap.size w w' := by
 have HS := Lib.hid (prC_steps h c); have HG := Lib.hid (fun hz => conf_good (h := h) (c := c) hz); have Hrl := Lib.hid (fun hz => prR_len (h := h) (t := c.re) hz); have HA := Lib.hid fun W (hW : Below w.heap.size w W) => config_Right h r vp vm vn vb va c W (H.keep hW)
 have HPr := Lib.hid fun W (hW : Below w.heap.size w W) => regex_Print h r c.re W (H.re.keep hW) ha (hT.keep hW)
 have HTx := Lib.hid fun W (hW : Below w.heap.size w W) => merge_Texts vm c.ms W (H.ms.keep hW)
 obtain ⟨E, hE⟩ : ∃ E, confE h c = E := ⟨_, rfl⟩; rw [hE] at HS HA HG; obtain ⟨PR, hPR⟩ : ∃ P, prR h c.re = P := ⟨_, rfl⟩; rw [hPR] at HS HPr Hrl; obtain ⟨rt, E2⟩ := PR; dsimp only at HS HPr Hrl; obtain ⟨R, hR⟩ : ∃ R, prC h c = R := ⟨_, rfl⟩; rw [hR] at HS ⊢; obtain ⟨vs, hvs, hvl, hvr⟩ := H.ps; obtain ⟨ap, cp, hpe, hpc, hpm, hpcell⟩ := hvs.open oneC_len; obtain ⟨am, cm, hme, hmc, hmm, hmcell⟩ := H.ms.open mgC_len; obtain ⟨an, cn, hne, hnc, hnm, hncell⟩ := H.ns.open strC_len17; obtain ⟨ab, cb, hbe, hbc, hbm, hbcell⟩ := H.bf.open intC_len17
 obtain ⟨aa, ca, hae, hac, ham, hacell⟩ := H.af.open intC_len17; subst hpe hme hne hbe hae; rw [hvl] at hpc hpcell HA ⊢; obtain ⟨np, hnp⟩ : ∃ n, c.ps.length = n := ⟨_, rfl⟩; obtain ⟨nm, hnmm⟩ : ∃ n, c.ms.length = n := ⟨_, rfl⟩; obtain ⟨nn, hnn⟩ : ∃ n, c.ns.length = n := ⟨_, rfl⟩; obtain ⟨nb, hnb⟩ : ∃ n, c.bf.length = n := ⟨_, rfl⟩; obtain ⟨na, hna⟩ : ∃ n, c.af.length = n := ⟨_, rfl⟩; rw [hnp, hnmm, hnn, hnb, hna] at HA; rw [hnmm] at HTx; rw [hnp] at hpc hpcell; rw [hnmm] at hmc hmcell; rw [hnn] at hnc hncell; rw [hnb] at hbc hbcell; rw [hna] at hac hacell; rw [hnp, hnmm, hnn, hnb, hna]
 have Hnp := Lib.hid hnp; have Hnm := Lib.hid hnmm; have Hnn := Lib.hid hnn; have Hnb := Lib.hid hnb; have Hna := Lib.hid hna; have Hvr := Lib.hid hvr; have Hvl := Lib.hid hvl; have Hpc := Lib.hid hpcell; have Hmc := Lib.hid hmcell; have Hnc := Lib.hid hncell; have Hbc := Lib.hid hbcell; have Hac := Lib.hid hacell; unfold maxLen at hpm hmm hnm hbm ham; have hone := H.re.one
 have HP0 : Hid (CBox (w.alloc (.cells (cfC r (.slice ap np cp) (.slice am nm cm) (.slice an nn cn) (.slice ab nb cb) (.slice aa na ca)) 34)) w.heap.size r (.slice ap np cp) (.slice am nm cm) (.slice an nn cn) (.slice ab nb cb) (.slice aa na ca)) := Lib.hid (CBox.new _ _ _ _ _ _ _); have Hb0 : Hid (Below w.heap.size w (w.alloc (.cells (cfC r (.slice ap np cp) (.slice am nm cm) (.slice an nn cn) (.slice ab nb cb) (.slice aa na ca)) 34))) := Lib.hid ((Below.refl _ _).alloc (Nat.le_refl _) _); clear H ha hT hvs hvl hvr hpcell hmcell hncell hbcell hacell hnp hnmm hnn hnb hna hE hPR hR
 simp only [reV, reC] at HPr; go_enter Tryz.func6, Tryz.ntmps6; wkk; refine Calls.mono (HA.out _ Hb0.out) ?_; rintro _ w1 ⟨rfl, hb1⟩; dsimp only; have P1 := Lib.hid (HP0.out.keep hb1); have B1 := Lib.hid (Hb0.out.trans (hb1.mono Hb0.out.size)); clear hb1 HP0 Hb0 HA
 by_cases he : E = 0
 rotate_left
 · have e := HS.out.p1 he; have hne : (E != 0) = true := by rw [bne_iff_ne]; exact he
   subst e; clear HS HG Hrl HPr HTx; wkk; go_ret2; exact ⟨rfl, B1.out⟩
 have HG1 := Lib.hid (HG.out he); have HS2 := Lib.hid (HS.out.p2 he); have HS3 := Lib.hid (HS.out.p3 he); subst he; clear HS HG; obtain ⟨c0, c1, c2, c3, c4, c5, c6, c7, c8, c9, c10, c11, c12⟩ := P1.out.cells; wkk; refine Calls.mono (HPr.out w1 B1.out) ?_; rintro _ w2 ⟨rfl, hb2⟩; dsimp only; have P2 := Lib.hid (P1.out.keep hb2); have B2 := Lib.hid (B1.out.trans (hb2.mono B1.out.size)); clear hb2 P1 B1 HPr c0 c1 c2 c3 c4 c5 c6 c7 c8 c9 c10 c11 c12
 by_cases he : E2 = 0
 rotate_left
 · have e := HS2.out he; have hne : (E2 != 0) = true := by rw [bne_iff_ne]; exact he
   subst e; clear HS2 HS3 HG1 Hrl HTx; wkk; go_ret2; exact ⟨rfl, B2.out⟩
 have hrl := Hrl.out he; have HS4 := Lib.hid (HS3.out he); subst he; clear HS2 HS3 Hrl; obtain ⟨c0, c1, c2, c3, c4, c5, c6, c7, c8, c9, c10, c11, c12⟩ := P2.out.cells; have htx := HTx.out w2 B2.out; rw [HG1.out.tx] at htx; clear HTx; wkk; refine Calls.mono (htx) ?_; rintro _ w3 ⟨⟨u, rfl, hu⟩, hb3⟩; dsimp only; have P3 := Lib.hid (P2.out.keep hb3); have B3 := Lib.hid (B2.out.trans (hb3.mono B2.out.size)); clear hb3 P2 B2 htx c0 c1 c2 c3 c4 c5 c6 c7 c8 c9 c10 c11 c12; obtain ⟨ts, hts, hru, hts64⟩ := hu rfl; have HS5 := Lib.hid (HS4.out ts (by rw [Hnm.out]; exact hts))
 have Htl := Lib.hid (txTo_idx hts); obtain ⟨au, cu, hue, huc, hum, hucell⟩ := hru.open strC_len17; subst hue; obtain ⟨nu, hnu⟩ : ∃ n, ts.length = n := ⟨_, rfl⟩; rw [hnu] at huc hucell Htl ⊢; have Hnu := Lib.hid hnu; have Huc := Lib.hid hucell; have H64 := Lib.hid hts64; have Hc4 := Lib.hid P3.out.cells; clear hu hts hru hts64 hucell HS4 hnu; unfold maxLen at hum; obtain ⟨c0, c1, c2, c3, c4, c5, c6, c7, c8, c9, c10, c11, c12⟩ := Hc4.out; clear c1 c2 c3 c4 c5 c6 c7 c8 c9 c10 c11 c12 Hc4; have hnp4 : np ≤ 4 := by rw [← Hnp.out]; exact HG1.out.ps
 have HS0 : Hid (SL (1 + 65 * 0) (l1 c.ps 0)) := Lib.hid (by rw [l1_zero]; exact ⟨fun x hx => by simp at hx; subst hx; decide, by decide⟩); have HO0 : Hid (OwnR stC 1 w3.heap.size 9 (w3.alloc (.cells (stC ttl).toArray 9)) (.slice (some ⟨w3.heap.size, 0, none⟩) 1 1) (l1 c.ps 0)) := Lib.hid (by rw [l1_zero]; exact own_one w3 ttl (Nat.le_refl _)); have HW0 : Hid (Below w3.heap.size w3 (w3.alloc (.cells (stC ttl).toArray 9))) := Lib.hid ((Below.refl _ _).alloc (Nat.le_refl _) _)
 have c0' : (w3.alloc (.cells (stC ttl).toArray 9)).cell? ⟨w.heap.size, 0, none⟩ = some (.slice ap np cp) := by rw [HW0.out.cell P3.out.lt]; exact c0
 unfold stC ttl at c0'; clear c0; wkk; clear c0'; change Code.wp _ _ _ _ (w3.alloc (.cells (stC ttl).toArray 9)); generalize hw0 : w3.alloc (.cells (stC ttl).toArray 9) = w0 at HO0 HW0 ⊢; generalize hv0 : Value.slice (some ⟨w3.heap.size, 0, none⟩) 1 1 = v0 at HO0 ⊢; clear hw0 hv0
 go_loopg [9, 47] np (fun gk s9 s47 wr => ∃ j : Nat, s47 = .int .i64 j ∧ j + gk = np ∧ Hid (OwnR stC 1 w3.heap.size 9 wr s9 (l1 c.ps j)) ∧ Hid (SL (1 + 65 * j) (l1 c.ps j)) ∧ Hid (Below w3.heap.size w3 wr))
 case atStart => exact ⟨0, rfl, by omega, HO0, HS0, HW0⟩
 case round =>
   clear HO0 HS0 HW0; obtain ⟨j, rfl, hj, HO, HSL, HW⟩ := hrel
   by_cases hjn : j < np
   · have hjn' : (j : Int) < np := by omega
     rcases Hpc.out with h0 | ⟨b, off, rfl, hbB, hcell⟩
     · omega
     obtain ⟨v, hv⟩ : ∃ v, vs[j]? = some v := ⟨_, List.getElem?_eq_getElem (by rw [Hvl.out, Hnp.out]; exact hjn)⟩; obtain ⟨l, hl⟩ : ∃ l, c.ps[j]? = some l := ⟨_, List.getElem?_eq_getElem (by rw [Hnp.out]; exact hjn)⟩; have hb3' : b < w3.heap.size := Nat.lt_of_lt_of_le hbB B3.out.size; have c0 : wr.cell? ⟨b, off + j, none⟩ = some v := by
       have := hcell j v 0 hv (by decide); rw [Nat.mul_one, Nat.add_zero] at this; rw [HW.out.cell hb3', B3.out.cell hbB]; exact this
     have hrow := (Hvr.out j v l hv hl).keep B3.out; obtain ⟨al, cl, hle, hlc, hlm, hlcell⟩ := hrow.open ruC_len; subst hle; obtain ⟨nl, hnl⟩ : ∃ n, l.length = n := ⟨_, rfl⟩; have hl64 := (HG1.out.ru j l hl).1; have Hrl := Lib.hid (HG1.out.ru j l hl).2; rw [hnl] at hl64 hlc hlcell c0; have Hnl := Lib.hid hnl; have Hlc := Lib.hid hlcell; unfold maxLen at hlm; have HS1 : Hid (SL (2 + 65 * j + 0) (lk (l1 c.ps j ++ [pasw]) lnRule l 0)) := Lib.hid (by rw [lk_zero]; exact (HSL.out.snoc (x := pasw) (by decide)).up (by omega))
     have Hnx : Hid (l1 c.ps (j + 1) = lk (l1 c.ps j ++ [pasw]) lnRule l nl) := Lib.hid (by rw [l1_succ hl, hnl]); have Hz : Hid (lk (l1 c.ps j ++ [pasw]) lnRule l 0 = l1 c.ps j ++ [pasw]) := Lib.hid (lk_zero _ _ _); have hown := HO.out; have hwB := HW.out.size; have hfw := HSL.out.few; clear hrow hlcell hnl hcell hv hl HSL hbB hb3' HO; generalize l1 c.ps j = La at hown HS1 Hnx Hz hfw
     wkka (first | (at_builtin; go_loud (refine app_one 16 wr.heap.size rfl pasw stC_len (by intro y hy; simp [stC] at hy; subst hy; rfl) Tryz.underlying31 info_stT rfl rfl _ _ rfl rfl rfl rfl hown hwB (by omega) (by unfold maxLen; omega) ?_); intro v4 w4 hown4 hb4 hk4 _)); clear c0 hown; have HO1 : Hid (OwnR stC 1 w3.heap.size 9 w4 v4 (lk (La ++ [pasw]) lnRule l 0)) := Lib.hid (by rw [Hz.out]; exact hown4); have HW4 : Hid (Below w3.heap.size w3 w4) := Lib.hid (HW.out.trans hb4); clear hown4 hb4 hk4 HW hfw Hz hwB; generalize La ++ [pasw] = Lb at HS1 Hnx HO1
     go_loopg [9, 56] nl (fun gi s9 s56 wi => ∃ i : Nat, s56 = .int .i64 i ∧ i + gi = nl ∧ Hid (OwnR stC 1 w3.heap.size 9 wi s9 (lk Lb lnRule l i)) ∧ Hid (SL (2 + 65 * j + i) (lk Lb lnRule l i)) ∧ Hid (Below w3.heap.size w3 wi))
     case atStart => exact ⟨0, rfl, by omega, HO1, HS1, HW4⟩
     case round =>
       clear HO1 HS1 HW4; obtain ⟨i, rfl, hi, HO, HSL, HW⟩ := hrel
       by_cases hin : i < nl
       · have hin' : (i : Int) < nl := by omega
         rcases Hlc.out with h0 | ⟨b2, off2, rfl, hb2, hc2⟩
         · omega
         obtain ⟨d0, d1⟩ := ru_cells hc2 i (by rw [Hnl.out]; exact hin); rw [← HW.out.cell (show b2 < w3.heap.size from hb2)] at d0 d1; have hli : l[i]? = some (frm l i, rto l i) := by rw [List.getElem?_eq_getElem (by rw [Hnl.out]; exact hin)]; unfold frm rto; rw [List.getD_eq_getElem?_getD, List.getElem?_eq_getElem (by rw [Hnl.out]; exact hin)]; rfl
         have hfl := Hrl.out _ (List.mem_of_getElem? hli); have hls := lk_succ Lb lnRule hli; dsimp only at hfl; generalize frm l i = f at d0 hfl hls; generalize rto l i = t at d1 hfl hls; have hq1l := quo_len f; have hq2l := quo_len t; have hQ1 := fun W => config_quote f (by omega) W
         have hQ2 := fun W => config_quote t (by omega) W
         have hSn := HSL.out.snoc (lnRule_len (m := (f, t)) hfl); rw [← hls] at hSn; have HSn : Hid (SL (2 + 65 * j + (i + 1)) (lk Lb lnRule l (i + 1))) := Lib.hid hSn; have hfw := HSL.out.few; have Hls := Lib.hid hls; have hyr : lnRule (f, t) = rulw ++ quo f ++ arrw ++ quo t := rfl; obtain ⟨q1, hq1⟩ : ∃ q, quo f = q := ⟨_, rfl⟩; obtain ⟨q2, hq2⟩ : ∃ q, quo t = q := ⟨_, rfl⟩; rw [hq1] at hq1l hQ1 hyr; rw [hq2] at hq2l hQ2 hyr; obtain ⟨y1, hy1⟩ : ∃ y, [114, 117, 108, 101, 32] ++ q1 = y := ⟨_, rfl⟩; have dy1 := ba_lits [114, 117, 108, 101, 32] q1; rw [hy1] at dy1
         have ly1 : y1.length ≤ 5 + q1.length := by rw [← hy1, List.length_append]; exact Nat.le_refl _
         have oy1 : ¬ 9223372036854775807 < 5 + q1.length := by omega
         obtain ⟨y2, hy2⟩ : ∃ y, y1 ++ [32, 45, 62, 32] = y := ⟨_, rfl⟩; have dy2 := ba_lits y1 [32, 45, 62, 32]; rw [hy2] at dy2; have ly2 : y2.length ≤ y1.length + 4 := by rw [← hy2, List.length_append]; exact Nat.le_refl _
         have oy2 : ¬ 9223372036854775807 < y1.length + 4 := by omega
         obtain ⟨y3, hy3⟩ : ∃ y, y2 ++ q2 = y := ⟨_, rfl⟩; have dy3 := ba_lits y2 q2; rw [hy3] at dy3; have ly3 : y3.length ≤ y2.length + q2.length := by rw [← hy3, List.length_append]; exact Nat.le_refl _
         have oy3 : ¬ 9223372036854775807 < y2.length + q2.length := by omega
         have HY : Hid (lnRule (f, t) = y3) := Lib.hid (by rw [hyr, ← hy3, ← hy2, ← hy1]; rfl); generalize lk Lb lnRule l i = La at HO hfw Hls; obtain ⟨gx, hgx⟩ : ∃ g, g = wr.heap.size := ⟨_, rfl⟩; have HX : Hid ((wr.alloc (.cells #[.string ⟨f.toArray⟩, .string ⟨t.toArray⟩] 50)).heap[wr.heap.size]? = some (.cells #[.string ⟨f.toArray⟩, .string ⟨t.toArray⟩] 50 (0, 0))) := Lib.hid (Go.heap_alloc_new _ _); have HB4 : Hid (Below w3.heap.size w3 (wr.alloc (.cells #[.string ⟨f.toArray⟩, .string ⟨t.toArray⟩] 50))) := Lib.hid (HW.out.alloc HW.out.size _)
         have HO4 := Lib.hid (OwnC.alloc HO.out (.cells #[.string ⟨f.toArray⟩, .string ⟨t.toArray⟩] 50)); clear hls hq1 hq2 hy1 hy2 hy3 hli hSn HW HO HSL hc2 hyr
         repeat' (go_not_at_region 16; first | go_values | go_skip | go_guarded | go_step | go_upon)
         rw [← hgx]; refine gen_wd (fun W => (Below w3.heap.size w3 W ∧ W.heap[gx]? = some (.cells #[.string ⟨f.toArray⟩, .string ⟨t.toArray⟩] 50 (0, 0))) ∧ OwnR stC 1 w3.heap.size 9 W u9 La) ⟨⟨HB4.out, by rw [hgx]; exact HX.out⟩, HO4.out⟩ ?_; clear HX HB4 HO4 hgx d0 d1; rintro wx ⟨hCx, hOx⟩; have q5 : ∀ nq : GW (fun W => Below w3.heap.size w3 W ∧ W.heap[gx]? = some (.cells #[.string ⟨f.toArray⟩, .string ⟨t.toArray⟩] 50 (0, 0))), nq.1.cell? ⟨gx, 0, none⟩ = some (.string ⟨f.toArray⟩) := fun nq => by rw [cell_of_row _ _ _ _ _ _ nq.2.2]; rfl
         have q6 : ∀ nq : GW (fun W => Below w3.heap.size w3 W ∧ W.heap[gx]? = some (.cells #[.string ⟨f.toArray⟩, .string ⟨t.toArray⟩] 50 (0, 0))), nq.1.cell? ⟨gx, 1, none⟩ = some (.string ⟨t.toArray⟩) := fun nq => by rw [cell_of_row _ _ _ _ _ _ nq.2.2]; rfl
         refine wp_region_anyG (by kernel_rfl) (fun W => Below w3.heap.size w3 W ∧ W.heap[gx]? = some (.cells #[.string ⟨f.toArray⟩, .string ⟨t.toArray⟩] 50 (0, 0))) ?_; refine tkC 0 rfl ?_; refine tkC 1 rfl ?_; refine tkC 2 rfl ?_; refine tkC 6 rfl ?_; refine tkC 7 rfl ?_; refine genC06 (fun W => Below wx.heap.size wx W) (Below.refl _ _).drew ?_; intro w6 hb6
         have hC6 : Below w3.heap.size w3 w6 ∧ w6.heap[gx]? = some (.cells #[.string ⟨f.toArray⟩, .string ⟨t.toArray⟩] 50 (0, 0)) := ⟨hCx.1.trans (hb6.mono hCx.1.size), by rw [hb6.block _ (Array.getElem?_eq_some_iff.1 hCx.2).1]; exact hCx.2⟩; have hO6 := OwnR.keep hOx hb6 (Nat.le_refl _); clear hCx hOx hb6; refine wpAnyC_ready (CG.of (hC6)) (rs := [3]) (by kernel_rfl) (by simp) ?_; refine (AllReadyC.cons rfl (fun K hK => ?_) AllReadyC.nil); go_simp; refine Calls.mono (hQ1 w6) ?_; rintro _ w7 ⟨rfl, hb7⟩; dsimp only; refine hK _ _ ?_; clear hK K
         have hC7 : Below w3.heap.size w3 w7 ∧ w7.heap[gx]? = some (.cells #[.string ⟨f.toArray⟩, .string ⟨t.toArray⟩] 50 (0, 0)) := ⟨hC6.1.trans (hb7.mono hC6.1.size), by rw [hb7.block _ (Array.getElem?_eq_some_iff.1 hC6.2).1]; exact hC6.2⟩; have hO7 := OwnR.keep hO6 hb7 (Nat.le_refl _); clear hC6 hO6 hb7; refine tkC 4 rfl ?_; refine tkC 5 rfl ?_; refine wpAnyC_ready (CG.of (hC7)) (rs := [8]) (by kernel_rfl) (by simp) ?_; refine (AllReadyC.cons rfl (fun K hK => ?_) AllReadyC.nil); go_simp; refine Calls.mono (hQ2 w7) ?_; rintro _ w9 ⟨rfl, hb9⟩; dsimp only; refine hK _ _ ?_
         clear hK K; have hC9 : Below w3.heap.size w3 w9 ∧ w9.heap[gx]? = some (.cells #[.string ⟨f.toArray⟩, .string ⟨t.toArray⟩] 50 (0, 0)) := ⟨hC7.1.trans (hb9.mono hC7.1.size), by rw [hb9.block _ (Array.getElem?_eq_some_iff.1 hC7.2).1]; exact hC7.2⟩; have hO9 := OwnR.keep hO7 hb9 (Nat.le_refl _); clear hC7 hO7 hb9; refine tkC 9 rfl ?_; refine wpAnyC_ready (CG.of (hC9)) (rs := [10]) (by kernel_rfl) (by simp) ?_; refine (AllReadyC.cons rfl (fun K hK => ?_) AllReadyC.nil); go_simp; refine hK _ _ ?_; clear hK K; have hO11 := OwnC.alloc hO9 (.cells #[.string ⟨y3.toArray⟩] 9)
         have hc11 : (w9.alloc (.cells #[.string ⟨y3.toArray⟩] 9)).cell? ⟨w9.heap.size, 0, none⟩ = some (.string ⟨y3.toArray⟩) := by rw [cell_of_row _ _ _ _ _ _ (Go.heap_alloc_new w9 _)]; rfl
         have hg11 : (w9.alloc (.cells #[.string ⟨y3.toArray⟩] 9)).heap[gx]? = some (.cells #[.string ⟨f.toArray⟩, .string ⟨t.toArray⟩] 50 (0, 0)) := by rw [Go.heap_alloc_old w9 _ (Array.getElem?_eq_some_iff.1 hC9.2).1]; exact hC9.2
         have hb11 := hC9.1.alloc hC9.1.size (.cells #[.string ⟨y3.toArray⟩] 9); have hl11 : w9.heap.size < (w9.alloc (.cells #[.string ⟨y3.toArray⟩] 9)).heap.size := by simp
         refine wpAnyC_ready (CG.of (⟨hb11, hg11⟩)) (rs := [11]) (by kernel_rfl) (by simp) ?_; refine (AllReadyC.cons rfl (fun K hK => ?_) AllReadyC.nil); refine step_of rfl (app_stG (B := w3.heap.size) (w0 := w3) (g := gx) (.tmp 60) (.tmp 70) rfl rfl rfl hc11 hl11 hO11 (by omega) hb11 hb11.size hg11 (by decide) fun v12 w12 ho12 hb12 hg12 => ?_); refine hK _ _ ?_; clear hK K hO11 hc11 hg11 hb11 hl11 hC9 hO9; refine tkC 12 rfl ?_; refine wpAnyC_done (by kernel_rfl) (CG.of (⟨hb12, hg12⟩)) (by go_simp <;> with_reducible rfl) ?_; have HB12 := Lib.hid hb12; clear hb12 hg12
         have HO12 : Hid (OwnR stC 1 w3.heap.size 9 w12 v12 (lk Lb lnRule l (i + 1))) := Lib.hid (by rw [Hls.out, HY.out]; exact ho12); clear ho12 hQ1 hQ2 q5 q6 dy1 dy2 dy3 oy1 oy2 oy3 Hls HY; wkk; go_roundg (gk - 1)
         case rel => exact ⟨i + 1, by go_num, by omega, HO12, HSn, HB12⟩
         case measure => omega
       · obtain rfl : nl = i := by omega
         wkk; go_roundg (np - (j + 1))
         case rel => exact ⟨j + 1, by go_num, by omega, Lib.hid (by rw [Hnx.out]; exact HO.out), Lib.hid (by rw [Hnx.out]; exact HSL.out.up (by omega)), HW⟩
         case measure => omega
   · obtain rfl : np = j := by omega
     obtain ⟨y1, hy1⟩ : ∃ y, [115, 112, 108, 105, 116, 32] ++ rt = y := ⟨_, rfl⟩; have dy1 := ba_lits [115, 112, 108, 105, 116, 32] rt; rw [hy1] at dy1; have ly1 : y1.length ≤ 6 + rt.length := by rw [← hy1, List.length_append]; exact Nat.le_refl _
     have oy1 : ¬ 9223372036854775807 < 6 + rt.length := by omega
     obtain ⟨L2, hL2⟩ : ∃ L, l1 c.ps np ++ [y1] = L := ⟨_, rfl⟩; have HZ : Hid (lk L2 (lnMerge ts) c.ms 0 = L2) := Lib.hid (lk_zero _ _ _); have HS2 : Hid (SL (262 + 0) (lk L2 (lnMerge ts) c.ms 0)) := Lib.hid (by rw [lk_zero, ← hL2]; exact (HSL.out.snoc (x := y1) (by omega)).up (by omega)); have HAll : Hid (allL c rt ts = lk (lk (lk (lk L2 (lnMerge ts) c.ms nm) lnName c.ns nn) (lnFrame befw c.ns) c.bf nb) (lnFrame aftw c.ns) c.af na) := Lib.hid (by unfold allL; rw [Hnp.out, show splw ++ rt = y1 from hy1, hL2, Hnm.out, Hnn.out, Hnb.out, Hna.out])
     have hnm4 : nm ≤ 1024 := by rw [← Hnm.out]; exact HG1.out.ms
     have hnn4 : nn ≤ 64 := by rw [← Hnn.out]; exact HG1.out.ns.1
     have hnb4 : nb ≤ 32 := by rw [← Hnb.out]; exact HG1.out.bf.1
     have hna4 : na ≤ 32 := by rw [← Hna.out]; exact HG1.out.af.1
     have HL2 := Lib.hid hL2; have hown := HO.out; have hwB := HW.out.size; have hfw := HSL.out.few; clear hL2 hy1 HSL HO Hpc Hvr Hvl; generalize l1 c.ps np = La at hown HL2 hfw; wkka (first | (at_builtin; go_loud (refine app_one 16 wr.heap.size rfl y1 stC_len (by intro y hy; simp [stC] at hy; subst hy; rfl) Tryz.underlying31 info_stT rfl rfl _ _ rfl rfl rfl rfl hown hwB (by omega) (by unfold maxLen; omega) ?_); intro v4 w4 hown4 hb4 hk4 _; have c9 := (P3.out.keep (HW.out.trans hb4)).cells.2.2.2.2.2.2.2.2.2.1))
     have HO1 : Hid (OwnR stC 1 w3.heap.size 9 w4 v4 (lk L2 (lnMerge ts) c.ms 0)) := Lib.hid (by rw [HZ.out, ← HL2.out]; exact hown4); have HW1 : Hid (Below w3.heap.size w3 w4) := Lib.hid (HW.out.trans hb4); clear hown4 hb4 hk4 HW hown hwB hfw HL2 HZ dy1 oy1 ly1; clear c9
     go_loopg [9, 82] nm (fun gk s9 s82 wr => ∃ j : Nat, s82 = .int .i64 j ∧ j + gk = nm ∧ Hid (OwnR stC 1 w3.heap.size 9 wr s9 (lk L2 (lnMerge ts) c.ms j)) ∧ Hid (SL (262 + j) (lk L2 (lnMerge ts) c.ms j)) ∧ Hid (Below w3.heap.size w3 wr))
     case atStart => exact ⟨0, rfl, by omega, HO1, HS2, HW1⟩
     case round =>
       clear HO1 HS2 HW1; obtain ⟨j, rfl, hj, HO, HSL, HW⟩ := hrel
       by_cases hjn : j < nm
       · have hjn' : (j : Int) < nm := by omega
         rcases Hmc.out with h0 | ⟨b, off, rfl, hbB, hcell⟩
         · omega
         have hb3' : b < w3.heap.size := Nat.lt_of_lt_of_le hbB B3.out.size; obtain ⟨d0, d1⟩ := mg_cells hcell j (by rw [Hnm.out]; exact hjn); rw [← B3.out.cell (show b < w.heap.size from hbB), ← HW.out.cell (show b < w3.heap.size from hb3')] at d0 d1; have hls := lk_succ L2 (lnMerge ts) (getD_some (d := (0, 0)) (by rw [Hnm.out]; exact hjn : j < c.ms.length)); have hix := Htl.out.2 j hjn; generalize c.ms.getD j (0, 0) = mm at d0 d1 hls hix; obtain ⟨x, y⟩ := mm; dsimp only at d0 d1 hix; obtain ⟨x, rfl⟩ : ∃ n : Nat, x = n := ⟨x.toNat, by omega⟩
         obtain ⟨y, rfl⟩ : ∃ n : Nat, y = n := ⟨y.toNat, by omega⟩; have hx : (x : Int) < nu := hix.1.2; have hy : (y : Int) < nu := hix.2.2
         rcases Huc.out with h0 | ⟨b3, off3, rfl, hb3, hc3⟩
         · omega
         have e0 := str_cellC hc3 x (by rw [Hnu.out]; omega); have e1 := str_cellC hc3 y (by rw [Hnu.out]; omega); have hSn := HSL.out.snoc (lnMerge_len (m := ((x : Int), (y : Int))) H64.out); rw [← hls] at hSn; have HSn : Hid (SL (262 + (j + 1)) (lk L2 (lnMerge ts) c.ms (j + 1))) := Lib.hid hSn; have hfw := HSL.out.few; have Hls := Lib.hid hls; have hyr : lnMerge ts ((x : Int), (y : Int)) = merw ++ quo (ts.getD x []) ++ [32] ++ quo (ts.getD y []) := rfl; have hf64 := getD_all (d := ([] : List UInt8)) H64.out (k := x) (by rw [Hnu.out]; omega)
         have ht64 := getD_all (d := ([] : List UInt8)) H64.out (k := y) (by rw [Hnu.out]; omega); generalize ts.getD x [] = f at e0 hyr hf64; generalize ts.getD y [] = t at e1 hyr ht64; have hq1l := quo_len f; have hq2l := quo_len t; have hQ1 := fun W => config_quote f (by omega) W
         have hQ2 := fun W => config_quote t (by omega) W
         obtain ⟨q1, hq1⟩ : ∃ q, quo f = q := ⟨_, rfl⟩; obtain ⟨q2, hq2⟩ : ∃ q, quo t = q := ⟨_, rfl⟩; rw [hq1] at hq1l hQ1 hyr; rw [hq2] at hq2l hQ2 hyr; obtain ⟨y1, hy1⟩ : ∃ y, [109, 101, 114, 103, 101, 32] ++ q1 = y := ⟨_, rfl⟩; have dy1 := ba_lits [109, 101, 114, 103, 101, 32] q1; rw [hy1] at dy1; have ly1 : y1.length ≤ 6 + q1.length := by rw [← hy1, List.length_append]; exact Nat.le_refl _
         have oy1 : ¬ 9223372036854775807 < 6 + q1.length := by omega
         obtain ⟨y2, hy2⟩ : ∃ y, y1 ++ [32] = y := ⟨_, rfl⟩; have dy2 := ba_lits y1 [32]; rw [hy2] at dy2; have ly2 : y2.length ≤ y1.length + 1 := by rw [← hy2, List.length_append]; exact Nat.le_refl _
         have oy2 : ¬ 9223372036854775807 < y1.length + 1 := by omega
         obtain ⟨y3, hy3⟩ : ∃ y, y2 ++ q2 = y := ⟨_, rfl⟩; have dy3 := ba_lits y2 q2; rw [hy3] at dy3; have ly3 : y3.length ≤ y2.length + q2.length := by rw [← hy3, List.length_append]; exact Nat.le_refl _
         have oy3 : ¬ 9223372036854775807 < y2.length + q2.length := by omega
         have HY : Hid (lnMerge ts ((x : Int), (y : Int)) = y3) := Lib.hid (by rw [hyr, ← hy3, ← hy2, ← hy1]; rfl); generalize lk L2 (lnMerge ts) c.ms j = La at HO hfw Hls; generalize lnMerge ts ((x : Int), (y : Int)) = ym at Hls HY; obtain ⟨gx, hgx⟩ : ∃ g, g = wr.heap.size := ⟨_, rfl⟩; have HX : Hid ((wr.alloc (.cells #[.int .i64 (x : Int), .int .i64 (y : Int)] 53)).heap[wr.heap.size]? = some (.cells #[.int .i64 (x : Int), .int .i64 (y : Int)] 53 (0, 0))) := Lib.hid (Go.heap_alloc_new _ _)
         have HB4 : Hid (Below w3.heap.size w3 (wr.alloc (.cells #[.int .i64 (x : Int), .int .i64 (y : Int)] 53))) := Lib.hid (HW.out.alloc HW.out.size _); have HO4 := Lib.hid (OwnC.alloc HO.out (.cells #[.int .i64 (x : Int), .int .i64 (y : Int)] 53)); clear hls hq1 hq2 hy1 hy2 hy3 hSn HW HO HSL hc3 hcell hix hbB hb3' hyr
         repeat' (go_not_at_region 23; first | go_values | go_skip | go_guarded | go_step | go_upon)
         rw [← hgx]; refine gen_wd (fun W => (Below w3.heap.size w3 W ∧ W.heap[gx]? = some (.cells #[.int .i64 (x : Int), .int .i64 (y : Int)] 53 (0, 0))) ∧ OwnR stC 1 w3.heap.size 9 W u9 La) ⟨⟨HB4.out, by rw [hgx]; exact HX.out⟩, HO4.out⟩ ?_; clear HX HB4 HO4 hgx d0 d1; rintro wx ⟨hCx, hOx⟩; have q5 : ∀ nq : GW (fun W => Below w3.heap.size w3 W ∧ W.heap[gx]? = some (.cells #[.int .i64 (x : Int), .int .i64 (y : Int)] 53 (0, 0))), nq.1.cell? ⟨gx, 0, none⟩ = some (.int .i64 (x : Int)) := fun nq => by rw [cell_of_row _ _ _ _ _ _ nq.2.2]; rfl
         have q6 : ∀ nq : GW (fun W => Below w3.heap.size w3 W ∧ W.heap[gx]? = some (.cells #[.int .i64 (x : Int), .int .i64 (y : Int)] 53 (0, 0))), nq.1.cell? ⟨gx, 1, none⟩ = some (.int .i64 (y : Int)) := fun nq => by rw [cell_of_row _ _ _ _ _ _ nq.2.2]; rfl
         have q7 : ∀ nq : GW (fun W => Below w3.heap.size w3 W ∧ W.heap[gx]? = some (.cells #[.int .i64 (x : Int), .int .i64 (y : Int)] 53 (0, 0))), nq.1.cell? ⟨b3, off3 + x, none⟩ = some (.string ⟨f.toArray⟩) := fun nq => by rw [nq.2.1.cell hb3]; exact e0
         have q8 : ∀ nq : GW (fun W => Below w3.heap.size w3 W ∧ W.heap[gx]? = some (.cells #[.int .i64 (x : Int), .int .i64 (y : Int)] 53 (0, 0))), nq.1.cell? ⟨b3, off3 + y, none⟩ = some (.string ⟨t.toArray⟩) := fun nq => by rw [nq.2.1.cell hb3]; exact e1
         clear e0 e1; refine wp_region_anyG (by kernel_rfl) (fun W => Below w3.heap.size w3 W ∧ W.heap[gx]? = some (.cells #[.int .i64 (x : Int), .int .i64 (y : Int)] 53 (0, 0))) ?_; refine tkC 0 rfl ?_; refine tkC 1 rfl ?_; refine tkC 2 rfl ?_; refine tkC 3 rfl ?_; refine tkC 4 rfl ?_; refine tkC 5 rfl ?_; refine tkC 9 rfl ?_; refine tkC 10 rfl ?_; refine tkC 11 rfl ?_; refine tkC 12 rfl ?_; refine tkC 13 rfl ?_; refine genC06 (fun W => Below wx.heap.size wx W) (Below.refl _ _).drew ?_; intro w6 hb6
         have hC6 : Below w3.heap.size w3 w6 ∧ w6.heap[gx]? = some (.cells #[.int .i64 (x : Int), .int .i64 (y : Int)] 53 (0, 0)) := ⟨hCx.1.trans (hb6.mono hCx.1.size), by rw [hb6.block _ (Array.getElem?_eq_some_iff.1 hCx.2).1]; exact hCx.2⟩; have hO6 := OwnR.keep hOx hb6 (Nat.le_refl _); clear hCx hOx hb6; refine wpAnyC_ready (CG.of (hC6)) (rs := [6]) (by kernel_rfl) (by simp) ?_; refine (AllReadyC.cons rfl (fun K hK => ?_) AllReadyC.nil); go_simp; refine Calls.mono (hQ1 w6) ?_; rintro _ w7 ⟨rfl, hb7⟩; dsimp only; refine hK _ _ ?_; clear hK K
         have hC7 : Below w3.heap.size w3 w7 ∧ w7.heap[gx]? = some (.cells #[.int .i64 (x : Int), .int .i64 (y : Int)] 53 (0, 0)) := ⟨hC6.1.trans (hb7.mono hC6.1.size), by rw [hb7.block _ (Array.getElem?_eq_some_iff.1 hC6.2).1]; exact hC6.2⟩; have hO7 := OwnR.keep hO6 hb7 (Nat.le_refl _); clear hC6 hO6 hb7; refine tkC 7 rfl ?_; refine tkC 8 rfl ?_; refine wpAnyC_ready (CG.of (hC7)) (rs := [14]) (by kernel_rfl) (by simp) ?_; refine (AllReadyC.cons rfl (fun K hK => ?_) AllReadyC.nil); go_simp; refine Calls.mono (hQ2 w7) ?_; rintro _ w9 ⟨rfl, hb9⟩; dsimp only; refine hK _ _ ?_
         clear hK K; have hC9 : Below w3.heap.size w3 w9 ∧ w9.heap[gx]? = some (.cells #[.int .i64 (x : Int), .int .i64 (y : Int)] 53 (0, 0)) := ⟨hC7.1.trans (hb9.mono hC7.1.size), by rw [hb9.block _ (Array.getElem?_eq_some_iff.1 hC7.2).1]; exact hC7.2⟩; have hO9 := OwnR.keep hO7 hb9 (Nat.le_refl _); clear hC7 hO7 hb9; refine tkC 15 rfl ?_; refine wpAnyC_ready (CG.of (hC9)) (rs := [16]) (by kernel_rfl) (by simp) ?_; refine (AllReadyC.cons rfl (fun K hK => ?_) AllReadyC.nil); go_simp; refine hK _ _ ?_; clear hK K; have hO11 := OwnC.alloc hO9 (.cells #[.string ⟨y3.toArray⟩] 9)
         have hc11 : (w9.alloc (.cells #[.string ⟨y3.toArray⟩] 9)).cell? ⟨w9.heap.size, 0, none⟩ = some (.string ⟨y3.toArray⟩) := by rw [cell_of_row _ _ _ _ _ _ (Go.heap_alloc_new w9 _)]; rfl
         have hg11 : (w9.alloc (.cells #[.string ⟨y3.toArray⟩] 9)).heap[gx]? = some (.cells #[.int .i64 (x : Int), .int .i64 (y : Int)] 53 (0, 0)) := by rw [Go.heap_alloc_old w9 _ (Array.getElem?_eq_some_iff.1 hC9.2).1]; exact hC9.2
         have hb11 := hC9.1.alloc hC9.1.size (.cells #[.string ⟨y3.toArray⟩] 9); have hl11 : w9.heap.size < (w9.alloc (.cells #[.string ⟨y3.toArray⟩] 9)).heap.size := by simp
         refine wpAnyC_ready (CG.of (⟨hb11, hg11⟩)) (rs := [17]) (by kernel_rfl) (by simp) ?_; refine (AllReadyC.cons rfl (fun K hK => ?_) AllReadyC.nil); refine step_of rfl (app_stG (B := w3.heap.size) (w0 := w3) (g := gx) (.tmp 86) (.tmp 102) rfl rfl rfl hc11 hl11 hO11 (by omega) hb11 hb11.size hg11 (by decide) fun v12 w12 ho12 hb12 hg12 => ?_); refine hK _ _ ?_; clear hK K hO11 hc11 hg11 hb11 hl11 hC9 hO9; refine tkC 18 rfl ?_; refine wpAnyC_done (by kernel_rfl) (CG.of (⟨hb12, hg12⟩)) (by go_simp <;> with_reducible rfl) ?_; have HB12 := Lib.hid hb12; clear hb12 hg12
         have HO12 : Hid (OwnR stC 1 w3.heap.size 9 w12 v12 (lk L2 (lnMerge ts) c.ms (j + 1))) := Lib.hid (by rw [Hls.out, HY.out]; exact ho12); clear ho12 hQ1 hQ2 q5 q6 q7 q8 dy1 dy2 dy3 oy1 oy2 oy3 Hls HY; wkk; go_roundg (gk - 1)
         case rel => exact ⟨j + 1, by go_num, by omega, HO12, HSn, HB12⟩
         case measure => omega
       · obtain rfl : nm = j := by omega
         clear Hmc Huc H64 Htl Hnu; obtain ⟨L3, hL3⟩ : ∃ L, lk L2 (lnMerge ts) c.ms nm = L := ⟨_, rfl⟩; rw [hL3] at HO HSL HAll; clear hL3; have HT0 := Lib.hid (lk_zero L3 lnName c.ns); obtain ⟨c0, c1, c2, c3, c4, c5, c6, c7, c8, c9, c10, c11, c12⟩ := (P3.out.keep HW.out).cells; clear c0 c1 c2 c3 c4 c5 c6 c7 c8 c9 c11 c12; wkk; clear c10
         go_loopg [9, 108] nn (fun gk s9 ss wr => ∃ j : Nat, ss = .int .i64 j ∧ j + gk = nn ∧ Hid (OwnR stC 1 w3.heap.size 9 wr s9 (lk L3 lnName c.ns j)) ∧ Hid (SL (1300 + j) (lk L3 lnName c.ns j)) ∧ Hid (Below w3.heap.size w3 wr))
         case atStart => exact ⟨0, rfl, by omega, Lib.hid (by rw [HT0.out]; exact HO.out), Lib.hid (by rw [HT0.out]; exact HSL.out.up (by omega)), HW⟩
         clear HO HSL HW HT0
         case round =>
           obtain ⟨j, rfl, hj, HO, HSL, HW⟩ := hrel
           by_cases hjn : j < nn
           · have hjn' : (j : Int) < nn := by omega
             rcases Hnc.out with h0 | ⟨b, off, rfl, hbB, hcell⟩
             · omega
             have hb3' : b < w3.heap.size := Nat.lt_of_lt_of_le hbB B3.out.size; have d0 := str_cellC hcell j (by rw [Hnn.out]; exact hjn); rw [← B3.out.cell (show b < w.heap.size from hbB), ← HW.out.cell (show b < w3.heap.size from hb3')] at d0; have hjj := getD_some (l := c.ns) (d := []) (by rw [Hnn.out]; exact hjn : j < c.ns.length); have hls := lk_succ L3 lnName hjj; have hf32 := HG1.out.ns.2 _ (List.mem_of_getElem? hjj); clear hjj; generalize c.ns.getD j [] = f at d0 hls hf32; have hSn := HSL.out.snoc (lnName_len hf32); rw [← hls] at hSn
             have HSn : Hid (SL (1300 + (j + 1)) (lk L3 lnName c.ns (j + 1))) := Lib.hid hSn
             -- f, hf32, d0, hls, HSn, HO, HW: a line with one quoted text, behind a word
             have hfw := HSL.out.few; have Hls := Lib.hid hls; have hyr : lnName f = namw ++ quo f := rfl; have hq1l := quo_len f; have hQ1 := fun W => config_quote f (by omega) W
             obtain ⟨q1, hq1⟩ : ∃ q, quo f = q := ⟨_, rfl⟩; rw [hq1] at hq1l hQ1 hyr; obtain ⟨y1, hy1⟩ : ∃ y, [110, 97, 109, 101, 32] ++ q1 = y := ⟨_, rfl⟩; have dy1 := ba_lits [110, 97, 109, 101, 32] q1; rw [hy1] at dy1; have ly1 : y1.length ≤ 5 + q1.length := by rw [← hy1, List.length_append]; exact Nat.le_refl _
             have oy1 : ¬ 9223372036854775807 < 5 + q1.length := by omega
             have HY : Hid (lnName f = y1) := Lib.hid (by rw [hyr, ← hy1]; rfl); generalize lnName f = ym at Hls HY; generalize lk L3 lnName c.ns j = La at HO hfw Hls; obtain ⟨c0, c1, c2, c3, c4, c5, c6, c7, c8, c9, c10, c11, c12⟩ := (P3.out.keep HW.out).cells; clear hls hq1 hy1 hSn HSL hyr c0 c1 c2 c3 c4 c5 c6 c7 c8 c9 c11 c12; wkk; refine Calls.mono (hQ1 _) ?_; rintro _ w6 ⟨rfl, hb6⟩; dsimp only; have hown := OwnR.keep HO.out hb6 (Nat.le_refl _); have HW6 : Hid (Below w3.heap.size w3 w6) := Lib.hid (HW.out.trans (hb6.mono HW.out.size)); have hwB := HW6.out.size
             clear hb6 HW HO hQ1 c10 d0; wkka (first | (at_builtin; go_loud (refine app_one 16 w6.heap.size rfl y1 stC_len (by intro y hy; simp [stC] at hy; subst hy; rfl) Tryz.underlying31 info_stT rfl rfl _ _ rfl rfl rfl rfl hown hwB (by omega) (by unfold maxLen; omega) ?_); intro v4 w4 hown4 hb4 hk4 _)); have HO12 : Hid (OwnR stC 1 w3.heap.size 9 w4 v4 (lk L3 lnName c.ns (j + 1))) := Lib.hid (by rw [Hls.out, HY.out]; exact hown4); have HB12 : Hid (Below w3.heap.size w3 w4) := Lib.hid (HW6.out.trans hb4); clear hown4 hb4 hk4 hown HW6 Hls HY dy1 oy1; go_roundg (gk - 1)
             case rel => exact ⟨j + 1, by go_num, by omega, HO12, HSn, HB12⟩
             case measure => omega
           · obtain rfl : nn = j := by omega
             obtain ⟨L4, hL4⟩ : ∃ L, lk L3 lnName c.ns nn = L := ⟨_, rfl⟩; rw [hL4] at HO HSL HAll; clear hL4; obtain ⟨c0, c1, c2, c3, c4, c5, c6, c7, c8, c9, c10, c11, c12⟩ := (P3.out.keep HW.out).cells; have hcc := c11; clear c0 c1 c2 c3 c4 c5 c6 c7 c8 c9 c10 c11 c12; wkk; clear hcc
             go_loopg [9, 122] nb (fun gk s9 ss wr => ∃ j : Nat, ss = .int .i64 j ∧ j + gk = nb ∧ Hid (OwnR stC 1 w3.heap.size 9 wr s9 (lk L4 (lnFrame befw c.ns) c.bf j)) ∧ Hid (SL (1400 + j) (lk L4 (lnFrame befw c.ns) c.bf j)) ∧ Hid (Below w3.heap.size w3 wr))
             case atStart => exact ⟨0, rfl, by omega, Lib.hid (by rw [lk_zero]; exact HO.out), Lib.hid (by rw [lk_zero]; exact HSL.out.up (by omega)), HW⟩
             clear HO HSL HW
             case round =>
               obtain ⟨j, rfl, hj, HO, HSL, HW⟩ := hrel
               by_cases hjn : j < nb
               · have hjn' : (j : Int) < nb := by omega
                 rcases Hbc.out with h0 | ⟨b, off, rfl, hbB, hcell⟩
                 · omega
                 have hb3' : b < w3.heap.size := Nat.lt_of_lt_of_le hbB B3.out.size; have d0 := int_cellC hcell j (by rw [Hnb.out]; exact hjn); rw [← B3.out.cell (show b < w.heap.size from hbB), ← HW.out.cell (show b < w3.heap.size from hb3')] at d0; have hjj := getD_some (l := c.bf) (d := 0) (by rw [Hnb.out]; exact hjn : j < (c.bf).length); have hls := lk_succ L4 (lnFrame befw c.ns) hjj; have hix := HG1.out.bf.2 _ (List.mem_of_getElem? hjj); rw [Hnn.out] at hix; clear hjj; generalize (c.bf).getD j 0 = x at d0 hls hix; obtain ⟨x, rfl⟩ : ∃ n : Nat, x = n := ⟨x.toNat, by omega⟩
                 have hx : (x : Int) < nn := hix.2
                 rcases Hnc.out with h0 | ⟨b3, off3, rfl, hb3, hc3⟩
                 · omega
                 have hb33 : b3 < w3.heap.size := Nat.lt_of_lt_of_le hb3 B3.out.size; have e0 := str_cellC hc3 x (by rw [Hnn.out]; omega); rw [← B3.out.cell (show b3 < w.heap.size from hb3), ← HW.out.cell (show b3 < w3.heap.size from hb33)] at e0; have hSn := HSL.out.snoc (lnFrame_len (p := befw) (by decide) HG1.out.ns.2 (x : Int)); rw [← hls] at hSn; have HSn : Hid (SL (1400 + (j + 1)) (lk L4 (lnFrame befw c.ns) c.bf (j + 1))) := Lib.hid hSn; have hf32 := getD_all (d := ([] : List UInt8)) HG1.out.ns.2 (k := x) (by rw [Hnn.out]; omega)
                 have hxf : lnFrame befw c.ns (x : Int) = befw ++ quo (c.ns.getD x []) := rfl; generalize c.ns.getD x [] = f at e0 hf32 hxf; generalize lnFrame befw c.ns (x : Int) = yf at hls hxf
                 -- f, hf32, d0, hls, HSn, HO, HW: a line with one quoted text, behind a word
                 have hfw := HSL.out.few; have Hls := Lib.hid hls; have hyr := hxf; have hq1l := quo_len f; have hQ1 := fun W => config_quote f (by omega) W
                 obtain ⟨q1, hq1⟩ : ∃ q, quo f = q := ⟨_, rfl⟩; rw [hq1] at hq1l hQ1 hyr; obtain ⟨y1, hy1⟩ : ∃ y, [98, 101, 102, 111, 114, 101, 32] ++ q1 = y := ⟨_, rfl⟩; have dy1 := ba_lits [98, 101, 102, 111, 114, 101, 32] q1; rw [hy1] at dy1; have ly1 : y1.length ≤ 7 + q1.length := by rw [← hy1, List.length_append]; exact Nat.le_refl _
                 have oy1 : ¬ 9223372036854775807 < 7 + q1.length := by omega
                 have HY : Hid (yf = y1) := Lib.hid (by rw [hyr, ← hy1]; rfl); generalize lk L4 (lnFrame befw c.ns) c.bf j = La at HO hfw Hls; obtain ⟨c0, c1, c2, c3, c4, c5, c6, c7, c8, c9, c10, c11, c12⟩ := (P3.out.keep HW.out).cells; clear hxf hls hq1 hy1 hSn HSL hyr c0 c1 c2 c3 c4 c5 c6 c7 c8 c9 c11 c12; wkk; refine Calls.mono (hQ1 _) ?_; rintro _ w6 ⟨rfl, hb6⟩; dsimp only; have hown := OwnR.keep HO.out hb6 (Nat.le_refl _); have HW6 : Hid (Below w3.heap.size w3 w6) := Lib.hid (HW.out.trans (hb6.mono HW.out.size)); have hwB := HW6.out.size; clear hb6 HW HO hQ1 c10 d0 e0
                 wkka (first | (at_builtin; go_loud (refine app_one 16 w6.heap.size rfl y1 stC_len (by intro y hy; simp [stC] at hy; subst hy; rfl) Tryz.underlying31 info_stT rfl rfl _ _ rfl rfl rfl rfl hown hwB (by omega) (by unfold maxLen; omega) ?_); intro v4 w4 hown4 hb4 hk4 _)); have HO12 : Hid (OwnR stC 1 w3.heap.size 9 w4 v4 (lk L4 (lnFrame befw c.ns) c.bf (j + 1))) := Lib.hid (by rw [Hls.out, HY.out]; exact hown4); have HB12 : Hid (Below w3.heap.size w3 w4) := Lib.hid (HW6.out.trans hb4); clear hown4 hb4 hk4 hown HW6 Hls HY dy1 oy1; go_roundg (gk - 1)
                 case rel => exact ⟨j + 1, by go_num, by omega, HO12, HSn, HB12⟩
                 case measure => omega
               · obtain rfl : nb = j := by omega
                 obtain ⟨L5, hL5⟩ : ∃ L, lk L4 (lnFrame befw c.ns) c.bf nb = L := ⟨_, rfl⟩; rw [hL5] at HO HSL HAll; clear hL5; obtain ⟨c0, c1, c2, c3, c4, c5, c6, c7, c8, c9, c10, c11, c12⟩ := (P3.out.keep HW.out).cells; have hcc := c12; clear c0 c1 c2 c3 c4 c5 c6 c7 c8 c9 c10 c11 c12; wkk; clear hcc
                 go_loopg [9, 140] na (fun gk s9 ss wr => ∃ j : Nat, ss = .int .i64 j ∧ j + gk = na ∧ Hid (OwnR stC 1 w3.heap.size 9 wr s9 (lk L5 (lnFrame aftw c.ns) c.af j)) ∧ Hid (SL (1500 + j) (lk L5 (lnFrame aftw c.ns) c.af j)) ∧ Hid (Below w3.heap.size w3 wr))
                 case atStart => exact ⟨0, rfl, by omega, Lib.hid (by rw [lk_zero]; exact HO.out), Lib.hid (by rw [lk_zero]; exact HSL.out.up (by omega)), HW⟩
                 clear HO HSL HW
                 case round =>
                   obtain ⟨j, rfl, hj, HO, HSL, HW⟩ := hrel
                   by_cases hjn : j < na
                   · have hjn' : (j : Int) < na := by omega
                     rcases Hac.out with h0 | ⟨b, off, rfl, hbB, hcell⟩
                     · omega
                     have hb3' : b < w3.heap.size := Nat.lt_of_lt_of_le hbB B3.out.size; have d0 := int_cellC hcell j (by rw [Hna.out]; exact hjn); rw [← B3.out.cell (show b < w.heap.size from hbB), ← HW.out.cell (show b < w3.heap.size from hb3')] at d0; have hjj := getD_some (l := c.af) (d := 0) (by rw [Hna.out]; exact hjn : j < (c.af).length); have hls := lk_succ L5 (lnFrame aftw c.ns) hjj; have hix := HG1.out.af.2 _ (List.mem_of_getElem? hjj); rw [Hnn.out] at hix; clear hjj; generalize (c.af).getD j 0 = x at d0 hls hix
                     obtain ⟨x, rfl⟩ : ∃ n : Nat, x = n := ⟨x.toNat, by omega⟩; have hx : (x : Int) < nn := hix.2
                     rcases Hnc.out with h0 | ⟨b3, off3, rfl, hb3, hc3⟩
                     · omega
                     have hb33 : b3 < w3.heap.size := Nat.lt_of_lt_of_le hb3 B3.out.size; have e0 := str_cellC hc3 x (by rw [Hnn.out]; omega); rw [← B3.out.cell (show b3 < w.heap.size from hb3), ← HW.out.cell (show b3 < w3.heap.size from hb33)] at e0; have hSn := HSL.out.snoc (lnFrame_len (p := aftw) (by decide) HG1.out.ns.2 (x : Int)); rw [← hls] at hSn; have HSn : Hid (SL (1500 + (j + 1)) (lk L5 (lnFrame aftw c.ns) c.af (j + 1))) := Lib.hid hSn; have hf32 := getD_all (d := ([] : List UInt8)) HG1.out.ns.2 (k := x) (by rw [Hnn.out]; omega)
                     have hxf : lnFrame aftw c.ns (x : Int) = aftw ++ quo (c.ns.getD x []) := rfl; generalize c.ns.getD x [] = f at e0 hf32 hxf; generalize lnFrame aftw c.ns (x : Int) = yf at hls hxf
                     -- f, hf32, d0, hls, HSn, HO, HW: a line with one quoted text, behind a word
                     have hfw := HSL.out.few; have Hls := Lib.hid hls; have hyr := hxf; have hq1l := quo_len f; have hQ1 := fun W => config_quote f (by omega) W
                     obtain ⟨q1, hq1⟩ : ∃ q, quo f = q := ⟨_, rfl⟩; rw [hq1] at hq1l hQ1 hyr; obtain ⟨y1, hy1⟩ : ∃ y, [97, 102, 116, 101, 114, 32] ++ q1 = y := ⟨_, rfl⟩; have dy1 := ba_lits [97, 102, 116, 101, 114, 32] q1; rw [hy1] at dy1; have ly1 : y1.length ≤ 6 + q1.length := by rw [← hy1, List.length_append]; exact Nat.le_refl _
                     have oy1 : ¬ 9223372036854775807 < 6 + q1.length := by omega
                     have HY : Hid (yf = y1) := Lib.hid (by rw [hyr, ← hy1]; rfl); generalize lk L5 (lnFrame aftw c.ns) c.af j = La at HO hfw Hls; obtain ⟨c0, c1, c2, c3, c4, c5, c6, c7, c8, c9, c10, c11, c12⟩ := (P3.out.keep HW.out).cells; clear hxf hls hq1 hy1 hSn HSL hyr c0 c1 c2 c3 c4 c5 c6 c7 c8 c9 c11 c12; wkk; refine Calls.mono (hQ1 _) ?_; rintro _ w6 ⟨rfl, hb6⟩; dsimp only; have hown := OwnR.keep HO.out hb6 (Nat.le_refl _); have HW6 : Hid (Below w3.heap.size w3 w6) := Lib.hid (HW.out.trans (hb6.mono HW.out.size)); have hwB := HW6.out.size
                     clear hb6 HW HO hQ1 c10 d0 e0; wkka (first | (at_builtin; go_loud (refine app_one 16 w6.heap.size rfl y1 stC_len (by intro y hy; simp [stC] at hy; subst hy; rfl) Tryz.underlying31 info_stT rfl rfl _ _ rfl rfl rfl rfl hown hwB (by omega) (by unfold maxLen; omega) ?_); intro v4 w4 hown4 hb4 hk4 _)); have HO12 : Hid (OwnR stC 1 w3.heap.size 9 w4 v4 (lk L5 (lnFrame aftw c.ns) c.af (j + 1))) := Lib.hid (by rw [Hls.out, HY.out]; exact hown4); have HB12 : Hid (Below w3.heap.size w3 w4) := Lib.hid (HW6.out.trans hb4)
                     clear hown4 hb4 hk4 hown HW6 Hls HY dy1 oy1; go_roundg (gk - 1)
                     case rel => exact ⟨j + 1, by go_num, by omega, HO12, HSn, HB12⟩
                     case measure => omega
                   · obtain rfl : na = j := by omega
                     have hne : lk L5 (lnFrame aftw c.ns) c.af na ≠ [] := by
                       rw [← HAll.out]; unfold allL lk l1; simp
                     have hjl := HSL.out.join (by omega); have hJ := join_own HO.out [10] (by omega) (by have := HSL.out.few; omega); have hjt := lnT_join _ hne; rw [← HAll.out] at hjt hJ hjl; obtain ⟨T, hT⟩ : ∃ X, lnT (allL c rt ts) = X := ⟨_, rfl⟩; have HS6 := HS5; rw [hT] at HS6 hjt; obtain ⟨Jn, hJn⟩ : ∃ J, Lib.join (allL c rt ts) [10] = J := ⟨_, rfl⟩; rw [hJn] at hjt hJ hjl; have dj := ba_lits Jn [10]; rw [hjt] at dj; have oj : ¬ 9223372036854775807 < Jn.length + 1 := by omega
                     clear HO HSL HAll HS5 hT hJn hjt hne
                     by_cases h6 : 65536 < T.length
                     · have e := HS6.out.1 h6; have h6' : (65536 : Int) < T.length := by omega
                       subst e; clear HS6; wkk; refine Calls.mono (hJ) ?_; rintro _ w6 ⟨rfl, hb6⟩; dsimp only; wkk; go_ret2; exact ⟨rfl, B3.out.trans ((HW.out.trans (hb6.mono HW.out.size)).mono B3.out.size)⟩
                     · have e := HS6.out.2 h6; have h6' : ¬ (65536 : Int) < T.length := by omega
                       subst e; clear HS6; wkk; refine Calls.mono (hJ) ?_; rintro _ w6 ⟨rfl, hb6⟩; dsimp only; wkk; go_ret2; exact ⟨rfl, B3.out.trans ((HW.out.trans (hb6.mono HW.out.size)).mono B3.out.size)⟩
open Go.RowKit
end Go.Proofs.YtonkenlkigfeoaaGreatDoor
