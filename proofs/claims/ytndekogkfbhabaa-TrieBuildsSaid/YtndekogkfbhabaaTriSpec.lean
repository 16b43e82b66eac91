/- Plain laws: words laid into a double array, as trie.Build lays them; which state a path leads to. No conditions; no program. -/
import Derived.Test.YtndekogkfbhabaaSlices
namespace Go.Proofs.Ytndekogkfbhabaa
/-- a word behind a node: what is left of it, its number -/
abbrev Wd := List UInt8 × Nat
def tlW (c : UInt8) (x : Wd) : Option Wd :=
  match x.1 with
  | d :: l => if d = c then some (l, x.2) else none
  | [] => none
/-- the words that go on with a byte -/
def sub (ws : List Wd) (c : UInt8) : List Wd := ws.filterMap (tlW c)
def subs (ws : List Wd) : List UInt8 → List Wd
  | [] => ws
  | c :: l => subs (sub ws c) l
/-- the number of the word that ends here -/
def wordN (ws : List Wd) : Int :=
  match ws.find? fun x => x.1.isEmpty with
  | some x => (x.2 : Int)
  | none => -1
def bytesU : List UInt8 := (List.range 256).map fun n => UInt8.ofNat n
/-- the bytes that go on, rising -/
def kids (ws : List Wd) : List UInt8 := bytesU.filter fun c => !(sub ws c).isEmpty
/-- the maker's three rows, and its free place -/
structure TM where
  b : List Int
  c : List Int
  w : List Int
  free : Nat
def TM.C (M : TM) (i : Nat) : Int := M.c.getD i (-1)
def TM.B (M : TM) (i : Nat) : Int := M.b.getD i 0
def TM.W (M : TM) (i : Nat) : Int := M.w.getD i (-1)
/-- the first free place from here on -/
def freeF (c : List Int) : Nat → Nat → Nat
  | 0, i => i
  | f + 1, i => if 0 ≤ c.getD i (-1) then freeF c f (i + 1) else i
/-- all the bytes' places are free -/
def fitsF (c : List Int) (l : List UInt8) (a : Int) : Bool := l.all fun b => decide (1 ≤ a + b.toNat + 1) && decide (c.getD (a + b.toNat + 1).toNat (-1) < 0)
def seekF (c : List Int) (l : List UInt8) : Nat → Int → Int
  | 0, a => a
  | f + 1, a => if fitsF c l a then a else seekF c l f (a + 1)
def growF (l : List Int) (n : Nat) (v : Int) : List Int := l ++ List.replicate (n - l.length) v
def setAll (c : List Int) (a : Int) (s : Nat) (l : List UInt8) : List Int := l.foldl (fun c b => c.set (a + b.toNat + 1).toNat s) c
/-- where the kids' places begin -/
def baseF (M : TM) (k : UInt8) (ks : List UInt8) : Int :=
  seekF M.c (k :: ks) (M.c.length + 300) (max ((freeF M.c (M.c.length + 1) M.free : Nat) - (k.toNat : Int) - 1) (-(k.toNat : Int)))
def lastF (k : UInt8) (ks : List UInt8) : Nat := ((k :: ks).getLast (by simp)).toNat
/-- a node's kids get their places -/
def putF (M : TM) (s : Nat) (k : UInt8) (ks : List UInt8) : TM :=
  let a := baseF M k ks
  let n := (a + lastF k ks + 2).toNat
  ⟨(growF M.b n 0).set s a, setAll (growF M.c n (-1)) a s (k :: ks), growF M.w n (-1), freeF M.c (M.c.length + 1) M.free⟩
def layF : Nat → List Wd → Nat → TM → TM
  | 0, _, _, M => M
  | f + 1, ws, s, M =>
    match kids ws with
    | [] => { M with w := M.w.set s (wordN ws) }
    | k :: ks => (k :: ks).foldl (fun T c => layF f (sub ws c) (baseF M k ks + c.toNat + 1).toNat T) (putF { M with w := M.w.set s (wordN ws) } s k ks)
/-- a state -/
def TM.St (M : TM) (q : Nat) : Prop := q = 0 ∨ 0 ≤ M.C q
def stepD (M : TM) (x : Nat) (b : UInt8) : Option Nat :=
  if 0 < M.B x + b.toNat + 1 ∧ M.C (M.B x + b.toNat + 1).toNat = x then some (M.B x + b.toNat + 1).toNat else none
def walkD (M : TM) (l : List UInt8) : Option Nat := l.foldl (fun o b => o.bind fun x => stepD M x b) (some 0)
theorem walkD_snoc (M : TM) (l : List UInt8) (b : UInt8) : walkD M (l ++ [b]) = (walkD M l).bind fun x => stepD M x b := by simp [walkD, List.foldl_append]
/-- each state has a path of its own -/
structure Inv (M : TM) (P : Nat → List UInt8) : Prop where
  lb : M.b.length = M.c.length
  lw : M.w.length = M.c.length
  pos : 0 < M.c.length
  c0 : M.C 0 < 0
  p0 : P 0 = []
  bas : ∀ x, -255 ≤ M.B x ∧ M.B x ≤ M.c.length
  fr : 1 ≤ M.free ∧ M.free ≤ M.c.length
  par : ∀ q, 0 ≤ M.C q → ∃ (x : Nat) (b : UInt8), M.C q = x ∧ M.St x ∧ P q = P x ++ [b] ∧ (q : Int) = M.B x + b.toNat + 1
  inj : ∀ q q', M.St q → M.St q' → P q = P q' → q = q'
theorem byte_eq {a b : UInt8} (h : (a.toNat : Int) = b.toNat) : a = b := UInt8.toNat_inj.1 (by omega)
/-- a path leads to the state whose path it is -/
theorem walk_iff {M : TM} {P : Nat → List UInt8} (h : Inv M P) : ∀ (n : Nat) (l : List UInt8) (p : Nat), l.length = n → (walkD M l = some p ↔ M.St p ∧ P p = l)
  | 0, l, p, hn => by
    obtain rfl := List.eq_nil_of_length_eq_zero hn
    constructor
    · intro hw
      obtain rfl : 0 = p := by simpa [walkD] using hw
      exact ⟨.inl rfl, h.p0⟩
    · rintro ⟨hs, hp⟩
      obtain rfl := h.inj p 0 hs (.inl rfl) (by rw [hp, h.p0])
      rfl
  | n + 1, l, p, hn => by
    have hne : l ≠ [] := fun e => by rw [e] at hn; simp at hn
    obtain ⟨l', b, rfl⟩ : ∃ l' b, l = l' ++ [b] := ⟨l.dropLast, l.getLast hne, (List.dropLast_concat_getLast hne).symm⟩
    have hl' : l'.length = n := by rw [List.length_append] at hn; simpa using hn
    rw [walkD_snoc]
    constructor
    · intro hw
      obtain ⟨x, hx, hst⟩ := Option.bind_eq_some_iff.1 hw
      obtain ⟨hsx, hpx⟩ := (walk_iff h n l' x hl').1 hx
      unfold stepD at hst
      split at hst
      · rename_i hc
        have hp : (M.B x + b.toNat + 1).toNat = p := Option.some.inj hst
        rw [hp] at hc
        have h0 : 0 ≤ M.C p := by rw [hc.2]; omega
        obtain ⟨x', b', e1, _, e3, e4⟩ := h.par p h0
        obtain rfl : x = x' := by rw [hc.2] at e1; omega
        obtain rfl : b = b' := byte_eq (by omega)
        exact ⟨.inr h0, by rw [e3, hpx]⟩
      · cases hst
    · rintro ⟨hs, hp⟩
      have h0 : 0 ≤ M.C p := by
        rcases hs with rfl | h0
        · rw [h.p0] at hp; simp at hp
        · exact h0
      obtain ⟨x, b', e1, e2, e3, e4⟩ := h.par p h0
      rw [hp] at e3
      obtain ⟨e5, e6⟩ := List.append_inj' e3 rfl
      obtain rfl : b = b' := by simpa using e6
      have hw := (walk_iff h n l' x hl').2 ⟨e2, e5.symm⟩
      rw [hw]
      show stepD M x b = some p
      have e7 : (M.B x + b.toNat + 1).toNat = p := by omega
      unfold stepD
      rw [e7, if_pos ⟨by have := hs; rcases this with rfl | _
                         · exfalso; have := h.c0; omega
                         · by_cases hz : p = 0
                           · subst hz; have := h.c0; omega
                           · omega, e1⟩]
end Go.Proofs.Ytndekogkfbhabaa
