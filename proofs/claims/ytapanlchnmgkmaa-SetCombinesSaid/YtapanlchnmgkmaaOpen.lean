/- What came in, opened to cells: values of flat types, slices of them. No conditions; no program. -/
import Derived.Test.YtapanlchnmgkmaaSlices
import Derived.OpenShut
import Derived.Deep.Slices
namespace Go.Proofs.Ytapanlchnmgkmaa
open Go.RowKit Go.Deep
/-- what one cell of a flat value is -/
inductive FK where
  | int (k : IntKind)
  | str
  | bool
  | sl (t : TypeId)
  deriving DecidableEq
/-- a list of parts that lie one behind the other, each flat -/
def flatAt (P : Program) (F : TypeId → Option (List FK)) : List (Nat × TypeId) → Nat → Option (List FK)
  | [], _ => some []
  | (off, t) :: r, at' => if off = at' then (F t).bind fun l => if l.length = P.cellsOf t then (flatAt P F r (at' + l.length)).map (l ++ ·) else none else none
/-- a type's cells, if it is flat -/
def flat (P : Program) : Nat → TypeId → Option (List FK)
  | 0, _ => none
  | n + 1, t => match P.underlying t with
    | some (.int k) => some [.int k]
    | some .string => some [.str]
    | some .bool => some [.bool]
    | some (.slice _) => some [.sl t]
    | some (.array m e) => (flatAt P (flat P n) ((List.range m).map fun i => (i * P.cellsOf e, e)) 0).bind fun l => if l.length = P.cellsOf t then some l else none
    | some (.struct fs) => (flatAt P (flat P n) (fs.toList.map fun f => (f.offset, f.type)) 0).bind fun l => if l.length = P.cellsOf t then some l else none
    | _ => none
section
variable {H : Type} {enc : TypeId × Value → H} {P : Program} {w : World} {base : Nat} {spare : Nat → Bool} {held : Bool}
/-- what is known of such a cell -/
def FKok (enc : TypeId × Value → H) (P : Program) (w : World) (base : Nat) (spare : Nat → Bool) (held : Bool) : FK → Value → Prop
  | .int k, c => ∃ n, c = .int k n ∧ (Lit.int k n).wf = true
  | .str, c => ∃ s : ByteArray, c = .string s ∧ s.size ≤ maxLen
  | .bool, c => ∃ b, c = .bool b
  | .sl t, c => ∃ m y, DataW.trod enc P w base spare held m t [c] = some y
def AllOk (enc : TypeId × Value → H) (P : Program) (w : World) (base : Nat) (spare : Nat → Bool) (held : Bool) (ks : List FK) (cs : List Value) : Prop :=
  cs.length = ks.length ∧ ∀ (i : Nat) k c, ks[i]? = some k → cs[i]? = some c → FKok enc P w base spare held k c
/-- the same, of what needs no memory -/
def FKp : FK → Value → Prop
  | .int k, c => ∃ n, c = .int k n ∧ (Lit.int k n).wf = true
  | .str, c => ∃ s : ByteArray, c = .string s ∧ s.size ≤ maxLen
  | .bool, c => ∃ b, c = .bool b
  | .sl _, _ => True
def FlatOk (ks : List FK) (cs : List Value) : Prop := cs.length = ks.length ∧ ∀ (i : Nat) k c, ks[i]? = some k → cs[i]? = some c → FKp k c
theorem AllOk.flat {ks : List FK} {cs : List Value} (h : AllOk enc P w base spare held ks cs) : FlatOk ks cs :=
  ⟨h.1, fun i k c hk hc => by have := h.2 i k c hk hc; cases k <;> first | exact this | trivial⟩
theorem AllOk.one {k : FK} {c : Value} (h : FKok enc P w base spare held k c) : AllOk enc P w base spare held [k] [c] :=
  ⟨rfl, fun i k' c' hk hc => by
    cases i with
    | zero => simp at hk hc; subst hk; subst hc; exact h
    | succ i => simp at hk⟩
theorem flatAt_open {F : TypeId → Option (List FK)} {m : Nat} {cs : List Value} (IH : ∀ t ks, F t = some ks → ∀ cs' x, DataW.trod enc P w base spare held m t cs' = some x → AllOk enc P w base spare held ks cs') :
    ∀ (ps : List (Nat × TypeId)) (off : Nat) (ks : List FK), flatAt P F ps off = some ks → (∀ q ∈ ps, ∃ y, DataW.trod enc P w base spare held m q.2 ((cs.drop q.1).take (P.cellsOf q.2)) = some y) →
      ∀ (i : Nat) k c, ks[i]? = some k → (cs.drop off)[i]? = some c → FKok enc P w base spare held k c := by
  intro ps
  induction ps with
  | nil => intro off ks h _ i k c hk; simp [flatAt] at h; subst h; simp at hk
  | cons q ps ih =>
    intro off ks h hq i k c hk hc
    obtain ⟨o, t⟩ := q
    simp only [flatAt] at h
    split at h
    · rename_i ho
      subst ho
      cases hF : F t with
      | none => simp [hF] at h
      | some l =>
        simp only [hF, Option.bind_some] at h
        split at h
        · rename_i hl
          cases hR : flatAt P F ps (o + l.length) with
          | none => simp [hR] at h
          | some r =>
            simp only [hR, Option.map_some, Option.some.injEq] at h
            subst h
            by_cases hi : i < l.length
            · obtain ⟨y, hy⟩ := hq (o, t) (by simp)
              have ha := IH t l hF _ _ hy
              refine ha.2 i k c ?_ ?_
              · rw [List.getElem?_append_left hi] at hk; exact hk
              · rw [List.getElem?_take, if_pos (by show i < P.cellsOf t; omega)]; exact hc
            · refine ih (o + l.length) r hR (fun q hq' => hq q (by simp [hq'])) (i - l.length) k c ?_ ?_
              · rw [List.getElem?_append_right (by omega)] at hk; exact hk
              · rw [List.getElem?_drop] at hc ⊢
                rw [show o + l.length + (i - l.length) = o + i from by omega]
                exact hc
        · cases h
    · cases h
theorem flat_open : ∀ (n : Nat) (t : TypeId) (ks : List FK), flat P n t = some ks → ∀ (fuel : Nat) (cs : List Value) x, DataW.trod enc P w base spare held fuel t cs = some x → AllOk enc P w base spare held ks cs := by
  intro n
  induction n with
  | zero => intro t ks h; simp [flat] at h
  | succ n ih =>
    intro t ks h fuel cs x hx
    simp only [flat] at h
    split at h
    · rename_i k hu
      simp only [Option.some.injEq] at h; subst h
      obtain ⟨z, rfl, _, hz⟩ := DataW.trod_int hu hx
      exact AllOk.one ⟨z, rfl, hz⟩
    · rename_i hu
      simp only [Option.some.injEq] at h; subst h
      obtain ⟨z, rfl, _, hz⟩ := DataW.trod_string hu hx
      exact AllOk.one ⟨z, rfl, hz⟩
    · rename_i hu
      simp only [Option.some.injEq] at h; subst h
      obtain ⟨z, rfl, _⟩ := DataW.trod_bool hu hx
      exact AllOk.one ⟨z, rfl⟩
    · rename_i e hu
      simp only [Option.some.injEq] at h; subst h
      rcases DataW.trod_slice hu hx with ⟨rfl, _⟩ | ⟨a, len, cap, _, _, _, _, rfl, _⟩
      · exact AllOk.one ⟨_, _, hx⟩
      · exact AllOk.one ⟨_, _, hx⟩
    · rename_i m e hu
      obtain ⟨xs, m', rfl, _, hl, hxl, hget⟩ := DataW.trod_array hu hx
      simp only [Option.bind_eq_some_iff] at h
      obtain ⟨l, hf, h⟩ := h
      split at h
      · rename_i hlen
        simp only [Option.some.injEq] at h; subst h
        refine ⟨by rw [hl, hlen], fun i k c hk hc => ?_⟩
        refine flatAt_open (cs := cs) (m := m') (fun t ks h cs' x hx => ih t ks h _ cs' x hx) _ 0 l hf (fun q hq => ?_) i k c hk (by simpa using hc)
        obtain ⟨j, hj, rfl⟩ := List.mem_map.1 hq
        have hj' := List.mem_range.1 hj
        exact ⟨_, (hget j hj').trans (List.getElem?_eq_getElem (by omega))⟩
      · cases h
    · rename_i fs hu
      obtain ⟨xs, m', rfl, _, hl, hxl, hget⟩ := DataW.trod_struct hu hx
      simp only [Option.bind_eq_some_iff] at h
      obtain ⟨l, hf, h⟩ := h
      split at h
      · rename_i hlen
        simp only [Option.some.injEq] at h; subst h
        refine ⟨by rw [hl, hlen], fun i k c hk hc => ?_⟩
        refine flatAt_open (cs := cs) (m := m') (fun t ks h cs' x hx => ih t ks h _ cs' x hx) _ 0 l hf (fun q hq => ?_) i k c hk (by simpa using hc)
        obtain ⟨f, hj, rfl⟩ := List.mem_map.1 hq
        obtain ⟨j, hj'⟩ := List.getElem?_of_mem hj
        have hj2 : fs[j]? = some f := by simpa using hj'
        have hjl : j < fs.size := (Array.getElem?_eq_some_iff.1 hj2).1
        exact ⟨_, (hget j f hj2).trans (List.getElem?_eq_getElem (by omega))⟩
      · cases h
    · cases h
end
/-- a slice that is read: n elements of sz cells each, the cells xs, all below block B -/
def RdC (B sz : Nat) (w : World) (v : Value) (n : Nat) (xs : List Value) : Prop :=
  ∃ a cap, v = .slice a n cap ∧ n ≤ cap ∧ cap ≤ maxLen ∧ xs.length = n * sz ∧ (n = 0 ∨ ∃ b off, a = some ⟨b, off, none⟩ ∧ b < B ∧ ∀ i, i < n * sz → w.cell? ⟨b, off + i, none⟩ = xs[i]?)
theorem RdC.below {B B' sz : Nat} {w w' : World} {v : Value} {n : Nat} {xs : List Value} (h : RdC B sz w v n xs) (hb : Below B' w w') (hB : B ≤ B') : RdC B sz w' v n xs := by
  obtain ⟨a, cap, rfl, hc, hm, hl, h⟩ := h
  refine ⟨a, cap, rfl, hc, hm, hl, ?_⟩
  rcases h with h | ⟨b, off, rfl, hbB, h⟩
  · exact .inl h
  · exact .inr ⟨b, off, rfl, hbB, fun i hi => by rw [hb.cell (show b < B' by omega)]; exact h i hi⟩
theorem RdC.mono {B B' sz : Nat} {w : World} {v : Value} {n : Nat} {xs : List Value} (h : RdC B sz w v n xs) (hB : B ≤ B') : RdC B' sz w v n xs := by
  obtain ⟨a, cap, rfl, hc, hm, hl, h⟩ := h
  refine ⟨a, cap, rfl, hc, hm, hl, ?_⟩
  rcases h with h | ⟨b, off, rfl, hbB, h⟩
  · exact .inl h
  · exact .inr ⟨b, off, rfl, by omega, h⟩
theorem RdC.keep {sz : Nat} {w w' : World} {v : Value} {n : Nat} {xs : List Value} (h : RdC w.heap.size sz w v n xs) (hb : Below w.heap.size w w') : RdC w'.heap.size sz w' v n xs := (h.below hb (Nat.le_refl _)).mono hb.size
/-- a list cut into pieces that are all of one kind -/
theorem chunks {α : Type} {f : α → List Value} {G : α → Prop} {sz : Nat} : ∀ (n : Nat) (xs : List Value), xs.length = n * sz → (∀ i, i < n → ∃ y, (xs.drop (i * sz)).take sz = f y ∧ G y) → ∃ ys : List α, ys.length = n ∧ xs = ys.flatMap f ∧ ∀ y ∈ ys, G y := by
  intro n
  induction n with
  | zero => intro xs h _; exact ⟨[], rfl, List.eq_nil_of_length_eq_zero (by omega), fun y hy => by simp at hy⟩
  | succ n ih =>
    intro xs h hy
    obtain ⟨y, h0, g0⟩ := hy 0 (by omega)
    rw [Nat.zero_mul, List.drop_zero] at h0
    rw [Nat.succ_mul] at h
    obtain ⟨ys, hl, hx, hg⟩ := ih (xs.drop sz) (by rw [List.length_drop]; omega) (fun i hi => by
      obtain ⟨z, hz, gz⟩ := hy (i + 1) (by omega)
      exact ⟨z, by rw [List.drop_drop, ← hz]; congr 2; rw [Nat.succ_mul, Nat.add_comm], gz⟩)
    refine ⟨y :: ys, by simp [hl], ?_, by simpa using ⟨g0, hg⟩⟩
    rw [List.flatMap_cons, ← h0, ← hx, List.take_append_drop]
section
variable {H : Type} {enc : TypeId × Value → H} {P : Program} {w : World} {spare : Nat → Bool} {held : Bool}
/-- a slice of flat elements: its cells -/
theorem slice_open {t e : TypeId} {n0 : Nat} {ks : List FK} (ht : P.underlying t = some (.slice e)) (hk : flat P n0 e = some ks) (hc : P.cellsOf e = ks.length) (hsz : 0 < ks.length) {fuel : Nat} {c : Value} {x : DataW H × List MemPlace}
    (h : DataW.trod enc P w 0 spare held fuel t [c] = some x) :
    ∃ n xs, RdC w.heap.size ks.length w c n xs ∧ ∀ i, i < n → AllOk enc P w 0 spare held ks ((xs.drop (i * ks.length)).take ks.length) := by
  rcases open_slice ht h with ⟨h0, _⟩ | ⟨a, len, cap, m, n, D, Pl, hcs, hb, hl, hm, hmm, hx, hi⟩
  · simp at h0
    exact ⟨0, [], ⟨none, 0, h0, Nat.le_refl _, Nat.zero_le _, by simp, .inl rfl⟩, fun i hi => absurd hi (Nat.not_lt_zero _)⟩
  · simp at hcs
    have hlm : len ≤ m := by rw [hmm]; split <;> omega
    by_cases h0 : len = 0
    · subst h0
      exact ⟨0, [], ⟨some a, cap, hcs, Nat.zero_le _, hm, by simp, .inl rfl⟩, fun i hi => absurd hi (Nat.not_lt_zero _)⟩
    -- the cells
    have hcell : ∀ i, i < len → ∃ cs', cs'.length = ks.length ∧ (∀ j, j < ks.length → w.cell? (a.add (i * ks.length + j)) = cs'[j]?) ∧ AllOk enc P w 0 spare held ks cs' := fun i hi' => by
      obtain ⟨cs', h1, h2⟩ := hi i (by omega)
      rw [hc] at h1
      obtain ⟨_, hcl, hat⟩ := World.cells?_some h1
      refine ⟨cs', hcl, fun j hj => ?_, flat_open n0 e ks hk _ _ _ h2⟩
      rw [← Go.Deep.add_add, hat j hj]
    have hspot : a.spot = none := by
      obtain ⟨cs', h1, h2, _⟩ := hcell 0 (by omega)
      have h3 := h2 0 hsz
      rw [List.getElem?_eq_getElem (by omega)] at h3
      simpa [Addr.add] using World.cell?_spot h3
    obtain ⟨b, off, spot⟩ := a
    dsimp only at hspot
    subst hspot
    have hblk : b < w.heap.size := by
      obtain ⟨cs', h1, h2, _⟩ := hcell 0 (by omega)
      have h3 := h2 0 hsz
      rw [List.getElem?_eq_getElem (by omega)] at h3
      simpa [Addr.add] using World.block_lt_of_cell? w _ h3
    refine ⟨len, (List.range (len * ks.length)).map fun i => (w.cell? ⟨b, off + i, none⟩).getD undef, ⟨_, cap, hcs, hl, hm, by simp, .inr ⟨b, off, rfl, hblk, fun i hi' => ?_⟩⟩, fun i hi' => ?_⟩
    · have hq : i / ks.length < len := Nat.div_lt_of_lt_mul (by rw [Nat.mul_comm]; exact hi')
      obtain ⟨cs', h1, h2, _⟩ := hcell (i / ks.length) hq
      have h3 := h2 (i % ks.length) (Nat.mod_lt _ hsz)
      rw [Nat.mul_comm, Nat.div_add_mod, Addr.add_lit, List.getElem?_eq_getElem (by rw [h1]; exact Nat.mod_lt _ hsz)] at h3
      rw [List.getElem?_map, List.getElem?_range hi', h3]
      simp [h3]
    · obtain ⟨cs', h1, h2, h3⟩ := hcell i hi'
      have : (((List.range (len * ks.length)).map fun i => (w.cell? ⟨b, off + i, none⟩).getD undef).drop (i * ks.length)).take ks.length = cs' := by
        apply List.ext_getElem?
        intro j
        rw [List.getElem?_take]
        by_cases hj : j < ks.length
        · have hlt : i * ks.length + j < len * ks.length := by
            have : (i + 1) * ks.length ≤ len * ks.length := Nat.mul_le_mul_right _ hi'
            rw [Nat.succ_mul] at this; omega
          have h4 := h2 j hj
          rw [Addr.add_lit, List.getElem?_eq_getElem (by omega)] at h4
          rw [if_pos hj, List.getElem?_drop, List.getElem?_map, List.getElem?_range hlt, List.getElem?_eq_getElem (by omega)]
          simp [h4]
        · rw [if_neg hj, List.getElem?_eq_none (by omega)]
      rw [this]; exact h3
end
end Go.Proofs.Ytapanlchnmgkmaa
