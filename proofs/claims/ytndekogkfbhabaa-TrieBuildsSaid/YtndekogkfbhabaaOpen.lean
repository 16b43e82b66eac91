/- What came in, opened to cells: values of flat types, slices of them. No conditions; no program. -/
import Derived.Test.YtndekogkfbhabaaSlices
import Derived.OpenShut
import Derived.Deep.Slices
namespace Go.Proofs.Ytndekogkfbhabaa
open Go.RowKit Go.Deep
/-- what one cell of a flat value is -/
inductive FK where
  | int (k : IntKind)
  | str
  | bool
  | sl (t : TypeId)
  deriving DecidableEq
/-- a list of parts that lie one behind the other, each flat -/
def flatAt (P : Program) (F : TypeId → Option (List FK)) : List (Nat × TypeId) → Nat → Option (List FK)
  | [], _ => some []
  | (off, t) :: r, at' => if off = at' then (F t).bind fun l => if l.length = P.cellsOf t then (flatAt P F r (at' + l.length)).map (l ++ ·) else none else none
/-- a type's cells, if it is flat -/
def flat (P : Program) : Nat → TypeId → Option (List FK)
  | 0, _ => none
  | n + 1, t => match P.underlying t with
    | some (.int k) => some [.int k]
    | some .string => some [.str]
    | some .bool => some [.bool]
    | some (.slice _) => some [.sl t]
    | some (.array m e) => (flatAt P (flat P n) ((List.range m).map fun i => (i * P.cellsOf e, e)) 0).bind fun l => if l.length = P.cellsOf t then some l else none
    | some (.struct fs) => (flatAt P (flat P n) (fs.toList.map fun f => (f.offset, f.type)) 0).bind fun l => if l.length = P.cellsOf t then some l else none
    | _ => none
section
variable {H : Type} {enc : TypeId × Value → H} {P : Program} {w : World} {base : Nat} {spare : Nat → Bool} {held : Bool}
/-- no part of a datum takes more than the reach -/
def Light (P : Program) (t : TypeId) (d : DataW H) : Prop := ∀ n ∈ d.weights P t, n ≤ 140737488351232
theorem weights_mem_all {e : TypeId} : ∀ {ds : List (DataW H)} {d : DataW H}, d ∈ ds → ∀ n ∈ d.weights P e, n ∈ DataW.weightsAll P e ds
  | [], _, h, _, _ => by simp at h
  | x :: r, d, h, n, hn => by
    rw [DataW.weightsAll]
    rcases List.mem_cons.1 h with rfl | h
    · exact List.mem_append_left _ hn
    · exact List.mem_append_right _ (weights_mem_all h n hn)
theorem Light.field {t : TypeId} {fs : Array Field} {xs : List (DataW H)} (hu : P.underlying t = some (.struct fs)) (h : Light P t (.agg xs)) {j : Nat} {f : Field} {d : DataW H} (hf : fs[j]? = some f) (hd : xs[j]? = some d) : Light P f.type d := fun n hn => by
  apply h
  rw [DataW.weights, hu]
  exact DataW.weights_mem_each (j := j) (t := f.type) (by simp [hf]) hd n hn
theorem Light.item {t e : TypeId} {m : Nat} {xs : List (DataW H)} (hu : P.underlying t = some (.array m e)) (h : Light P t (.agg xs)) {d : DataW H} (hd : d ∈ xs) : Light P e d := fun n hn => by
  apply h
  rw [DataW.weights, hu]
  exact weights_mem_all hd n hn
theorem Light.elem {t e : TypeId} {xs ys : List (DataW H)} (hu : P.underlying t = some (.slice e)) (h : Light P t (.slice xs ys)) {d : DataW H} (hd : d ∈ xs) : Light P e d := fun n hn => by
  apply h
  rw [DataW.weights, hu]
  exact List.mem_cons_of_mem _ (List.mem_append_left _ (weights_mem_all hd n hn))
theorem Light.row {t e : TypeId} {xs ys : List (DataW H)} (hu : P.underlying t = some (.slice e)) (h : Light P t (.slice xs ys)) : (xs.length + ys.length) * P.bytesOf e ≤ 140737488351232 := by
  apply h
  rw [DataW.weights, hu]
  exact List.mem_cons_self
theorem Light.str {t : TypeId} {l : List UInt8} (h : Light P t (.lit (.string l) : DataW H)) : l.length ≤ 140737488351232 := by
  apply h
  rw [DataW.weights]
  simp
/-- what is known of such a cell -/
def FKok (enc : TypeId × Value → H) (P : Program) (w : World) (base : Nat) (spare : Nat → Bool) (held : Bool) : FK → Value → Prop
  | .int k, c => ∃ n, c = .int k n ∧ (Lit.int k n).wf = true
  | .str, c => ∃ s : ByteArray, c = .string s ∧ s.size ≤ 140737488351232
  | .bool, c => ∃ b, c = .bool b
  | .sl t, c => ∃ m y, DataW.trod enc P w base spare held m t [c] = some y ∧ Light P t y.1
def AllOk (enc : TypeId × Value → H) (P : Program) (w : World) (base : Nat) (spare : Nat → Bool) (held : Bool) (ks : List FK) (cs : List Value) : Prop :=
  cs.length = ks.length ∧ ∀ (i : Nat) k c, ks[i]? = some k → cs[i]? = some c → FKok enc P w base spare held k c
/-- the same, of what needs no memory -/
def FKp : FK → Value → Prop
  | .int k, c => ∃ n, c = .int k n ∧ (Lit.int k n).wf = true
  | .str, c => ∃ s : ByteArray, c = .string s ∧ s.size ≤ 140737488351232
  | .bool, c => ∃ b, c = .bool b
  | .sl _, _ => True
def FlatOk (ks : List FK) (cs : List Value) : Prop := cs.length = ks.length ∧ ∀ (i : Nat) k c, ks[i]? = some k → cs[i]? = some c → FKp k c
theorem AllOk.flat {ks : List FK} {cs : List Value} (h : AllOk enc P w base spare held ks cs) : FlatOk ks cs :=
  ⟨h.1, fun i k c hk hc => by have := h.2 i k c hk hc; cases k <;> first | exact this | trivial⟩
theorem AllOk.one {k : FK} {c : Value} (h : FKok enc P w base spare held k c) : AllOk enc P w base spare held [k] [c] :=
  ⟨rfl, fun i k' c' hk hc => by
    cases i with
    | zero => simp at hk hc; subst hk; subst hc; exact h
    | succ i => simp at hk⟩
theorem flatAt_open {F : TypeId → Option (List FK)} {m : Nat} {cs : List Value} (IH : ∀ t ks, F t = some ks → ∀ cs' x, DataW.trod enc P w base spare held m t cs' = some x → Light P t x.1 → AllOk enc P w base spare held ks cs') :
    ∀ (ps : List (Nat × TypeId)) (off : Nat) (ks : List FK), flatAt P F ps off = some ks → (∀ q ∈ ps, ∃ y, DataW.trod enc P w base spare held m q.2 ((cs.drop q.1).take (P.cellsOf q.2)) = some y ∧ Light P q.2 y.1) →
      ∀ (i : Nat) k c, ks[i]? = some k → (cs.drop off)[i]? = some c → FKok enc P w base spare held k c := by
  intro ps
  induction ps with
  | nil => intro off ks h _ i k c hk; simp [flatAt] at h; subst h; simp at hk
  | cons q ps ih =>
    intro off ks h hq i k c hk hc
    obtain ⟨o, t⟩ := q
    simp only [flatAt] at h
    split at h
    · rename_i ho
      subst ho
      cases hF : F t with
      | none => simp [hF] at h
      | some l =>
        simp only [hF, Option.bind_some] at h
        split at h
        · rename_i hl
          cases hR : flatAt P F ps (o + l.length) with
          | none => simp [hR] at h
          | some r =>
            simp only [hR, Option.map_some, Option.some.injEq] at h
            subst h
            by_cases hi : i < l.length
            · obtain ⟨y, hy, hy2⟩ := hq (o, t) (by simp)
              have ha := IH t l hF _ _ hy hy2
              refine ha.2 i k c ?_ ?_
              · rw [List.getElem?_append_left hi] at hk; exact hk
              · rw [List.getElem?_take, if_pos (by show i < P.cellsOf t; omega)]; exact hc
            · refine ih (o + l.length) r hR (fun q hq' => hq q (by simp [hq'])) (i - l.length) k c ?_ ?_
              · rw [List.getElem?_append_right (by omega)] at hk; exact hk
              · rw [List.getElem?_drop] at hc ⊢
                rw [show o + l.length + (i - l.length) = o + i from by omega]
                exact hc
        · cases h
    · cases h
theorem flat_open : ∀ (n : Nat) (t : TypeId) (ks : List FK), flat P n t = some ks → ∀ (fuel : Nat) (cs : List Value) x, DataW.trod enc P w base spare held fuel t cs = some x → Light P t x.1 → AllOk enc P w base spare held ks cs := by
  intro n
  induction n with
  | zero => intro t ks h; simp [flat] at h
  | succ n ih =>
    intro t ks h fuel cs x hx hw
    simp only [flat] at h
    split at h
    · rename_i k hu
      simp only [Option.some.injEq] at h; subst h
      obtain ⟨z, rfl, _, hz⟩ := DataW.trod_int hu hx
      exact AllOk.one ⟨z, rfl, hz⟩
    · rename_i hu
      simp only [Option.some.injEq] at h; subst h
      obtain ⟨z, rfl, rfl, hz⟩ := DataW.trod_string hu hx
      exact AllOk.one ⟨z, rfl, by simpa using hw.str⟩
    · rename_i hu
      simp only [Option.some.injEq] at h; subst h
      obtain ⟨z, rfl, _⟩ := DataW.trod_bool hu hx
      exact AllOk.one ⟨z, rfl⟩
    · rename_i e hu
      simp only [Option.some.injEq] at h; subst h
      rcases DataW.trod_slice hu hx with ⟨rfl, _⟩ | ⟨a, len, cap, _, _, _, _, rfl, _⟩
      · exact AllOk.one ⟨_, _, hx, hw⟩
      · exact AllOk.one ⟨_, _, hx, hw⟩
    · rename_i m e hu
      obtain ⟨xs, m', rfl, rfl, hl, hxl, hget⟩ := DataW.trod_array hu hx
      simp only [Option.bind_eq_some_iff] at h
      obtain ⟨l, hf, h⟩ := h
      split at h
      · rename_i hlen
        simp only [Option.some.injEq] at h; subst h
        refine ⟨by rw [hl, hlen], fun i k c hk hc => ?_⟩
        refine flatAt_open (cs := cs) (m := m') (fun t ks h cs' x hx hw => ih t ks h _ cs' x hx hw) _ 0 l hf (fun q hq => ?_) i k c hk (by simpa using hc)
        obtain ⟨j, hj, rfl⟩ := List.mem_map.1 hq
        have hj' := List.mem_range.1 hj
        have hjx := List.getElem?_eq_getElem (l := xs) (i := j) (by omega)
        exact ⟨_, (hget j hj').trans hjx, hw.item hu (List.mem_map.2 ⟨_, List.mem_of_getElem? hjx, rfl⟩)⟩
      · cases h
    · rename_i fs hu
      obtain ⟨xs, m', rfl, rfl, hl, hxl, hget⟩ := DataW.trod_struct hu hx
      simp only [Option.bind_eq_some_iff] at h
      obtain ⟨l, hf, h⟩ := h
      split at h
      · rename_i hlen
        simp only [Option.some.injEq] at h; subst h
        refine ⟨by rw [hl, hlen], fun i k c hk hc => ?_⟩
        refine flatAt_open (cs := cs) (m := m') (fun t ks h cs' x hx hw => ih t ks h _ cs' x hx hw) _ 0 l hf (fun q hq => ?_) i k c hk (by simpa using hc)
        obtain ⟨f, hj, rfl⟩ := List.mem_map.1 hq
        obtain ⟨j, hj'⟩ := List.getElem?_of_mem hj
        have hj2 : fs[j]? = some f := by simpa using hj'
        have hjl : j < fs.size := (Array.getElem?_eq_some_iff.1 hj2).1
        have hjx := List.getElem?_eq_getElem (l := xs) (i := j) (by omega)
        exact ⟨_, (hget j f hj2).trans hjx, hw.field hu hj2 (by rw [List.getElem?_map, hjx]; rfl)⟩
      · cases h
    · cases h
end
/-- a slice that is read: n elements of sz cells each, the cells xs, all below block B -/
def RdC (B sz : Nat) (w : World) (v : Value) (n : Nat) (xs : List Value) : Prop :=
  ∃ a cap, v = .slice a n cap ∧ n ≤ cap ∧ cap ≤ maxLen ∧ xs.length = n * sz ∧ (n = 0 ∨ ∃ b off, a = some ⟨b, off, none⟩ ∧ b < B ∧ ∀ i, i < n * sz → w.cell? ⟨b, off + i, none⟩ = xs[i]?)
theorem RdC.below {B B' sz : Nat} {w w' : World} {v : Value} {n : Nat} {xs : List Value} (h : RdC B sz w v n xs) (hb : Below B' w w') (hB : B ≤ B') : RdC B sz w' v n xs := by
  obtain ⟨a, cap, rfl, hc, hm, hl, h⟩ := h
  refine ⟨a, cap, rfl, hc, hm, hl, ?_⟩
  rcases h with h | ⟨b, off, rfl, hbB, h⟩
  · exact .inl h
  · exact .inr ⟨b, off, rfl, hbB, fun i hi => by rw [hb.cell (show b < B' by omega)]; exact h i hi⟩
theorem RdC.mono {B B' sz : Nat} {w : World} {v : Value} {n : Nat} {xs : List Value} (h : RdC B sz w v n xs) (hB : B ≤ B') : RdC B' sz w v n xs := by
  obtain ⟨a, cap, rfl, hc, hm, hl, h⟩ := h
  refine ⟨a, cap, rfl, hc, hm, hl, ?_⟩
  rcases h with h | ⟨b, off, rfl, hbB, h⟩
  · exact .inl h
  · exact .inr ⟨b, off, rfl, by omega, h⟩
theorem RdC.keep {sz : Nat} {w w' : World} {v : Value} {n : Nat} {xs : List Value} (h : RdC w.heap.size sz w v n xs) (hb : Below w.heap.size w w') : RdC w'.heap.size sz w' v n xs := (h.below hb (Nat.le_refl _)).mono hb.size
/-- a slice that is read as a list, each element's cells by 'f' -/
def RowOf {α : Type} (f : α → List Value) (sz : Nat) (w : World) (v : Value) (l : List α) : Prop := RdC w.heap.size sz w v l.length (l.flatMap f)
theorem flatMap_at {α : Type} {f : α → List Value} {sz : Nat} (hf : ∀ x, (f x).length = sz) : ∀ (l : List α) (i : Nat) (x : α) (j : Nat), l[i]? = some x → j < sz → (l.flatMap f)[i * sz + j]? = (f x)[j]?
  | [], i, x, j, h, _ => by simp at h
  | y :: l, 0, x, j, h, hj => by
    simp at h; subst h
    rw [List.flatMap_cons, Nat.zero_mul, Nat.zero_add, List.getElem?_append_left (by rw [hf]; exact hj)]
  | y :: l, i + 1, x, j, h, hj => by
    rw [List.flatMap_cons, List.getElem?_append_right (by rw [hf, Nat.succ_mul]; omega), hf, Nat.succ_mul, show i * sz + sz + j - sz = i * sz + j from by omega]
    exact flatMap_at hf l i x j (by simpa using h) hj
theorem RowOf.keep {α : Type} {f : α → List Value} {sz : Nat} {w w' : World} {v : Value} {l : List α} (h : RowOf f sz w v l) (hb : Below w.heap.size w w') : RowOf f sz w' v l := RdC.keep h hb
/-- its form, and its cells -/
theorem RowOf.open {α : Type} {f : α → List Value} {sz : Nat} {w : World} {v : Value} {l : List α} (hf : ∀ x, (f x).length = sz) (h : RowOf f sz w v l) :
    ∃ a cap, v = .slice a l.length cap ∧ l.length ≤ cap ∧ cap ≤ maxLen ∧ (l.length = 0 ∨ ∃ b off, a = some ⟨b, off, none⟩ ∧ b < w.heap.size ∧ ∀ (i : Nat) (x : α) (j : Nat), l[i]? = some x → j < sz → w.cell? ⟨b, off + (i * sz + j), none⟩ = (f x)[j]?) := by
  obtain ⟨a, cap, rfl, h1, h2, h3, h4⟩ := h
  refine ⟨a, cap, rfl, h1, h2, ?_⟩
  rcases h4 with h4 | ⟨b, off, rfl, hb, hc⟩
  · exact .inl h4
  · refine .inr ⟨b, off, rfl, hb, fun i x j hx hj => ?_⟩
    have hi : i < l.length := (List.getElem?_eq_some_iff.1 hx).1
    have : (i + 1) * sz ≤ l.length * sz := Nat.mul_le_mul_right _ hi
    rw [Nat.succ_mul] at this
    rw [hc _ (by omega), flatMap_at hf l i x j hx hj]
/-- a list cut into pieces that are all of one kind -/
theorem chunks {α : Type} {f : α → List Value} {G : α → Prop} {sz : Nat} : ∀ (n : Nat) (xs : List Value), xs.length = n * sz → (∀ i, i < n → ∃ y, (xs.drop (i * sz)).take sz = f y ∧ G y) → ∃ ys : List α, ys.length = n ∧ xs = ys.flatMap f ∧ ∀ y ∈ ys, G y := by
  intro n
  induction n with
  | zero => intro xs h _; exact ⟨[], rfl, List.eq_nil_of_length_eq_zero (by omega), fun y hy => by simp at hy⟩
  | succ n ih =>
    intro xs h hy
    obtain ⟨y, h0, g0⟩ := hy 0 (by omega)
    rw [Nat.zero_mul, List.drop_zero] at h0
    rw [Nat.succ_mul] at h
    obtain ⟨ys, hl, hx, hg⟩ := ih (xs.drop sz) (by rw [List.length_drop]; omega) (fun i hi => by
      obtain ⟨z, hz, gz⟩ := hy (i + 1) (by omega)
      exact ⟨z, by rw [List.drop_drop, ← hz]; congr 2; rw [Nat.succ_mul, Nat.add_comm], gz⟩)
    refine ⟨y :: ys, by simp [hl], ?_, by simpa using ⟨g0, hg⟩⟩
    rw [List.flatMap_cons, ← h0, ← hx, List.take_append_drop]
section
variable {H : Type} {enc : TypeId × Value → H} {P : Program} {w : World} {spare : Nat → Bool} {held : Bool}
/-- the datum of an argument is light -/
theorem light_of {ts : List TypeId} {ds : List (DataW H)} (h : (DataW.weightsEach P ts ds).all (· ≤ reachBytes) = true) {j : Nat} {t : TypeId} {d : DataW H} (ht : ts[j]? = some t) (hd : ds[j]? = some d) : Light P t d := fun n hn => by
  have := List.all_eq_true.1 h n (DataW.weights_mem_each ht hd n hn)
  exact of_decide_eq_true this
/-- a slice of flat elements: its cells -/
theorem slice_open {t e : TypeId} {n0 : Nat} {ks : List FK} (ht : P.underlying t = some (.slice e)) (hk : flat P n0 e = some ks) (hc : P.cellsOf e = ks.length) (hsz : 0 < ks.length) {fuel : Nat} {c : Value} {x : DataW H × List MemPlace}
    (h : DataW.trod enc P w 0 spare held fuel t [c] = some x) (hw : Light P t x.1) :
    ∃ n xs, RdC w.heap.size ks.length w c n xs ∧ n * P.bytesOf e ≤ 140737488351232 ∧ ∀ i, i < n → AllOk enc P w 0 spare held ks ((xs.drop (i * ks.length)).take ks.length) := by
  rcases open_slice ht h with ⟨h0, _⟩ | ⟨a, len, cap, m, n, D, Pl, hcs, hb, hl, hm, hmm, hx, hi⟩
  · simp at h0
    exact ⟨0, [], ⟨none, 0, h0, Nat.le_refl _, Nat.zero_le _, by simp, .inl rfl⟩, by simp, fun i hi => absurd hi (Nat.not_lt_zero _)⟩
  · simp at hcs
    have hlm : len ≤ m := by rw [hmm]; split <;> omega
    rw [hx] at hw
    dsimp only at hw
    have hby : len * P.bytesOf e ≤ 140737488351232 := Nat.le_trans (Nat.mul_le_mul_right _ (by simp)) (hw.row ht)
    by_cases h0 : len = 0
    · subst h0
      exact ⟨0, [], ⟨some a, cap, hcs, Nat.zero_le _, hm, by simp, .inl rfl⟩, by simp, fun i hi => absurd hi (Nat.not_lt_zero _)⟩
    -- the cells
    have hcell : ∀ i, i < len → ∃ cs', cs'.length = ks.length ∧ (∀ j, j < ks.length → w.cell? (a.add (i * ks.length + j)) = cs'[j]?) ∧ AllOk enc P w 0 spare held ks cs' := fun i hi' => by
      obtain ⟨cs', h1, h2⟩ := hi i (by omega)
      rw [hc] at h1
      obtain ⟨_, hcl, hat⟩ := World.cells?_some h1
      refine ⟨cs', hcl, fun j hj => ?_, flat_open n0 e ks hk _ _ _ h2 (hw.elem ht (List.mem_map.2 ⟨i, List.mem_range.2 hi', rfl⟩))⟩
      rw [← Go.Deep.add_add, hat j hj]
    have hspot : a.spot = none := by
      obtain ⟨cs', h1, h2, _⟩ := hcell 0 (by omega)
      have h3 := h2 0 hsz
      rw [List.getElem?_eq_getElem (by omega)] at h3
      simpa [Addr.add] using World.cell?_spot h3
    obtain ⟨b, off, spot⟩ := a
    dsimp only at hspot
    subst hspot
    have hblk : b < w.heap.size := by
      obtain ⟨cs', h1, h2, _⟩ := hcell 0 (by omega)
      have h3 := h2 0 hsz
      rw [List.getElem?_eq_getElem (by omega)] at h3
      simpa [Addr.add] using World.block_lt_of_cell? w _ h3
    refine ⟨len, (List.range (len * ks.length)).map fun i => (w.cell? ⟨b, off + i, none⟩).getD undef, ⟨_, cap, hcs, hl, hm, by simp, .inr ⟨b, off, rfl, hblk, fun i hi' => ?_⟩⟩, hby, fun i hi' => ?_⟩
    · have hq : i / ks.length < len := Nat.div_lt_of_lt_mul (by rw [Nat.mul_comm]; exact hi')
      obtain ⟨cs', h1, h2, _⟩ := hcell (i / ks.length) hq
      have h3 := h2 (i % ks.length) (Nat.mod_lt _ hsz)
      rw [Nat.mul_comm, Nat.div_add_mod, Addr.add_lit, List.getElem?_eq_getElem (by rw [h1]; exact Nat.mod_lt _ hsz)] at h3
      rw [List.getElem?_map, List.getElem?_range hi', h3]
      simp [h3]
    · obtain ⟨cs', h1, h2, h3⟩ := hcell i hi'
      have : (((List.range (len * ks.length)).map fun i => (w.cell? ⟨b, off + i, none⟩).getD undef).drop (i * ks.length)).take ks.length = cs' := by
        apply List.ext_getElem?
        intro j
        rw [List.getElem?_take]
        by_cases hj : j < ks.length
        · have hlt : i * ks.length + j < len * ks.length := by
            have : (i + 1) * ks.length ≤ len * ks.length := Nat.mul_le_mul_right _ hi'
            rw [Nat.succ_mul] at this; omega
          have h4 := h2 j hj
          rw [Addr.add_lit, List.getElem?_eq_getElem (by omega)] at h4
          rw [if_pos hj, List.getElem?_drop, List.getElem?_map, List.getElem?_range hlt, List.getElem?_eq_getElem (by omega)]
          simp [h4]
        · rw [if_neg hj, List.getElem?_eq_none (by omega)]
      rw [this]; exact h3
end
end Go.Proofs.Ytndekogkfbhabaa
