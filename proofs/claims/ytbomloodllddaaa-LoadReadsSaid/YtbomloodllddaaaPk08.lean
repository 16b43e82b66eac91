/- What came in, opened to cells: values of flat types, slices of them. No conditions; no program. -/
import Derived.Test.YtbomloodllddaaaPk02
import Derived.OpenShut
import Derived.Deep.Slices
import Derived.Test.YtbomloodllddaaaPk00
namespace Go.Proofs.Ytbomloodllddaaa
open Go.RowKit Go.Deep
/-- what one cell of a flat value is -/
inductive FK where
  | int (k : IntKind)
  | str
  | bool
  | sl (t : TypeId)
  deriving DecidableEq
/-- a list of parts that lie one behind the other, each flat -/
def flatAt (P : Program) (F : TypeId → Option (List FK)) : List (Nat × TypeId) → Nat → Option (List FK)
  | [], _ => some []
  | (off, t) :: r, at' => if off = at' then (F t).bind fun l => if l.length = P.cellsOf t then (flatAt P F r (at' + l.length)).map (l ++ ·) else none else none
/-- a type's cells, if it is flat -/
def flat (P : Program) : Nat → TypeId → Option (List FK)
  | 0, _ => none
  | n + 1, t => match P.underlying t with
    | some (.int k) => some [.int k]
    | some .string => some [.str]
    | some .bool => some [.bool]
    | some (.slice _) => some [.sl t]
    | some (.array m e) => (flatAt P (flat P n) ((List.range m).map fun i => (i * P.cellsOf e, e)) 0).bind fun l => if l.length = P.cellsOf t then some l else none
    | some (.struct fs) => (flatAt P (flat P n) (fs.toList.map fun f => (f.offset, f.type)) 0).bind fun l => if l.length = P.cellsOf t then some l else none
    | _ => none
section
variable {H : Type} {enc : TypeId × Value → H} {P : Program} {w : World} {base : Nat} {spare : Nat → Bool} {held : Bool}
/-- no part of a datum takes more than the reach -/
def Light (P : Program) (t : TypeId) (d : DataW H) : Prop := ∀ n ∈ d.weights P t, n ≤ 140737488351232
theorem weights_mem_all {e : TypeId} : ∀ {ds : List (DataW H)} {d : DataW H}, d ∈ ds → ∀ n ∈ d.weights P e, n ∈ DataW.weightsAll P e ds
  | [], _, h, _, _ => by simp at h
  | x :: r, d, h, n, hn => by
    rw [DataW.weightsAll]
    rcases List.mem_cons.1 h with rfl | h
    · exact List.mem_append_left _ hn
    · exact List.mem_append_right _ (weights_mem_all h n hn)
theorem Light.field {t : TypeId} {fs : Array Field} {xs : List (DataW H)} (hu : P.underlying t = some (.struct fs)) (h : Light P t (.agg xs)) {j : Nat} {f : Field} {d : DataW H} (hf : fs[j]? = some f) (hd : xs[j]? = some d) : Light P f.type d := fun n hn => by
  apply h
  rw [DataW.weights, hu]
  exact DataW.weights_mem_each (j := j) (t := f.type) (by simp [hf]) hd n hn
theorem Light.item {t e : TypeId} {m : Nat} {xs : List (DataW H)} (hu : P.underlying t = some (.array m e)) (h : Light P t (.agg xs)) {d : DataW H} (hd : d ∈ xs) : Light P e d := fun n hn => by
  apply h
  rw [DataW.weights, hu]
  exact weights_mem_all hd n hn
theorem Light.elem {t e : TypeId} {xs ys : List (DataW H)} (hu : P.underlying t = some (.slice e)) (h : Light P t (.slice xs ys)) {d : DataW H} (hd : d ∈ xs) : Light P e d := fun n hn => by
  apply h
  rw [DataW.weights, hu]
  exact List.mem_cons_of_mem _ (List.mem_append_left _ (weights_mem_all hd n hn))
theorem Light.row {t e : TypeId} {xs ys : List (DataW H)} (hu : P.underlying t = some (.slice e)) (h : Light P t (.slice xs ys)) : (xs.length + ys.length) * P.bytesOf e ≤ 140737488351232 := by
  apply h
  rw [DataW.weights, hu]
  exact List.mem_cons_self
theorem Light.str {t : TypeId} {l : List UInt8} (h : Light P t (.lit (.string l) : DataW H)) : l.length ≤ 140737488351232 := by
  apply h
  rw [DataW.weights]
  simp
/-- what is known of such a cell -/
def FKok (enc : TypeId × Value → H) (P : Program) (w : World) (base : Nat) (spare : Nat → Bool) (held : Bool) : FK → Value → Prop
  | .int k, c => ∃ n, c = .int k n ∧ (Lit.int k n).wf = true
  | .str, c => ∃ s : ByteArray, c = .string s ∧ s.size ≤ 140737488351232
  | .bool, c => ∃ b, c = .bool b
  | .sl t, c => ∃ m y, DataW.trod enc P w base spare held m t [c] = some y ∧ Light P t y.1
def AllOk (enc : TypeId × Value → H) (P : Program) (w : World) (base : Nat) (spare : Nat → Bool) (held : Bool) (ks : List FK) (cs : List Value) : Prop :=
  cs.length = ks.length ∧ ∀ (i : Nat) k c, ks[i]? = some k → cs[i]? = some c → FKok enc P w base spare held k c
/-- the same, of what needs no memory -/
def FKp : FK → Value → Prop
  | .int k, c => ∃ n, c = .int k n ∧ (Lit.int k n).wf = true
  | .str, c => ∃ s : ByteArray, c = .string s ∧ s.size ≤ 140737488351232
  | .bool, c => ∃ b, c = .bool b
  | .sl _, _ => True
def FlatOk (ks : List FK) (cs : List Value) : Prop := cs.length = ks.length ∧ ∀ (i : Nat) k c, ks[i]? = some k → cs[i]? = some c → FKp k c
theorem AllOk.flat {ks : List FK} {cs : List Value} (h : AllOk enc P w base spare held ks cs) : FlatOk ks cs :=
  ⟨h.1, fun i k c hk hc => by have := h.2 i k c hk hc; cases k <;> first | exact this | trivial⟩
theorem AllOk.one {k : FK} {c : Value} (h : FKok enc P w base spare held k c) : AllOk enc P w base spare held [k] [c] :=
  ⟨rfl, fun i k' c' hk hc => by
    cases i with
    | zero => simp at hk hc; subst hk; subst hc; exact h
    | succ i => simp at hk⟩
theorem flatAt_open {F : TypeId → Option (List FK)} {m : Nat} {cs : List Value} (IH : ∀ t ks, F t = some ks → ∀ cs' x, DataW.trod enc P w base spare held m t cs' = some x → Light P t x.1 → AllOk enc P w base spare held ks cs') :
    ∀ (ps : List (Nat × TypeId)) (off : Nat) (ks : List FK), flatAt P F ps off = some ks → (∀ q ∈ ps, ∃ y, DataW.trod enc P w base spare held m q.2 ((cs.drop q.1).take (P.cellsOf q.2)) = some y ∧ Light P q.2 y.1) →
      ∀ (i : Nat) k c, ks[i]? = some k → (cs.drop off)[i]? = some c → FKok enc P w base spare held k c := by
  intro ps
  induction ps with
  | nil => intro off ks h _ i k c hk; simp [flatAt] at h; subst h; simp at hk
  | cons q ps ih =>
    intro off ks h hq i k c hk hc
    obtain ⟨o, t⟩ := q
    simp only [flatAt] at h
    split at h
    · rename_i ho
      subst ho
      cases hF : F t with
      | none => simp [hF] at h
      | some l =>
        simp only [hF, Option.bind_some] at h
        split at h
        · rename_i hl
          cases hR : flatAt P F ps (o + l.length) with
          | none => simp [hR] at h
          | some r =>
            simp only [hR, Option.map_some, Option.some.injEq] at h
            subst h
            by_cases hi : i < l.length
            · obtain ⟨y, hy, hy2⟩ := hq (o, t) (by simp)
              have ha := IH t l hF _ _ hy hy2
              refine ha.2 i k c ?_ ?_
              · rw [List.getElem?_append_left hi] at hk; exact hk
              · rw [List.getElem?_take, if_pos (by show i < P.cellsOf t; omega)]; exact hc
            · refine ih (o + l.length) r hR (fun q hq' => hq q (by simp [hq'])) (i - l.length) k c ?_ ?_
              · rw [List.getElem?_append_right (by omega)] at hk; exact hk
              · rw [List.getElem?_drop] at hc ⊢
                rw [show o + l.length + (i - l.length) = o + i from by omega]
                exact hc
        · cases h
    · cases h
theorem flat_open : ∀ (n : Nat) (t : TypeId) (ks : List FK), flat P n t = some ks → ∀ (fuel : Nat) (cs : List Value) x, DataW.trod enc P w base spare held fuel t cs = some x → Light P t x.1 → AllOk enc P w base spare held ks cs := by
  intro n
  induction n with
  | zero => intro t ks h; simp [flat] at h
  | succ n ih =>
    intro t ks h fuel cs x hx hw
    simp only [flat] at h
    split at h
    · rename_i k hu
      simp only [Option.some.injEq] at h; subst h
      obtain ⟨z, rfl, _, hz⟩ := DataW.trod_int hu hx
      exact AllOk.one ⟨z, rfl, hz⟩
    · rename_i hu
      simp only [Option.some.injEq] at h; subst h
      obtain ⟨z, rfl, rfl, hz⟩ := DataW.trod_string hu hx
      exact AllOk.one ⟨z, rfl, by simpa using hw.str⟩
    · rename_i hu
      simp only [Option.some.injEq] at h; subst h
      obtain ⟨z, rfl, _⟩ := DataW.trod_bool hu hx
      exact AllOk.one ⟨z, rfl⟩
    · rename_i e hu
      simp only [Option.some.injEq] at h; subst h
      rcases DataW.trod_slice hu hx with ⟨rfl, _⟩ | ⟨a, len, cap, _, _, _, _, rfl, _⟩
      · exact AllOk.one ⟨_, _, hx, hw⟩
      · exact AllOk.one ⟨_, _, hx, hw⟩
    · rename_i m e hu
      obtain ⟨xs, m', rfl, rfl, hl, hxl, hget⟩ := DataW.trod_array hu hx
      simp only [Option.bind_eq_some_iff] at h
      obtain ⟨l, hf, h⟩ := h
      split at h
      · rename_i hlen
        simp only [Option.some.injEq] at h; subst h
        refine ⟨by rw [hl, hlen], fun i k c hk hc => ?_⟩
        refine flatAt_open (cs := cs) (m := m') (fun t ks h cs' x hx hw => ih t ks h _ cs' x hx hw) _ 0 l hf (fun q hq => ?_) i k c hk (by simpa using hc)
        obtain ⟨j, hj, rfl⟩ := List.mem_map.1 hq
        have hj' := List.mem_range.1 hj
        have hjx := List.getElem?_eq_getElem (l := xs) (i := j) (by omega)
        exact ⟨_, (hget j hj').trans hjx, hw.item hu (List.mem_map.2 ⟨_, List.mem_of_getElem? hjx, rfl⟩)⟩
      · cases h
    · rename_i fs hu
      obtain ⟨xs, m', rfl, rfl, hl, hxl, hget⟩ := DataW.trod_struct hu hx
      simp only [Option.bind_eq_some_iff] at h
      obtain ⟨l, hf, h⟩ := h
      split at h
      · rename_i hlen
        simp only [Option.some.injEq] at h; subst h
        refine ⟨by rw [hl, hlen], fun i k c hk hc => ?_⟩
        refine flatAt_open (cs := cs) (m := m') (fun t ks h cs' x hx hw => ih t ks h _ cs' x hx hw) _ 0 l hf (fun q hq => ?_) i k c hk (by simpa using hc)
        obtain ⟨f, hj, rfl⟩ := List.mem_map.1 hq
        obtain ⟨j, hj'⟩ := List.getElem?_of_mem hj
        have hj2 : fs[j]? = some f := by simpa using hj'
        have hjl : j < fs.size := (Array.getElem?_eq_some_iff.1 hj2).1
        have hjx := List.getElem?_eq_getElem (l := xs) (i := j) (by omega)
        exact ⟨_, (hget j f hj2).trans hjx, hw.field hu hj2 (by rw [List.getElem?_map, hjx]; rfl)⟩
      · cases h
    · cases h
end
/-- a slice that is read: n elements of sz cells each, the cells xs, all below block B -/
def RdC (B sz : Nat) (w : World) (v : Value) (n : Nat) (xs : List Value) : Prop :=
  ∃ a cap, v = .slice a n cap ∧ n ≤ cap ∧ cap ≤ maxLen ∧ xs.length = n * sz ∧ (n = 0 ∨ ∃ b off, a = some ⟨b, off, none⟩ ∧ b < B ∧ ∀ i, i < n * sz → w.cell? ⟨b, off + i, none⟩ = xs[i]?)
theorem RdC.below {B B' sz : Nat} {w w' : World} {v : Value} {n : Nat} {xs : List Value} (h : RdC B sz w v n xs) (hb : Below B' w w') (hB : B ≤ B') : RdC B sz w' v n xs := by
  obtain ⟨a, cap, rfl, hc, hm, hl, h⟩ := h
  refine ⟨a, cap, rfl, hc, hm, hl, ?_⟩
  rcases h with h | ⟨b, off, rfl, hbB, h⟩
  · exact .inl h
  · exact .inr ⟨b, off, rfl, hbB, fun i hi => by rw [hb.cell (show b < B' by omega)]; exact h i hi⟩
theorem RdC.mono {B B' sz : Nat} {w : World} {v : Value} {n : Nat} {xs : List Value} (h : RdC B sz w v n xs) (hB : B ≤ B') : RdC B' sz w v n xs := by
  obtain ⟨a, cap, rfl, hc, hm, hl, h⟩ := h
  refine ⟨a, cap, rfl, hc, hm, hl, ?_⟩
  rcases h with h | ⟨b, off, rfl, hbB, h⟩
  · exact .inl h
  · exact .inr ⟨b, off, rfl, by omega, h⟩
theorem RdC.keep {sz : Nat} {w w' : World} {v : Value} {n : Nat} {xs : List Value} (h : RdC w.heap.size sz w v n xs) (hb : Below w.heap.size w w') : RdC w'.heap.size sz w' v n xs := (h.below hb (Nat.le_refl _)).mono hb.size
/-- a slice that is read as a list, each element's cells by 'f' -/
def RowOf {α : Type} (f : α → List Value) (sz : Nat) (w : World) (v : Value) (l : List α) : Prop := RdC w.heap.size sz w v l.length (l.flatMap f)
theorem flatMap_at {α : Type} {f : α → List Value} {sz : Nat} (hf : ∀ x, (f x).length = sz) : ∀ (l : List α) (i : Nat) (x : α) (j : Nat), l[i]? = some x → j < sz → (l.flatMap f)[i * sz + j]? = (f x)[j]?
  | [], i, x, j, h, _ => by simp at h
  | y :: l, 0, x, j, h, hj => by
    simp at h; subst h
    rw [List.flatMap_cons, Nat.zero_mul, Nat.zero_add, List.getElem?_append_left (by rw [hf]; exact hj)]
  | y :: l, i + 1, x, j, h, hj => by
    rw [List.flatMap_cons, List.getElem?_append_right (by rw [hf, Nat.succ_mul]; omega), hf, Nat.succ_mul, show i * sz + sz + j - sz = i * sz + j from by omega]
    exact flatMap_at hf l i x j (by simpa using h) hj
theorem RowOf.keep {α : Type} {f : α → List Value} {sz : Nat} {w w' : World} {v : Value} {l : List α} (h : RowOf f sz w v l) (hb : Below w.heap.size w w') : RowOf f sz w' v l := RdC.keep h hb
/-- its form, and its cells -/
theorem RowOf.open {α : Type} {f : α → List Value} {sz : Nat} {w : World} {v : Value} {l : List α} (hf : ∀ x, (f x).length = sz) (h : RowOf f sz w v l) :
    ∃ a cap, v = .slice a l.length cap ∧ l.length ≤ cap ∧ cap ≤ maxLen ∧ (l.length = 0 ∨ ∃ b off, a = some ⟨b, off, none⟩ ∧ b < w.heap.size ∧ ∀ (i : Nat) (x : α) (j : Nat), l[i]? = some x → j < sz → w.cell? ⟨b, off + (i * sz + j), none⟩ = (f x)[j]?) := by
  obtain ⟨a, cap, rfl, h1, h2, h3, h4⟩ := h
  refine ⟨a, cap, rfl, h1, h2, ?_⟩
  rcases h4 with h4 | ⟨b, off, rfl, hb, hc⟩
  · exact .inl h4
  · refine .inr ⟨b, off, rfl, hb, fun i x j hx hj => ?_⟩
    have hi : i < l.length := (List.getElem?_eq_some_iff.1 hx).1
    have : (i + 1) * sz ≤ l.length * sz := Nat.mul_le_mul_right _ hi
    rw [Nat.succ_mul] at this
    rw [hc _ (by omega), flatMap_at hf l i x j hx hj]
/-- a list cut into pieces that are all of one kind -/
theorem chunks {α : Type} {f : α → List Value} {G : α → Prop} {sz : Nat} : ∀ (n : Nat) (xs : List Value), xs.length = n * sz → (∀ i, i < n → ∃ y, (xs.drop (i * sz)).take sz = f y ∧ G y) → ∃ ys : List α, ys.length = n ∧ xs = ys.flatMap f ∧ ∀ y ∈ ys, G y := by
  intro n
  induction n with
  | zero => intro xs h _; exact ⟨[], rfl, List.eq_nil_of_length_eq_zero (by omega), fun y hy => by simp at hy⟩
  | succ n ih =>
    intro xs h hy
    obtain ⟨y, h0, g0⟩ := hy 0 (by omega)
    rw [Nat.zero_mul, List.drop_zero] at h0
    rw [Nat.succ_mul] at h
    obtain ⟨ys, hl, hx, hg⟩ := ih (xs.drop sz) (by rw [List.length_drop]; omega) (fun i hi => by
      obtain ⟨z, hz, gz⟩ := hy (i + 1) (by omega)
      exact ⟨z, by rw [List.drop_drop, ← hz]; congr 2; rw [Nat.succ_mul, Nat.add_comm], gz⟩)
    refine ⟨y :: ys, by simp [hl], ?_, by simpa using ⟨g0, hg⟩⟩
    rw [List.flatMap_cons, ← h0, ← hx, List.take_append_drop]
section
variable {H : Type} {enc : TypeId × Value → H} {P : Program} {w : World} {spare : Nat → Bool} {held : Bool}
/-- the datum of an argument is light -/
theorem light_of {ts : List TypeId} {ds : List (DataW H)} (h : (DataW.weightsEach P ts ds).all (· ≤ reachBytes) = true) {j : Nat} {t : TypeId} {d : DataW H} (ht : ts[j]? = some t) (hd : ds[j]? = some d) : Light P t d := fun n hn => by
  have := List.all_eq_true.1 h n (DataW.weights_mem_each ht hd n hn)
  exact of_decide_eq_true this
/-- a slice of flat elements: its cells -/
theorem slice_open {t e : TypeId} {n0 : Nat} {ks : List FK} (ht : P.underlying t = some (.slice e)) (hk : flat P n0 e = some ks) (hc : P.cellsOf e = ks.length) (hsz : 0 < ks.length) {fuel : Nat} {c : Value} {x : DataW H × List MemPlace}
    (h : DataW.trod enc P w 0 spare held fuel t [c] = some x) (hw : Light P t x.1) :
    ∃ n xs, RdC w.heap.size ks.length w c n xs ∧ n * P.bytesOf e ≤ 140737488351232 ∧ ∀ i, i < n → AllOk enc P w 0 spare held ks ((xs.drop (i * ks.length)).take ks.length) := by
  rcases open_slice ht h with ⟨h0, _⟩ | ⟨a, len, cap, m, n, D, Pl, hcs, hb, hl, hm, hmm, hx, hi⟩
  · simp at h0
    exact ⟨0, [], ⟨none, 0, h0, Nat.le_refl _, Nat.zero_le _, by simp, .inl rfl⟩, by simp, fun i hi => absurd hi (Nat.not_lt_zero _)⟩
  · simp at hcs
    have hlm : len ≤ m := by rw [hmm]; split <;> omega
    rw [hx] at hw
    dsimp only at hw
    have hby : len * P.bytesOf e ≤ 140737488351232 := Nat.le_trans (Nat.mul_le_mul_right _ (by simp)) (hw.row ht)
    by_cases h0 : len = 0
    · subst h0
      exact ⟨0, [], ⟨some a, cap, hcs, Nat.zero_le _, hm, by simp, .inl rfl⟩, by simp, fun i hi => absurd hi (Nat.not_lt_zero _)⟩
    -- the cells
    have hcell : ∀ i, i < len → ∃ cs', cs'.length = ks.length ∧ (∀ j, j < ks.length → w.cell? (a.add (i * ks.length + j)) = cs'[j]?) ∧ AllOk enc P w 0 spare held ks cs' := fun i hi' => by
      obtain ⟨cs', h1, h2⟩ := hi i (by omega)
      rw [hc] at h1
      obtain ⟨_, hcl, hat⟩ := World.cells?_some h1
      refine ⟨cs', hcl, fun j hj => ?_, flat_open n0 e ks hk _ _ _ h2 (hw.elem ht (List.mem_map.2 ⟨i, List.mem_range.2 hi', rfl⟩))⟩
      rw [← Go.Deep.add_add, hat j hj]
    have hspot : a.spot = none := by
      obtain ⟨cs', h1, h2, _⟩ := hcell 0 (by omega)
      have h3 := h2 0 hsz
      rw [List.getElem?_eq_getElem (by omega)] at h3
      simpa [Addr.add] using World.cell?_spot h3
    obtain ⟨b, off, spot⟩ := a
    dsimp only at hspot
    subst hspot
    have hblk : b < w.heap.size := by
      obtain ⟨cs', h1, h2, _⟩ := hcell 0 (by omega)
      have h3 := h2 0 hsz
      rw [List.getElem?_eq_getElem (by omega)] at h3
      simpa [Addr.add] using World.block_lt_of_cell? w _ h3
    refine ⟨len, (List.range (len * ks.length)).map fun i => (w.cell? ⟨b, off + i, none⟩).getD undef, ⟨_, cap, hcs, hl, hm, by simp, .inr ⟨b, off, rfl, hblk, fun i hi' => ?_⟩⟩, hby, fun i hi' => ?_⟩
    · have hq : i / ks.length < len := Nat.div_lt_of_lt_mul (by rw [Nat.mul_comm]; exact hi')
      obtain ⟨cs', h1, h2, _⟩ := hcell (i / ks.length) hq
      have h3 := h2 (i % ks.length) (Nat.mod_lt _ hsz)
      rw [Nat.mul_comm, Nat.div_add_mod, Addr.add_lit, List.getElem?_eq_getElem (by rw [h1]; exact Nat.mod_lt _ hsz)] at h3
      rw [List.getElem?_map, List.getElem?_range hi', h3]
      simp [h3]
    · obtain ⟨cs', h1, h2, h3⟩ := hcell i hi'
      have : (((List.range (len * ks.length)).map fun i => (w.cell? ⟨b, off + i, none⟩).getD undef).drop (i * ks.length)).take ks.length = cs' := by
        apply List.ext_getElem?
        intro j
        rw [List.getElem?_take]
        by_cases hj : j < ks.length
        · have hlt : i * ks.length + j < len * ks.length := by
            have : (i + 1) * ks.length ≤ len * ks.length := Nat.mul_le_mul_right _ hi'
            rw [Nat.succ_mul] at this; omega
          have h4 := h2 j hj
          rw [Addr.add_lit, List.getElem?_eq_getElem (by omega)] at h4
          rw [if_pos hj, List.getElem?_drop, List.getElem?_map, List.getElem?_range hlt, List.getElem?_eq_getElem (by omega)]
          simp [h4]
        · rw [if_neg hj, List.getElem?_eq_none (by omega)]
      rw [this]; exact h3
end
end Go.Proofs.Ytbomloodllddaaa
/- Plain laws: instructions, their fields' letters, which may be. No conditions; no program. -/
namespace Go.Proofs.Ytbomloodllddaaa
/-- an operation's letters (the program's) -/
def letr : Nat → List Nat
  | 2 => [114, 110] | 3 => [114, 82] | 4 => [64] | 5 => [114, 110, 64] | 6 => [114, 110, 64] | 7 => [114, 64] | 8 => [114, 82, 116] | 9 => [109] | 10 => [109]
  | 11 => [109, 64] | 12 => [114] | 13 => [114, 82] | 15 => [114] | 17 => [114] | _ => []
/-- the reference's letter for the program's -/
def rlet (x : Nat) : Nat := if x = 114 then 97 else if x = 82 then 98 else if x = 109 then 107 else if x = 110 then 110 else if x = 64 then 112 else 116
def IsL (x : Nat) : Prop := x = 114 ∨ x = 109 ∨ x = 82 ∨ x = 110 ∨ x = 64 ∨ x = 116
/-- where a letter's value stands, its bound -/
def pos (x : Nat) : Nat := if x = 114 ∨ x = 109 then 1 else if x = 82 ∨ x = 110 then 2 else if x = 64 then 3 else 4
def mst (x : Nat) : Nat := if x = 114 ∨ x = 82 then 7 else if x = 109 then 1 else if x = 110 then 1073741824 else if x = 64 then 4095 else 15
theorem pos_ge (x : Nat) : 1 ≤ pos x ∧ pos x ≤ 4 := by unfold pos; split <;> (try split) <;> (try split) <;> omega
theorem mst_le (x : Nat) : mst x ≤ 1073741824 := by unfold mst; split <;> (try split) <;> (try split) <;> (try split) <;> omega
theorem letr_is (o : Nat) : ∀ x ∈ letr o, IsL x := by
  unfold letr IsL
  split <;> simp
theorem letr_none {o : Nat} (h : o < 1 ∨ 17 < o) : letr o = [] := by
  unfold letr
  split <;> first | rfl | omega
theorem letr_len (o : Nat) : (letr o).length ≤ 3 := by unfold letr; split <;> simp
theorem letr_lt {o x : Nat} (h : x ∈ letr o) : x < 128 := by
  have := letr_is o x h; unfold IsL at this; omega
/-- an instruction as a value -/
abbrev vI (v : Nat → Int) : Value := .agg #[.int .i64 (v 0), .int .i64 (v 1), .int .i64 (v 2), .int .i64 (v 3), .int .i64 (v 4)]
abbrev ic (v : Nat → Int) : Array Value := #[.int .i64 (v 0), .int .i64 (v 1), .int .i64 (v 2), .int .i64 (v 3), .int .i64 (v 4)]
/-- an instruction with nothing but its operation and what some letters say -/
def bar (v : Nat → Int) (l : List Nat) : Nat → Int := fun j => if j = 0 ∨ j ∈ l.map pos then v j else 0
theorem bar_nil0 (v : Nat → Int) : bar v [] 0 = v 0 := by simp [bar]
theorem bar_nil (v : Nat → Int) {j : Nat} (h : j ≠ 0) : bar v [] j = 0 := by simp [bar, h]
theorem bar_snoc (v : Nat → Int) (l : List Nat) (x j : Nat) : bar v (l ++ [x]) j = if j = pos x then v j else bar v l j := by
  unfold bar
  by_cases h : j = pos x
  · simp [h]
  · simp [h]
def upd (u : Nat → Int) (p : Nat) (a : Int) : Nat → Int := fun j => if j = p then a else u j
/-- a letter's value is in its bounds -/
def inb (v : Nat → Int) (x : Nat) : Bool := decide (0 ≤ v (pos x)) && decide (v (pos x) ≤ (mst x : Int))
/-- may an instruction be? -/
def okI (v : Nat → Int) : Bool := decide (1 ≤ v 0) && decide (v 0 ≤ 17) && ((letr (v 0).toNat).all (inb v) && (bar v (letr (v 0).toNat) 1 == v 1 && (bar v (letr (v 0).toNat) 2 == v 2 && (bar v (letr (v 0).toNat) 3 == v 3 && bar v (letr (v 0).toNat) 4 == v 4))))
/-- its fields, as a text of bytes -/
def bsT (l : List Nat) : ByteArray := ⟨(l.map u8).toArray⟩
theorem bsT_size (l : List Nat) : (bsT l).size = l.length := by show ((l.map u8).toArray).size = _; simp
theorem bsT_get (l : List Nat) (k : Nat) (h : k < (bsT l).size) (hk : k < l.length) (hl : ∀ x ∈ l, x < 256) : ((bsT l)[k]'h).toNat = l[k] := by
  have e : (bsT l)[k]'h = (l.map u8).toArray[k]'(by simpa using hk) := rfl
  rw [e, List.getElem_toArray, List.getElem_map]
  have := hl _ (List.getElem_mem hk)
  simp [u8]; omega
/-- an operation's word -/
def wrd : Nat → List Nat
  | 1 => [104, 97, 108, 116] | 2 => [108, 111, 97, 100] | 3 => [109, 111, 118, 101] | 4 => [106, 117, 109, 112] | 5 => [115, 97, 109, 101] | 6 => [108, 101, 115, 115] | 7 => [110, 101, 120, 116] | 8 => [108, 111, 111, 107] | 9 => [109, 97, 114, 107] | 10 => [98, 97, 99, 107] | 11 => [104, 101, 114, 101] | 12 => [99, 111, 112, 121] | 13 => [116, 101, 120, 116] | 14 => [116, 117, 114, 110] | 15 => [115, 105, 103, 110] | 16 => [106, 111, 105, 110] | 17 => [101, 109, 105, 116] | _ => []
/-- a field's sign in a line -/
def sgn (x : Nat) : List Nat := if x = 114 ∨ x = 82 then [114] else if x = 109 then [109] else if x = 64 then [64] else if x = 116 then [116] else []
end Go.Proofs.Ytbomloodllddaaa
/- Plain laws: instructions read from bytes (P21.2). No conditions; no program. -/
namespace Go.Proofs.Ytbomloodllddaaa
/-- an instruction with an operation alone -/
def opI (o : Int) : Nat → Int := fun j => if j = 0 then o else 0
/-- fields of an instruction: the error, the instruction, the place behind it -/
def flds (t : List UInt8) : List Nat → (Nat → Int) → Int → Int × (Nat → Int) × Int
  | [], v, a => (0, v, a)
  | x :: l, v, a => if (vget t a).2.2 ≠ 0 then ((vget t a).2.2, v, a) else if mst x < (vget t a).1 then (210, v, a) else flds t l (upd v (pos x) ((vget t a).1 : Nat)) (vget t a).2.1
def ins1 (t : List UInt8) (a : Int) : Int × (Nat → Int) × Int :=
  if (vget t a).2.2 ≠ 0 then ((vget t a).2.2, opI 0, a) else if (vget t a).1 < 1 ∨ 17 < (vget t a).1 then (210, opI 0, a) else flds t (letr (vget t a).1) (opI ((vget t a).1 : Nat)) (vget t a).2.1
def many (t : List UInt8) : Nat → Int → List (Nat → Int) → Int × List (Nat → Int) × Int
  | 0, a, acc => (0, acc, a)
  | n + 1, a, acc => if (ins1 t a).1 ≠ 0 then ((ins1 t a).1, [], a) else many t n (ins1 t a).2.2 (acc ++ [(ins1 t a).2.1])
def getI2 (len e1 : Int) (n : Nat) (m : Int × List (Nat → Int) × Int) : Int × List (Nat → Int) :=
  if e1 ≠ 0 then (e1, []) else if 4096 < n then (2, []) else if m.1 ≠ 0 then (m.1, []) else if m.2.2 ≠ len then (210, []) else (0, m.2.1)
/-- what Get tells: the error, the instructions -/
def getI (t : List UInt8) : Int × List (Nat → Int) := getI2 t.length (vget t 0).2.2 (vget t 0).1 (many t (vget t 0).1 (vget t 0).2.1 [])
theorem flds_bad {t : List UInt8} {x : Nat} {l : List Nat} {v : Nat → Int} {a : Int} {e : Int} (h : (vget t a).2.2 = e) (he : e ≠ 0) : (flds t (x :: l) v a).1 = e := by
  rw [flds, if_pos (by rw [h]; exact he)]; exact h
theorem flds_most {t : List UInt8} {x : Nat} {l : List Nat} {v : Nat → Int} {a : Int} (h : (vget t a).2.2 = 0) (hm : mst x < (vget t a).1) : (flds t (x :: l) v a).1 = 210 := by
  rw [flds, if_neg (by rw [h]; simp), if_pos hm]
theorem flds_on {t : List UInt8} {x : Nat} {l : List Nat} {v : Nat → Int} {a : Int} (h : (vget t a).2.2 = 0) (hm : ¬ mst x < (vget t a).1) : flds t (x :: l) v a = flds t l (upd v (pos x) ((vget t a).1 : Nat)) (vget t a).2.1 := by
  rw [flds, if_neg (by rw [h]; simp), if_neg hm]
theorem ins1_bad {t : List UInt8} {a e : Int} (h : (vget t a).2.2 = e) (he : e ≠ 0) : (ins1 t a).1 = e := by
  unfold ins1; rw [if_pos (by rw [h]; exact he)]; exact h
theorem ins1_op {t : List UInt8} {a : Int} (h : (vget t a).2.2 = 0) (ho : (vget t a).1 < 1 ∨ 17 < (vget t a).1) : (ins1 t a).1 = 210 := by
  unfold ins1; rw [if_neg (by rw [h]; simp), if_pos ho]
theorem ins1_on {t : List UInt8} {a : Int} (h : (vget t a).2.2 = 0) (h1 : 1 ≤ (vget t a).1) (h2 : (vget t a).1 ≤ 17) : ins1 t a = flds t (letr (vget t a).1) (opI ((vget t a).1 : Nat)) (vget t a).2.1 := by
  unfold ins1; rw [if_neg (by rw [h]; simp), if_neg (by omega)]
theorem many_bad {t : List UInt8} {n : Nat} {a e : Int} {acc : List (Nat → Int)} (h : (ins1 t a).1 = e) (he : e ≠ 0) : (many t (n + 1) a acc).1 = e := by
  rw [many, if_pos (by rw [h]; exact he)]; exact h
theorem many_on {t : List UInt8} {n : Nat} {a : Int} {acc : List (Nat → Int)} (h : (ins1 t a).1 = 0) : many t (n + 1) a acc = many t n (ins1 t a).2.2 (acc ++ [(ins1 t a).2.1]) := by
  rw [many, if_neg (by rw [h]; simp)]
theorem getI2_bad {len e : Int} {n : Nat} {m : Int × List (Nat → Int) × Int} (he : e ≠ 0) : getI2 len e n m = (e, []) := by unfold getI2; rw [if_pos he]
theorem getI2_long {len : Int} {n : Nat} {m : Int × List (Nat → Int) × Int} (h : 4096 < n) : getI2 len 0 n m = (2, []) := by unfold getI2; rw [if_neg (by simp), if_pos h]
theorem getI2_many {len e : Int} {n : Nat} {m : Int × List (Nat → Int) × Int} (h : ¬ 4096 < n) (he : m.1 = e) (h0 : e ≠ 0) : getI2 len 0 n m = (e, []) := by unfold getI2; rw [if_neg (by simp), if_neg h, if_pos (by rw [he]; exact h0), he]
theorem getI2_end {len b : Int} {n : Nat} {l : List (Nat → Int)} (h : ¬ 4096 < n) : getI2 len 0 n (0, l, b) = if b ≠ len then (210, []) else (0, l) := by unfold getI2; rw [if_neg (by simp), if_neg h, if_neg (by simp)]
theorem getI_bad {t : List UInt8} {e : Int} (h : (vget t 0).2.2 = e) (he : e ≠ 0) : getI t = (e, []) := by
  unfold getI; rw [h]; exact getI2_bad he
theorem getI_long {t : List UInt8} (h : (vget t 0).2.2 = 0) (hl : 4096 < (vget t 0).1) : getI t = (2, []) := by
  unfold getI; rw [h]; exact getI2_long hl
theorem getI_many {t : List UInt8} {n : Nat} {a e : Int} (h : (vget t 0).2.2 = 0) (hl : ¬ 4096 < n) (hn : n = (vget t 0).1) (ha : a = (vget t 0).2.1) (he : (many t n a []).1 = e) (h0 : e ≠ 0) : getI t = (e, []) := by
  unfold getI; rw [h, ← hn, ← ha]; exact getI2_many hl he h0
theorem getI_end {t : List UInt8} {n : Nat} {a b : Int} {l : List (Nat → Int)} (h : (vget t 0).2.2 = 0) (hl : ¬ 4096 < n) (hn : n = (vget t 0).1) (ha : a = (vget t 0).2.1) (he : many t n a [] = (0, l, b)) : getI t = if b ≠ (t.length : Int) then (210, []) else (0, l) := by
  unfold getI; rw [h, ← hn, ← ha, he]; exact getI2_end hl
/-- an instruction's cells -/
def icL (v : Nat → Int) : List Value := [.int .i64 (v 0), .int .i64 (v 1), .int .i64 (v 2), .int .i64 (v 3), .int .i64 (v 4)]
theorem icL_len (v : Nat → Int) : (icL v).length = 5 := rfl
end Go.Proofs.Ytbomloodllddaaa
