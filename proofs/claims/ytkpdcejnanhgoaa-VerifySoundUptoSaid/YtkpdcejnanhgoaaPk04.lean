/- What came in, opened to cells: values of flat types, slices of them. No conditions; no program. -/
import Derived.Test.YtkpdcejnanhgoaaPk01
import Derived.OpenShut
import Derived.Deep.Slices
import Derived.Test.YtkpdcejnanhgoaaPk00
namespace Go.Proofs.Ytkpdcejnanhgoaa
open Go.RowKit Go.Deep
/-- what one cell of a flat value is -/
inductive FK where
  | int (k : IntKind)
  | str
  | bool
  | sl (t : TypeId)
  deriving DecidableEq
/-- a list of parts that lie one behind the other, each flat -/
def flatAt (P : Program) (F : TypeId → Option (List FK)) : List (Nat × TypeId) → Nat → Option (List FK)
  | [], _ => some []
  | (off, t) :: r, at' => if off = at' then (F t).bind fun l => if l.length = P.cellsOf t then (flatAt P F r (at' + l.length)).map (l ++ ·) else none else none
/-- a type's cells, if it is flat -/
def flat (P : Program) : Nat → TypeId → Option (List FK)
  | 0, _ => none
  | n + 1, t => match P.underlying t with
    | some (.int k) => some [.int k]
    | some .string => some [.str]
    | some .bool => some [.bool]
    | some (.slice _) => some [.sl t]
    | some (.array m e) => (flatAt P (flat P n) ((List.range m).map fun i => (i * P.cellsOf e, e)) 0).bind fun l => if l.length = P.cellsOf t then some l else none
    | some (.struct fs) => (flatAt P (flat P n) (fs.toList.map fun f => (f.offset, f.type)) 0).bind fun l => if l.length = P.cellsOf t then some l else none
    | _ => none
section
variable {H : Type} {enc : TypeId × Value → H} {P : Program} {w : World} {base : Nat} {spare : Nat → Bool} {held : Bool}
/-- no part of a datum takes more than the reach -/
def Light (P : Program) (t : TypeId) (d : DataW H) : Prop := ∀ n ∈ d.weights P t, n ≤ 140737488351232
theorem weights_mem_all {e : TypeId} : ∀ {ds : List (DataW H)} {d : DataW H}, d ∈ ds → ∀ n ∈ d.weights P e, n ∈ DataW.weightsAll P e ds
  | [], _, h, _, _ => by simp at h
  | x :: r, d, h, n, hn => by
    rw [DataW.weightsAll]
    rcases List.mem_cons.1 h with rfl | h
    · exact List.mem_append_left _ hn
    · exact List.mem_append_right _ (weights_mem_all h n hn)
theorem Light.field {t : TypeId} {fs : Array Field} {xs : List (DataW H)} (hu : P.underlying t = some (.struct fs)) (h : Light P t (.agg xs)) {j : Nat} {f : Field} {d : DataW H} (hf : fs[j]? = some f) (hd : xs[j]? = some d) : Light P f.type d := fun n hn => by
  apply h
  rw [DataW.weights, hu]
  exact DataW.weights_mem_each (j := j) (t := f.type) (by simp [hf]) hd n hn
theorem Light.item {t e : TypeId} {m : Nat} {xs : List (DataW H)} (hu : P.underlying t = some (.array m e)) (h : Light P t (.agg xs)) {d : DataW H} (hd : d ∈ xs) : Light P e d := fun n hn => by
  apply h
  rw [DataW.weights, hu]
  exact weights_mem_all hd n hn
theorem Light.elem {t e : TypeId} {xs ys : List (DataW H)} (hu : P.underlying t = some (.slice e)) (h : Light P t (.slice xs ys)) {d : DataW H} (hd : d ∈ xs) : Light P e d := fun n hn => by
  apply h
  rw [DataW.weights, hu]
  exact List.mem_cons_of_mem _ (List.mem_append_left _ (weights_mem_all hd n hn))
theorem Light.row {t e : TypeId} {xs ys : List (DataW H)} (hu : P.underlying t = some (.slice e)) (h : Light P t (.slice xs ys)) : (xs.length + ys.length) * P.bytesOf e ≤ 140737488351232 := by
  apply h
  rw [DataW.weights, hu]
  exact List.mem_cons_self
theorem Light.str {t : TypeId} {l : List UInt8} (h : Light P t (.lit (.string l) : DataW H)) : l.length ≤ 140737488351232 := by
  apply h
  rw [DataW.weights]
  simp
/-- what is known of such a cell -/
def FKok (enc : TypeId × Value → H) (P : Program) (w : World) (base : Nat) (spare : Nat → Bool) (held : Bool) : FK → Value → Prop
  | .int k, c => ∃ n, c = .int k n ∧ (Lit.int k n).wf = true
  | .str, c => ∃ s : ByteArray, c = .string s ∧ s.size ≤ 140737488351232
  | .bool, c => ∃ b, c = .bool b
  | .sl t, c => ∃ m y, DataW.trod enc P w base spare held m t [c] = some y ∧ Light P t y.1
def AllOk (enc : TypeId × Value → H) (P : Program) (w : World) (base : Nat) (spare : Nat → Bool) (held : Bool) (ks : List FK) (cs : List Value) : Prop :=
  cs.length = ks.length ∧ ∀ (i : Nat) k c, ks[i]? = some k → cs[i]? = some c → FKok enc P w base spare held k c
/-- the same, of what needs no memory -/
def FKp : FK → Value → Prop
  | .int k, c => ∃ n, c = .int k n ∧ (Lit.int k n).wf = true
  | .str, c => ∃ s : ByteArray, c = .string s ∧ s.size ≤ 140737488351232
  | .bool, c => ∃ b, c = .bool b
  | .sl _, _ => True
def FlatOk (ks : List FK) (cs : List Value) : Prop := cs.length = ks.length ∧ ∀ (i : Nat) k c, ks[i]? = some k → cs[i]? = some c → FKp k c
theorem AllOk.flat {ks : List FK} {cs : List Value} (h : AllOk enc P w base spare held ks cs) : FlatOk ks cs :=
  ⟨h.1, fun i k c hk hc => by have := h.2 i k c hk hc; cases k <;> first | exact this | trivial⟩
theorem AllOk.one {k : FK} {c : Value} (h : FKok enc P w base spare held k c) : AllOk enc P w base spare held [k] [c] :=
  ⟨rfl, fun i k' c' hk hc => by
    cases i with
    | zero => simp at hk hc; subst hk; subst hc; exact h
    | succ i => simp at hk⟩
theorem flatAt_open {F : TypeId → Option (List FK)} {m : Nat} {cs : List Value} (IH : ∀ t ks, F t = some ks → ∀ cs' x, DataW.trod enc P w base spare held m t cs' = some x → Light P t x.1 → AllOk enc P w base spare held ks cs') :
    ∀ (ps : List (Nat × TypeId)) (off : Nat) (ks : List FK), flatAt P F ps off = some ks → (∀ q ∈ ps, ∃ y, DataW.trod enc P w base spare held m q.2 ((cs.drop q.1).take (P.cellsOf q.2)) = some y ∧ Light P q.2 y.1) →
      ∀ (i : Nat) k c, ks[i]? = some k → (cs.drop off)[i]? = some c → FKok enc P w base spare held k c := by
  intro ps
  induction ps with
  | nil => intro off ks h _ i k c hk; simp [flatAt] at h; subst h; simp at hk
  | cons q ps ih =>
    intro off ks h hq i k c hk hc
    obtain ⟨o, t⟩ := q
    simp only [flatAt] at h
    split at h
    · rename_i ho
      subst ho
      cases hF : F t with
      | none => simp [hF] at h
      | some l =>
        simp only [hF, Option.bind_some] at h
        split at h
        · rename_i hl
          cases hR : flatAt P F ps (o + l.length) with
          | none => simp [hR] at h
          | some r =>
            simp only [hR, Option.map_some, Option.some.injEq] at h
            subst h
            by_cases hi : i < l.length
            · obtain ⟨y, hy, hy2⟩ := hq (o, t) (by simp)
              have ha := IH t l hF _ _ hy hy2
              refine ha.2 i k c ?_ ?_
              · rw [List.getElem?_append_left hi] at hk; exact hk
              · rw [List.getElem?_take, if_pos (by show i < P.cellsOf t; omega)]; exact hc
            · refine ih (o + l.length) r hR (fun q hq' => hq q (by simp [hq'])) (i - l.length) k c ?_ ?_
              · rw [List.getElem?_append_right (by omega)] at hk; exact hk
              · rw [List.getElem?_drop] at hc ⊢
                rw [show o + l.length + (i - l.length) = o + i from by omega]
                exact hc
        · cases h
    · cases h
theorem flat_open : ∀ (n : Nat) (t : TypeId) (ks : List FK), flat P n t = some ks → ∀ (fuel : Nat) (cs : List Value) x, DataW.trod enc P w base spare held fuel t cs = some x → Light P t x.1 → AllOk enc P w base spare held ks cs := by
  intro n
  induction n with
  | zero => intro t ks h; simp [flat] at h
  | succ n ih =>
    intro t ks h fuel cs x hx hw
    simp only [flat] at h
    split at h
    · rename_i k hu
      simp only [Option.some.injEq] at h; subst h
      obtain ⟨z, rfl, _, hz⟩ := DataW.trod_int hu hx
      exact AllOk.one ⟨z, rfl, hz⟩
    · rename_i hu
      simp only [Option.some.injEq] at h; subst h
      obtain ⟨z, rfl, rfl, hz⟩ := DataW.trod_string hu hx
      exact AllOk.one ⟨z, rfl, by simpa using hw.str⟩
    · rename_i hu
      simp only [Option.some.injEq] at h; subst h
      obtain ⟨z, rfl, _⟩ := DataW.trod_bool hu hx
      exact AllOk.one ⟨z, rfl⟩
    · rename_i e hu
      simp only [Option.some.injEq] at h; subst h
      rcases DataW.trod_slice hu hx with ⟨rfl, _⟩ | ⟨a, len, cap, _, _, _, _, rfl, _⟩
      · exact AllOk.one ⟨_, _, hx, hw⟩
      · exact AllOk.one ⟨_, _, hx, hw⟩
    · rename_i m e hu
      obtain ⟨xs, m', rfl, rfl, hl, hxl, hget⟩ := DataW.trod_array hu hx
      simp only [Option.bind_eq_some_iff] at h
      obtain ⟨l, hf, h⟩ := h
      split at h
      · rename_i hlen
        simp only [Option.some.injEq] at h; subst h
        refine ⟨by rw [hl, hlen], fun i k c hk hc => ?_⟩
        refine flatAt_open (cs := cs) (m := m') (fun t ks h cs' x hx hw => ih t ks h _ cs' x hx hw) _ 0 l hf (fun q hq => ?_) i k c hk (by simpa using hc)
        obtain ⟨j, hj, rfl⟩ := List.mem_map.1 hq
        have hj' := List.mem_range.1 hj
        have hjx := List.getElem?_eq_getElem (l := xs) (i := j) (by omega)
        exact ⟨_, (hget j hj').trans hjx, hw.item hu (List.mem_map.2 ⟨_, List.mem_of_getElem? hjx, rfl⟩)⟩
      · cases h
    · rename_i fs hu
      obtain ⟨xs, m', rfl, rfl, hl, hxl, hget⟩ := DataW.trod_struct hu hx
      simp only [Option.bind_eq_some_iff] at h
      obtain ⟨l, hf, h⟩ := h
      split at h
      · rename_i hlen
        simp only [Option.some.injEq] at h; subst h
        refine ⟨by rw [hl, hlen], fun i k c hk hc => ?_⟩
        refine flatAt_open (cs := cs) (m := m') (fun t ks h cs' x hx hw => ih t ks h _ cs' x hx hw) _ 0 l hf (fun q hq => ?_) i k c hk (by simpa using hc)
        obtain ⟨f, hj, rfl⟩ := List.mem_map.1 hq
        obtain ⟨j, hj'⟩ := List.getElem?_of_mem hj
        have hj2 : fs[j]? = some f := by simpa using hj'
        have hjl : j < fs.size := (Array.getElem?_eq_some_iff.1 hj2).1
        have hjx := List.getElem?_eq_getElem (l := xs) (i := j) (by omega)
        exact ⟨_, (hget j f hj2).trans hjx, hw.field hu hj2 (by rw [List.getElem?_map, hjx]; rfl)⟩
      · cases h
    · cases h
end
/-- a slice that is read: n elements of sz cells each, the cells xs, all below block B -/
def RdC (B sz : Nat) (w : World) (v : Value) (n : Nat) (xs : List Value) : Prop :=
  ∃ a cap, v = .slice a n cap ∧ n ≤ cap ∧ cap ≤ maxLen ∧ xs.length = n * sz ∧ (n = 0 ∨ ∃ b off, a = some ⟨b, off, none⟩ ∧ b < B ∧ ∀ i, i < n * sz → w.cell? ⟨b, off + i, none⟩ = xs[i]?)
theorem RdC.below {B B' sz : Nat} {w w' : World} {v : Value} {n : Nat} {xs : List Value} (h : RdC B sz w v n xs) (hb : Below B' w w') (hB : B ≤ B') : RdC B sz w' v n xs := by
  obtain ⟨a, cap, rfl, hc, hm, hl, h⟩ := h
  refine ⟨a, cap, rfl, hc, hm, hl, ?_⟩
  rcases h with h | ⟨b, off, rfl, hbB, h⟩
  · exact .inl h
  · exact .inr ⟨b, off, rfl, hbB, fun i hi => by rw [hb.cell (show b < B' by omega)]; exact h i hi⟩
theorem RdC.mono {B B' sz : Nat} {w : World} {v : Value} {n : Nat} {xs : List Value} (h : RdC B sz w v n xs) (hB : B ≤ B') : RdC B' sz w v n xs := by
  obtain ⟨a, cap, rfl, hc, hm, hl, h⟩ := h
  refine ⟨a, cap, rfl, hc, hm, hl, ?_⟩
  rcases h with h | ⟨b, off, rfl, hbB, h⟩
  · exact .inl h
  · exact .inr ⟨b, off, rfl, by omega, h⟩
theorem RdC.keep {sz : Nat} {w w' : World} {v : Value} {n : Nat} {xs : List Value} (h : RdC w.heap.size sz w v n xs) (hb : Below w.heap.size w w') : RdC w'.heap.size sz w' v n xs := (h.below hb (Nat.le_refl _)).mono hb.size
/-- a slice that is read as a list, each element's cells by 'f' -/
def RowOf {α : Type} (f : α → List Value) (sz : Nat) (w : World) (v : Value) (l : List α) : Prop := RdC w.heap.size sz w v l.length (l.flatMap f)
theorem flatMap_at {α : Type} {f : α → List Value} {sz : Nat} (hf : ∀ x, (f x).length = sz) : ∀ (l : List α) (i : Nat) (x : α) (j : Nat), l[i]? = some x → j < sz → (l.flatMap f)[i * sz + j]? = (f x)[j]?
  | [], i, x, j, h, _ => by simp at h
  | y :: l, 0, x, j, h, hj => by
    simp at h; subst h
    rw [List.flatMap_cons, Nat.zero_mul, Nat.zero_add, List.getElem?_append_left (by rw [hf]; exact hj)]
  | y :: l, i + 1, x, j, h, hj => by
    rw [List.flatMap_cons, List.getElem?_append_right (by rw [hf, Nat.succ_mul]; omega), hf, Nat.succ_mul, show i * sz + sz + j - sz = i * sz + j from by omega]
    exact flatMap_at hf l i x j (by simpa using h) hj
theorem RowOf.keep {α : Type} {f : α → List Value} {sz : Nat} {w w' : World} {v : Value} {l : List α} (h : RowOf f sz w v l) (hb : Below w.heap.size w w') : RowOf f sz w' v l := RdC.keep h hb
/-- its form, and its cells -/
theorem RowOf.open {α : Type} {f : α → List Value} {sz : Nat} {w : World} {v : Value} {l : List α} (hf : ∀ x, (f x).length = sz) (h : RowOf f sz w v l) :
    ∃ a cap, v = .slice a l.length cap ∧ l.length ≤ cap ∧ cap ≤ maxLen ∧ (l.length = 0 ∨ ∃ b off, a = some ⟨b, off, none⟩ ∧ b < w.heap.size ∧ ∀ (i : Nat) (x : α) (j : Nat), l[i]? = some x → j < sz → w.cell? ⟨b, off + (i * sz + j), none⟩ = (f x)[j]?) := by
  obtain ⟨a, cap, rfl, h1, h2, h3, h4⟩ := h
  refine ⟨a, cap, rfl, h1, h2, ?_⟩
  rcases h4 with h4 | ⟨b, off, rfl, hb, hc⟩
  · exact .inl h4
  · refine .inr ⟨b, off, rfl, hb, fun i x j hx hj => ?_⟩
    have hi : i < l.length := (List.getElem?_eq_some_iff.1 hx).1
    have : (i + 1) * sz ≤ l.length * sz := Nat.mul_le_mul_right _ hi
    rw [Nat.succ_mul] at this
    rw [hc _ (by omega), flatMap_at hf l i x j hx hj]
/-- a list cut into pieces that are all of one kind -/
theorem chunks {α : Type} {f : α → List Value} {G : α → Prop} {sz : Nat} : ∀ (n : Nat) (xs : List Value), xs.length = n * sz → (∀ i, i < n → ∃ y, (xs.drop (i * sz)).take sz = f y ∧ G y) → ∃ ys : List α, ys.length = n ∧ xs = ys.flatMap f ∧ ∀ y ∈ ys, G y := by
  intro n
  induction n with
  | zero => intro xs h _; exact ⟨[], rfl, List.eq_nil_of_length_eq_zero (by omega), fun y hy => by simp at hy⟩
  | succ n ih =>
    intro xs h hy
    obtain ⟨y, h0, g0⟩ := hy 0 (by omega)
    rw [Nat.zero_mul, List.drop_zero] at h0
    rw [Nat.succ_mul] at h
    obtain ⟨ys, hl, hx, hg⟩ := ih (xs.drop sz) (by rw [List.length_drop]; omega) (fun i hi => by
      obtain ⟨z, hz, gz⟩ := hy (i + 1) (by omega)
      exact ⟨z, by rw [List.drop_drop, ← hz]; congr 2; rw [Nat.succ_mul, Nat.add_comm], gz⟩)
    refine ⟨y :: ys, by simp [hl], ?_, by simpa using ⟨g0, hg⟩⟩
    rw [List.flatMap_cons, ← h0, ← hx, List.take_append_drop]
section
variable {H : Type} {enc : TypeId × Value → H} {P : Program} {w : World} {spare : Nat → Bool} {held : Bool}
/-- the datum of an argument is light -/
theorem light_of {ts : List TypeId} {ds : List (DataW H)} (h : (DataW.weightsEach P ts ds).all (· ≤ reachBytes) = true) {j : Nat} {t : TypeId} {d : DataW H} (ht : ts[j]? = some t) (hd : ds[j]? = some d) : Light P t d := fun n hn => by
  have := List.all_eq_true.1 h n (DataW.weights_mem_each ht hd n hn)
  exact of_decide_eq_true this
/-- a slice of flat elements: its cells -/
theorem slice_open {t e : TypeId} {n0 : Nat} {ks : List FK} (ht : P.underlying t = some (.slice e)) (hk : flat P n0 e = some ks) (hc : P.cellsOf e = ks.length) (hsz : 0 < ks.length) {fuel : Nat} {c : Value} {x : DataW H × List MemPlace}
    (h : DataW.trod enc P w 0 spare held fuel t [c] = some x) (hw : Light P t x.1) :
    ∃ n xs, RdC w.heap.size ks.length w c n xs ∧ n * P.bytesOf e ≤ 140737488351232 ∧ ∀ i, i < n → AllOk enc P w 0 spare held ks ((xs.drop (i * ks.length)).take ks.length) := by
  rcases open_slice ht h with ⟨h0, _⟩ | ⟨a, len, cap, m, n, D, Pl, hcs, hb, hl, hm, hmm, hx, hi⟩
  · simp at h0
    exact ⟨0, [], ⟨none, 0, h0, Nat.le_refl _, Nat.zero_le _, by simp, .inl rfl⟩, by simp, fun i hi => absurd hi (Nat.not_lt_zero _)⟩
  · simp at hcs
    have hlm : len ≤ m := by rw [hmm]; split <;> omega
    rw [hx] at hw
    dsimp only at hw
    have hby : len * P.bytesOf e ≤ 140737488351232 := Nat.le_trans (Nat.mul_le_mul_right _ (by simp)) (hw.row ht)
    by_cases h0 : len = 0
    · subst h0
      exact ⟨0, [], ⟨some a, cap, hcs, Nat.zero_le _, hm, by simp, .inl rfl⟩, by simp, fun i hi => absurd hi (Nat.not_lt_zero _)⟩
    -- the cells
    have hcell : ∀ i, i < len → ∃ cs', cs'.length = ks.length ∧ (∀ j, j < ks.length → w.cell? (a.add (i * ks.length + j)) = cs'[j]?) ∧ AllOk enc P w 0 spare held ks cs' := fun i hi' => by
      obtain ⟨cs', h1, h2⟩ := hi i (by omega)
      rw [hc] at h1
      obtain ⟨_, hcl, hat⟩ := World.cells?_some h1
      refine ⟨cs', hcl, fun j hj => ?_, flat_open n0 e ks hk _ _ _ h2 (hw.elem ht (List.mem_map.2 ⟨i, List.mem_range.2 hi', rfl⟩))⟩
      rw [← Go.Deep.add_add, hat j hj]
    have hspot : a.spot = none := by
      obtain ⟨cs', h1, h2, _⟩ := hcell 0 (by omega)
      have h3 := h2 0 hsz
      rw [List.getElem?_eq_getElem (by omega)] at h3
      simpa [Addr.add] using World.cell?_spot h3
    obtain ⟨b, off, spot⟩ := a
    dsimp only at hspot
    subst hspot
    have hblk : b < w.heap.size := by
      obtain ⟨cs', h1, h2, _⟩ := hcell 0 (by omega)
      have h3 := h2 0 hsz
      rw [List.getElem?_eq_getElem (by omega)] at h3
      simpa [Addr.add] using World.block_lt_of_cell? w _ h3
    refine ⟨len, (List.range (len * ks.length)).map fun i => (w.cell? ⟨b, off + i, none⟩).getD undef, ⟨_, cap, hcs, hl, hm, by simp, .inr ⟨b, off, rfl, hblk, fun i hi' => ?_⟩⟩, hby, fun i hi' => ?_⟩
    · have hq : i / ks.length < len := Nat.div_lt_of_lt_mul (by rw [Nat.mul_comm]; exact hi')
      obtain ⟨cs', h1, h2, _⟩ := hcell (i / ks.length) hq
      have h3 := h2 (i % ks.length) (Nat.mod_lt _ hsz)
      rw [Nat.mul_comm, Nat.div_add_mod, Addr.add_lit, List.getElem?_eq_getElem (by rw [h1]; exact Nat.mod_lt _ hsz)] at h3
      rw [List.getElem?_map, List.getElem?_range hi', h3]
      simp [h3]
    · obtain ⟨cs', h1, h2, h3⟩ := hcell i hi'
      have : (((List.range (len * ks.length)).map fun i => (w.cell? ⟨b, off + i, none⟩).getD undef).drop (i * ks.length)).take ks.length = cs' := by
        apply List.ext_getElem?
        intro j
        rw [List.getElem?_take]
        by_cases hj : j < ks.length
        · have hlt : i * ks.length + j < len * ks.length := by
            have : (i + 1) * ks.length ≤ len * ks.length := Nat.mul_le_mul_right _ hi'
            rw [Nat.succ_mul] at this; omega
          have h4 := h2 j hj
          rw [Addr.add_lit, List.getElem?_eq_getElem (by omega)] at h4
          rw [if_pos hj, List.getElem?_drop, List.getElem?_map, List.getElem?_range hlt, List.getElem?_eq_getElem (by omega)]
          simp [h4]
        · rw [if_neg hj, List.getElem?_eq_none (by omega)]
      rw [this]; exact h3
end
end Go.Proofs.Ytkpdcejnanhgoaa
/- Plain laws: instructions, their fields' letters, which may be. No conditions; no program. -/
namespace Go.Proofs.Ytkpdcejnanhgoaa
/-- an operation's letters (the program's) -/
def letr : Nat → List Nat
  | 2 => [114, 110] | 3 => [114, 82] | 4 => [64] | 5 => [114, 110, 64] | 6 => [114, 110, 64] | 7 => [114, 64] | 8 => [114, 82, 116] | 9 => [109] | 10 => [109]
  | 11 => [109, 64] | 12 => [114] | 13 => [114, 82] | 15 => [114] | 17 => [114] | _ => []
def IsL (x : Nat) : Prop := x = 114 ∨ x = 109 ∨ x = 82 ∨ x = 110 ∨ x = 64 ∨ x = 116
/-- where a letter's value stands, its bound -/
def pos (x : Nat) : Nat := if x = 114 ∨ x = 109 then 1 else if x = 82 ∨ x = 110 then 2 else if x = 64 then 3 else 4
def mst (x : Nat) : Nat := if x = 114 ∨ x = 82 then 7 else if x = 109 then 1 else if x = 110 then 1073741824 else if x = 64 then 4095 else 15
theorem pos_ge (x : Nat) : 1 ≤ pos x ∧ pos x ≤ 4 := by unfold pos; split <;> (try split) <;> (try split) <;> omega
theorem mst_le (x : Nat) : mst x ≤ 1073741824 := by unfold mst; split <;> (try split) <;> (try split) <;> (try split) <;> omega
theorem letr_is (o : Nat) : ∀ x ∈ letr o, IsL x := by
  unfold letr IsL
  split <;> simp
/-- an instruction as a value -/
abbrev vI (v : Nat → Int) : Value := .agg #[.int .i64 (v 0), .int .i64 (v 1), .int .i64 (v 2), .int .i64 (v 3), .int .i64 (v 4)]
abbrev ic (v : Nat → Int) : Array Value := #[.int .i64 (v 0), .int .i64 (v 1), .int .i64 (v 2), .int .i64 (v 3), .int .i64 (v 4)]
/-- an instruction with nothing but its operation and what some letters say -/
def bar (v : Nat → Int) (l : List Nat) : Nat → Int := fun j => if j = 0 ∨ j ∈ l.map pos then v j else 0
theorem bar_nil0 (v : Nat → Int) : bar v [] 0 = v 0 := by simp [bar]
theorem bar_nil (v : Nat → Int) {j : Nat} (h : j ≠ 0) : bar v [] j = 0 := by simp [bar, h]
theorem bar_snoc (v : Nat → Int) (l : List Nat) (x j : Nat) : bar v (l ++ [x]) j = if j = pos x then v j else bar v l j := by
  unfold bar
  by_cases h : j = pos x
  · simp [h]
  · simp [h]
/-- a letter's value is in its bounds -/
def inb (v : Nat → Int) (x : Nat) : Bool := decide (0 ≤ v (pos x)) && decide (v (pos x) ≤ (mst x : Int))
/-- may an instruction be? -/
def okI (v : Nat → Int) : Bool := decide (1 ≤ v 0) && decide (v 0 ≤ 17) && ((letr (v 0).toNat).all (inb v) && (bar v (letr (v 0).toNat) 1 == v 1 && (bar v (letr (v 0).toNat) 2 == v 2 && (bar v (letr (v 0).toNat) 3 == v 3 && bar v (letr (v 0).toNat) 4 == v 4))))
/-- its fields, as a text of bytes -/
def bsT (l : List Nat) : ByteArray := ⟨(l.map u8).toArray⟩
theorem bsT_size (l : List Nat) : (bsT l).size = l.length := by show ((l.map u8).toArray).size = _; simp
theorem bsT_get (l : List Nat) (k : Nat) (h : k < (bsT l).size) (hk : k < l.length) (hl : ∀ x ∈ l, x < 256) : ((bsT l)[k]'h).toNat = l[k] := by
  have e : (bsT l)[k]'h = (l.map u8).toArray[k]'(by simpa using hk) := rfl
  rw [e, List.getElem_toArray, List.getElem_map]
  have := hl _ (List.getElem_mem hk)
  simp [u8]; omega
/-- an operation's word -/
def wrd : Nat → List Nat
  | 1 => [104, 97, 108, 116] | 2 => [108, 111, 97, 100] | 3 => [109, 111, 118, 101] | 4 => [106, 117, 109, 112] | 5 => [115, 97, 109, 101] | 6 => [108, 101, 115, 115] | 7 => [110, 101, 120, 116] | 8 => [108, 111, 111, 107] | 9 => [109, 97, 114, 107] | 10 => [98, 97, 99, 107] | 11 => [104, 101, 114, 101] | 12 => [99, 111, 112, 121] | 13 => [116, 101, 120, 116] | 14 => [116, 117, 114, 110] | 15 => [115, 105, 103, 110] | 16 => [106, 111, 105, 110] | 17 => [101, 109, 105, 116] | _ => []
/-- a field's sign in a line -/
def sgn (x : Nat) : List Nat := if x = 114 ∨ x = 82 then [114] else if x = 109 then [109] else if x = 64 then [64] else if x = 116 then [116] else []
end Go.Proofs.Ytkpdcejnanhgoaa
/- Plain laws: instructions read from bytes (P21.2). No conditions; no program. -/
namespace Go.Proofs.Ytkpdcejnanhgoaa
/-- an instruction's cells -/
def icL (v : Nat → Int) : List Value := [.int .i64 (v 0), .int .i64 (v 1), .int .i64 (v 2), .int .i64 (v 3), .int .i64 (v 4)]
theorem icL_len (v : Nat → Int) : (icL v).length = 5 := rfl
end Go.Proofs.Ytkpdcejnanhgoaa
/- Plain laws: registers' ranges, what flows on, the least solution (P23.2). No conditions; no program. -/
namespace Go.Proofs.Ytkpdcejnanhgoaa
open Go.RowKit
/-- eight registers' ranges -/
abbrev Rg := List (Int × Int)
abbrev Sts := List (Option Rg)
def rget (r : Rg) (k : Nat) : Int × Int := r.getD k (0, 0)
def rle (r q : Rg) : Prop := ∀ k, k < 8 → (rget q k).1 ≤ (rget r k).1 ∧ (rget r k).2 ≤ (rget q k).2
theorem rle.refl (r : Rg) : rle r r := fun _ _ => ⟨Int.le_refl _, Int.le_refl _⟩
theorem rle.trans {r q s : Rg} (h : rle r q) (h' : rle q s) : rle r s := fun k hk => ⟨Int.le_trans (h' k hk).1 (h k hk).1, Int.le_trans (h k hk).2 (h' k hk).2⟩
theorem rle.anti {r q : Rg} (hr : r.length = 8) (hq : q.length = 8) (h : rle r q) (h' : rle q r) : r = q := by
  apply List.ext_getElem (by rw [hr, hq])
  intro k h1 h2
  have a := h k (by omega)
  have b := h' k (by omega)
  have e1 : rget r k = r[k] := by simp [rget, List.getD, List.getElem?_eq_getElem h1]
  have e2 : rget q k = q[k] := by simp [rget, List.getD, List.getElem?_eq_getElem h2]
  rw [e1, e2] at a b
  exact Prod.ext (Int.le_antisymm b.1 a.1) (Int.le_antisymm a.2 b.2)
theorem rget_set (r : Rg) (hr : r.length = 8) (a : Nat) (v : Int × Int) (k : Nat) (hk : k < 8) : rget (r.set a v) k = if a = k then v else rget r k := by
  simp only [rget, List.getD, List.getElem?_set]
  by_cases h : a = k
  · subst h; rw [if_pos rfl, if_pos rfl, if_pos (by omega)]; rfl
  · rw [if_neg h, if_neg h]
theorem rle_set {r q : Rg} (hr : r.length = 8) (hq : q.length = 8) (h : rle r q) (a : Nat) {v u : Int × Int} (hv : u.1 ≤ v.1 ∧ v.2 ≤ u.2) : rle (r.set a v) (q.set a u) := fun k hk => by
  rw [rget_set r hr a v k hk, rget_set q hq a u k hk]
  by_cases e : a = k
  · rw [if_pos e, if_pos e]; exact hv
  · rw [if_neg e, if_neg e]; exact h k hk
/-- what follows of an instruction: behind it, at its place -/
def sameB (a : Int × Int) (b : Int) : Int × Int := (if a.1 = b then a.1 + 1 else a.1, if a.2 = b then a.2 - 1 else a.2)
def ifIn (c : Prop) [Decidable c] (r : Rg) : Option Rg := if c then some r else none
def rA (x : Nat → Int) (r : Rg) : Int × Int := rget r (x 1).toNat
def sA (x : Nat → Int) (r : Rg) (v : Int × Int) : Rg := r.set (x 1).toNat v
def goN (of : List (Int × Int)) (x : Nat → Int) (r : Rg) : Option Rg :=
  if x 0 = 1 then none else if x 0 = 2 then some (sA x r (x 2, x 2)) else if x 0 = 3 then some (sA x r (rget r (x 2).toNat)) else if x 0 = 4 then none
  else if x 0 = 5 then ifIn ((sameB (rA x r) (x 2)).1 ≤ (sameB (rA x r) (x 2)).2) (sA x r (sameB (rA x r) (x 2)))
  else if x 0 = 6 then ifIn (max (rA x r).1 (x 2) ≤ (rA x r).2) (sA x r (max (rA x r).1 (x 2), (rA x r).2))
  else if x 0 = 7 then some (sA x r (0, 255)) else if x 0 = 8 then some (sA x r (of.getD (x 4).toNat (0, 0))) else some r
def goF (x : Nat → Int) (r : Rg) : Option Rg :=
  if x 0 = 4 then some r else if x 0 = 5 then ifIn ((rA x r).1 ≤ x 2 ∧ x 2 ≤ (rA x r).2) (sA x r (x 2, x 2))
  else if x 0 = 6 then ifIn ((rA x r).1 ≤ min (rA x r).2 (x 2 - 1)) (sA x r ((rA x r).1, min (rA x r).2 (x 2 - 1)))
  else if x 0 = 7 then some r else if x 0 = 11 then some r else none
def ole (o p : Option Rg) : Prop := ∀ r, o = some r → ∃ q, p = some q ∧ rle r q
theorem ole.refl (o : Option Rg) : ole o o := fun r h => ⟨r, h, rle.refl r⟩
theorem ole.trans {o p s : Option Rg} (h : ole o p) (h' : ole p s) : ole o s := fun r hr => by
  obtain ⟨q, hq, h1⟩ := h r hr
  obtain ⟨t, ht, h2⟩ := h' q hq
  exact ⟨t, ht, h1.trans h2⟩
theorem ole_some {r q : Rg} (h : rle r q) : ole (some r) (some q) := fun s hs => ⟨q, rfl, by simp at hs; subst hs; exact h⟩
theorem ole_none (p : Option Rg) : ole none p := fun _ h => by cases h
theorem ole_if {c d : Prop} [Decidable c] [Decidable d] {r q : Rg} (hc : c → d) (h : rle r q) : ole (ifIn c r) (ifIn d q) := by
  unfold ifIn
  by_cases h1 : c
  · rw [if_pos h1, if_pos (hc h1)]; exact ole_some h
  · rw [if_neg h1]; exact ole_none _
theorem ole.len {o p : Option Rg} (h : ole o p) {r : Rg} (hr : o = some r) : p ≠ none := by
  obtain ⟨q, hq, _⟩ := h r hr; rw [hq]; simp
theorem sameB_mono {a a' : Int × Int} {b : Int} (h : a'.1 ≤ a.1 ∧ a.2 ≤ a'.2) : (sameB a' b).1 ≤ (sameB a b).1 ∧ (sameB a b).2 ≤ (sameB a' b).2 := by
  obtain ⟨l, u⟩ := a; obtain ⟨l', u'⟩ := a'
  simp only [sameB] at h ⊢
  constructor
  · split <;> split <;> omega
  · split <;> split <;> omega
section
variable {of : List (Int × Int)} {x : Nat → Int} {r q : Rg}
theorem goN_mono (hx : 0 ≤ x 1 ∧ x 1 ≤ 7) (hx2 : x 0 = 3 → 0 ≤ x 2 ∧ x 2 ≤ 7) (hr : r.length = 8) (hq : q.length = 8) (h : rle r q) : ole (goN of x r) (goN of x q) := by
  have ha := h (x 1).toNat (by omega)
  have hs : ∀ {v u : Int × Int}, (u.1 ≤ v.1 ∧ v.2 ≤ u.2) → rle (sA x r v) (sA x q u) := fun hv => rle_set hr hq h _ hv
  unfold goN
  by_cases h1 : x 0 = 1
  · rw [if_pos h1]; exact ole_none _
  rw [if_neg h1, if_neg h1]
  by_cases h2 : x 0 = 2
  · rw [if_pos h2, if_pos h2]; exact ole_some (hs ⟨Int.le_refl _, Int.le_refl _⟩)
  rw [if_neg h2, if_neg h2]
  by_cases h3 : x 0 = 3
  · rw [if_pos h3, if_pos h3]; exact ole_some (hs (h _ (by have := hx2 h3; omega)))
  rw [if_neg h3, if_neg h3]
  by_cases h4 : x 0 = 4
  · rw [if_pos h4]; exact ole_none _
  rw [if_neg h4, if_neg h4]
  by_cases h5 : x 0 = 5
  · rw [if_pos h5, if_pos h5]
    have hm := sameB_mono (b := x 2) ha
    exact ole_if (fun hc => Int.le_trans hm.1 (Int.le_trans hc hm.2)) (hs hm)
  rw [if_neg h5, if_neg h5]
  by_cases h6 : x 0 = 6
  · rw [if_pos h6, if_pos h6]
    refine ole_if (fun hc => ?_) (hs ⟨?_, ?_⟩)
    · unfold rA at hc ⊢; have := ha.1; have := ha.2; omega
    · unfold rA; have := ha.1; dsimp only; omega
    · exact ha.2
  rw [if_neg h6, if_neg h6]
  by_cases h7 : x 0 = 7
  · rw [if_pos h7, if_pos h7]; exact ole_some (hs ⟨Int.le_refl _, Int.le_refl _⟩)
  rw [if_neg h7, if_neg h7]
  by_cases h8 : x 0 = 8
  · rw [if_pos h8, if_pos h8]; exact ole_some (hs ⟨Int.le_refl _, Int.le_refl _⟩)
  rw [if_neg h8, if_neg h8]
  exact ole_some h
theorem goF_mono (hx : 0 ≤ x 1 ∧ x 1 ≤ 7) (hr : r.length = 8) (hq : q.length = 8) (h : rle r q) : ole (goF x r) (goF x q) := by
  have ha := h (x 1).toNat (by omega)
  have hs : ∀ {v u : Int × Int}, (u.1 ≤ v.1 ∧ v.2 ≤ u.2) → rle (sA x r v) (sA x q u) := fun hv => rle_set hr hq h _ hv
  unfold goF
  by_cases h4 : x 0 = 4
  · rw [if_pos h4, if_pos h4]; exact ole_some h
  rw [if_neg h4, if_neg h4]
  by_cases h5 : x 0 = 5
  · rw [if_pos h5, if_pos h5]
    refine ole_if (fun hc => ?_) (hs ⟨Int.le_refl _, Int.le_refl _⟩)
    unfold rA at hc ⊢; have := ha.1; have := ha.2; omega
  rw [if_neg h5, if_neg h5]
  by_cases h6 : x 0 = 6
  · rw [if_pos h6, if_pos h6]
    refine ole_if (fun hc => ?_) (hs ⟨?_, ?_⟩)
    · unfold rA at hc ⊢; have := ha.1; have := ha.2; omega
    · exact ha.1
    · unfold rA; have := ha.2; dsimp only; omega
  rw [if_neg h6, if_neg h6]
  by_cases h7 : x 0 = 7
  · rw [if_pos h7, if_pos h7]; exact ole_some h
  rw [if_neg h7, if_neg h7]
  by_cases h11 : x 0 = 11
  · rw [if_pos h11, if_pos h11]; exact ole_some h
  rw [if_neg h11]; exact ole_none _
end
/-- ranges that can be -/
def okS (p : Int × Int) : Prop := 0 ≤ p.1 ∧ p.1 ≤ p.2 ∧ p.2 ≤ 1073741824
def okR (r : Rg) : Prop := r.length = 8 ∧ ∀ p ∈ r, okS p
theorem okR.get {r : Rg} (h : okR r) {k : Nat} (hk : k < 8) : okS (rget r k) := by
  have : rget r k = r[k]'(by rw [h.1]; exact hk) := by simp [rget, List.getD, List.getElem?_eq_getElem (show k < r.length by rw [h.1]; exact hk)]
  rw [this]; exact h.2 _ (List.getElem_mem _)
theorem okR.set {r : Rg} (h : okR r) (a : Nat) {v : Int × Int} (hv : okS v) : okR (r.set a v) := by
  refine ⟨by simp [h.1], fun p hp => ?_⟩
  rcases List.mem_or_eq_of_mem_set hp with hp | rfl
  · exact h.2 p hp
  · exact hv
def iniR : Rg := List.replicate 8 (0, 0)
theorem iniR_ok : okR iniR := ⟨rfl, fun p hp => by rw [List.eq_of_mem_replicate hp]; exact ⟨by decide, by decide, by decide⟩⟩
section
variable {of : List (Int × Int)} {x : Nat → Int} {r : Rg}
/-- what an instruction that may be asks of a program for its flow -/
structure XOk (of : List (Int × Int)) (x : Nat → Int) : Prop where
  a : 0 ≤ x 1 ∧ x 1 ≤ 7
  m : x 0 = 3 → 0 ≤ x 2 ∧ x 2 ≤ 7
  n : x 0 = 2 ∨ x 0 = 5 ∨ x 0 = 6 → 0 ≤ x 2 ∧ x 2 ≤ 1073741824
  t : x 0 = 8 → okS (of.getD (x 4).toNat (0, 0))
theorem okS_same {a : Int × Int} {b : Int} (h : okS a) (hc : (sameB a b).1 ≤ (sameB a b).2) : okS (sameB a b) := by
  obtain ⟨l, u⟩ := a
  simp only [okS, sameB] at h hc ⊢
  refine ⟨?_, hc, ?_⟩
  · split <;> omega
  · split <;> omega
theorem goN_ok (hx : XOk of x) (hr : okR r) {q : Rg} (h : goN of x r = some q) : okR q := by
  have ha := hr.get (k := (x 1).toNat) (by have := hx.a; omega)
  unfold goN at h
  by_cases h1 : x 0 = 1
  · rw [if_pos h1] at h; cases h
  rw [if_neg h1] at h
  by_cases h2 : x 0 = 2
  · rw [if_pos h2] at h; cases h
    have := hx.n (.inl h2)
    exact hr.set _ ⟨this.1, Int.le_refl _, this.2⟩
  rw [if_neg h2] at h
  by_cases h3 : x 0 = 3
  · rw [if_pos h3] at h; cases h
    exact hr.set _ (hr.get (by have := hx.m h3; omega))
  rw [if_neg h3] at h
  by_cases h4 : x 0 = 4
  · rw [if_pos h4] at h; cases h
  rw [if_neg h4] at h
  by_cases h5 : x 0 = 5
  · rw [if_pos h5, ifIn] at h
    split at h
    · cases h; rename_i hc; exact hr.set _ (okS_same ha hc)
    · cases h
  rw [if_neg h5] at h
  by_cases h6 : x 0 = 6
  · rw [if_pos h6, ifIn] at h
    split at h
    · cases h; rename_i hc
      refine hr.set _ ⟨?_, hc, ha.2.2⟩
      have := ha.1; unfold rA; dsimp only; omega
    · cases h
  rw [if_neg h6] at h
  by_cases h7 : x 0 = 7
  · rw [if_pos h7] at h; cases h
    exact hr.set _ ⟨by decide, by decide, by decide⟩
  rw [if_neg h7] at h
  by_cases h8 : x 0 = 8
  · rw [if_pos h8] at h; cases h
    exact hr.set _ (hx.t h8)
  rw [if_neg h8] at h
  cases h; exact hr
theorem goF_ok (hx : XOk of x) (hr : okR r) {q : Rg} (h : goF x r = some q) : okR q := by
  have ha := hr.get (k := (x 1).toNat) (by have := hx.a; omega)
  unfold goF at h
  by_cases h4 : x 0 = 4
  · rw [if_pos h4] at h; cases h; exact hr
  rw [if_neg h4] at h
  by_cases h5 : x 0 = 5
  · rw [if_pos h5, ifIn] at h
    split at h
    · cases h
      have := hx.n (.inr (.inl h5))
      exact hr.set _ ⟨this.1, Int.le_refl _, this.2⟩
    · cases h
  rw [if_neg h5] at h
  by_cases h6 : x 0 = 6
  · rw [if_pos h6, ifIn] at h
    split at h
    · cases h; rename_i hc
      refine hr.set _ ⟨ha.1, hc, ?_⟩
      have := ha.2.2; unfold rA; dsimp only; omega
    · cases h
  rw [if_neg h6] at h
  by_cases h7 : x 0 = 7
  · rw [if_pos h7] at h; cases h; exact hr
  rw [if_neg h7] at h
  by_cases h11 : x 0 = 11
  · rw [if_pos h11] at h; cases h; exact hr
  rw [if_neg h11] at h; cases h
end
/-- two ranges in one -/
def jn (a b : Int × Int) : Int × Int := (min a.1 b.1, max a.2 b.2)
def joinR (q r : Rg) : Rg := q.zipWith jn r
theorem joinR_len {q r : Rg} (hq : q.length = 8) (hr : r.length = 8) : (joinR q r).length = 8 := by simp [joinR, hq, hr]
theorem joinR_get {q r : Rg} (hq : q.length = 8) (hr : r.length = 8) {k : Nat} (hk : k < 8) : rget (joinR q r) k = jn (rget q k) (rget r k) := by
  have h1 : k < q.length := by omega
  have h2 : k < r.length := by omega
  simp [rget, joinR, List.getD, List.getElem?_zipWith, List.getElem?_eq_getElem h1, List.getElem?_eq_getElem h2]
theorem joinR_l {q r : Rg} (hq : q.length = 8) (hr : r.length = 8) : rle q (joinR q r) := fun k hk => by
  rw [joinR_get hq hr hk]; unfold jn; dsimp only; omega
theorem joinR_r {q r : Rg} (hq : q.length = 8) (hr : r.length = 8) : rle r (joinR q r) := fun k hk => by
  rw [joinR_get hq hr hk]; unfold jn; dsimp only; omega
theorem joinR_least {q r s : Rg} (hq : q.length = 8) (hr : r.length = 8) (h1 : rle q s) (h2 : rle r s) : rle (joinR q r) s := fun k hk => by
  rw [joinR_get hq hr hk]
  have := h1 k hk; have := h2 k hk
  unfold jn; dsimp only; omega
theorem joinR_ok {q r : Rg} (hq : okR q) (hr : okR r) : okR (joinR q r) := by
  refine ⟨joinR_len hq.1 hr.1, fun p hp => ?_⟩
  obtain ⟨k, hk, rfl⟩ := List.getElem_of_mem hp
  rw [joinR_len hq.1 hr.1] at hk
  have e : rget (joinR q r) k = (joinR q r)[k]'(by rw [joinR_len hq.1 hr.1]; exact hk) := by simp [rget, List.getD, List.getElem?_eq_getElem (show k < (joinR q r).length by rw [joinR_len hq.1 hr.1]; exact hk)]
  rw [← e, joinR_get hq.1 hr.1 hk]
  have a := hq.get hk; have b := hr.get hk
  unfold okS at a b ⊢; unfold jn; dsimp only; omega
/-! ### how often it can become wider -/
def potP (p : Int × Int) : Nat := (1073741824 - p.2).toNat + p.1.toNat
def potR (r : Rg) : Nat := (r.map potP).sum
theorem pot_join : ∀ q r : Rg, (∀ p ∈ q, okS p) → (∀ p ∈ r, okS p) → q.length = r.length → potR (q.zipWith jn r) ≤ potR q ∧ (q.zipWith jn r ≠ q → potR (q.zipWith jn r) < potR q)
  | [], r, _, _, _ => ⟨Nat.le_refl _, fun h => absurd (show List.zipWith jn [] r = [] by simp) h⟩
  | a :: q, [], _, _, h => by simp at h
  | a :: q, b :: r, ha, hb, h => by
    have ih := pot_join q r (fun p hp => ha p (by simp [hp])) (fun p hp => hb p (by simp [hp])) (by simpa using h)
    have h1 := ha a (by simp); have h2 := hb b (by simp)
    have e : potP (jn a b) ≤ potP a ∧ (jn a b ≠ a → potP (jn a b) < potP a) := by
      obtain ⟨l, u⟩ := a; obtain ⟨l', u'⟩ := b
      simp only [okS, potP, jn] at h1 h2 ⊢
      refine ⟨by omega, fun hne => ?_⟩
      have : ¬ (min l l' = l ∧ max u u' = u) := fun e => hne (by rw [e.1, e.2])
      omega
    simp only [List.zipWith_cons_cons, potR, List.map_cons, List.sum_cons] at ih ⊢
    refine ⟨by omega, fun hne => ?_⟩
    by_cases h3 : jn a b = a
    · have : q.zipWith jn r ≠ q := fun e => hne (by rw [h3, e])
      have := ih.2 this
      omega
    · have := e.2 h3
      omega
theorem potR_join {q r : Rg} (hq : okR q) (hr : okR r) (hne : joinR q r ≠ q) : potR (joinR q r) < potR q := (pot_join q r hq.2 hr.2 (by rw [hq.1, hr.1])).2 hne
theorem potR_le : ∀ r : Rg, (∀ p ∈ r, okS p) → potR r ≤ r.length * 2147483648
  | [], _ => by simp [potR]
  | a :: r, h => by
    have ih := potR_le r fun p hp => h p (by simp [hp])
    have h1 := h a (by simp)
    simp only [potR, List.map_cons, List.sum_cons, List.length_cons] at ih ⊢
    have : potP a ≤ 2147483648 := by unfold potP; unfold okS at h1; omega
    omega
def potO : Option Rg → Nat
  | none => 17179869185
  | some r => potR r
def potS (S : Sts) : Nat := (S.map potO).sum
theorem sum_set : ∀ (S : Sts) (i : Nat) (o : Option Rg), i < S.length → potS (S.set i o) + potO (S.getD i none) = potS S + potO o
  | [], i, o, h => by simp at h
  | a :: S, 0, o, _ => by simp [potS]; omega
  | a :: S, i + 1, o, h => by
    have := sum_set S i o (by simpa using h)
    simp only [potS, List.set_cons_succ, List.map_cons, List.sum_cons, List.getD_cons_succ] at this ⊢
    omega
/-! ### flowing -/
/-- ranges come to a place: the states, the places to look at -/
def flow (st : Sts × List Nat) (to : Nat) (r : Rg) : Sts × List Nat :=
  match st.1.getD to none with
  | none => (st.1.set to (some r), st.2 ++ [to])
  | some q => if joinR q r = q then st else (st.1.set to (some (joinR q r)), st.2 ++ [to])
def flowO (st : Sts × List Nat) (to : Nat) : Option Rg → Sts × List Nat
  | none => st
  | some r => flow st to r
def okSts (n : Nat) (S : Sts) : Prop := S.length = n ∧ ∀ (i : Nat) r, S.getD i none = some r → okR r
def leS (S T : Sts) : Prop := ∀ i, ole (S.getD i none) (T.getD i none)
theorem leS.refl (S : Sts) : leS S S := fun _ => ole.refl _
theorem leS.trans {S T U : Sts} (h : leS S T) (h' : leS T U) : leS S U := fun i => (h i).trans (h' i)
theorem getD_set (S : Sts) (i j : Nat) (o : Option Rg) (h : i < S.length) : (S.set i o).getD j none = if i = j then o else S.getD j none := by
  simp only [List.getD, List.getElem?_set]
  by_cases e : i = j
  · subst e; rw [if_pos rfl, if_pos rfl, if_pos h]; rfl
  · rw [if_neg e, if_neg e]
structure Flown (n : Nat) (st st' : Sts × List Nat) (to : Nat) (o : Option Rg) : Prop where
  ok : okSts n st'.1
  le : leS st.1 st'.1
  at' : ole o (st'.1.getD to none)
  same : ∀ i, i ∉ st'.2 → st'.1.getD i none = st.1.getD i none
  todo : ∀ i ∈ st.2, i ∈ st'.2
  only : ∀ i ∈ st'.2, i ∈ st.2 ∨ (i = to ∧ o ≠ none)
  least : ∀ T : Sts, leS st.1 T → ole o (T.getD to none) → (∀ i q, T.getD i none = some q → q.length = 8) → leS st'.1 T
  pot : potS st'.1 * 2 + st'.2.length ≤ potS st.1 * 2 + st.2.length
theorem flow_flown {n : Nat} {st : Sts × List Nat} {to : Nat} {r : Rg} (h : okSts n st.1) (hto : to < n) (hr : okR r) : Flown n st (flow st to r) to (some r) := by
  obtain ⟨S, l⟩ := st
  dsimp only at h
  have hl : to < S.length := by rw [h.1]; exact hto
  have hp := sum_set S to
  unfold flow
  dsimp only
  cases hq : S.getD to none with
  | none =>
    dsimp only
    refine ⟨⟨by simp [h.1], fun i q hi => ?_⟩, fun i => ?_, ?_, fun i hi => ?_, fun i hi => by simp [hi], fun i hi => by simp at hi; simpa using hi, fun T h1 h2 _ i => ?_, ?_⟩
    · rw [getD_set S to i _ hl] at hi
      split at hi
      · cases hi; exact hr
      · exact h.2 i q hi
    · rw [getD_set S to i _ hl]
      split
      · rename_i e; subst e; rw [hq]; exact ole_none _
      · exact ole.refl _
    · rw [getD_set S to to _ hl, if_pos rfl]; exact ole.refl _
    · simp only [List.mem_append, List.mem_singleton, not_or] at hi
      rw [getD_set S to i _ hl, if_neg (fun e => hi.2 e.symm)]
    · rw [getD_set S to i _ hl]
      split
      · rename_i e; subst e; exact h2
      · exact h1 i
    · have := hp (some r) hl
      rw [hq] at this
      have h8 := potR_le r hr.2
      rw [hr.1] at h8
      simp only [potO] at this
      simp only [List.length_append, List.length_singleton]
      omega
  | some q =>
    have hqo := h.2 to q hq
    dsimp only
    by_cases hj : joinR q r = q
    · rw [if_pos hj]
      refine ⟨h, leS.refl _, ?_, fun _ _ => rfl, fun _ h => h, fun _ h => .inl h, fun _ h1 _ _ => h1, Nat.le_refl _⟩
      dsimp only
      rw [hq]
      have := joinR_r hqo.1 hr.1
      rw [hj] at this
      exact ole_some this
    · rw [if_neg hj]
      refine ⟨⟨by simp [h.1], fun i q' hi => ?_⟩, fun i => ?_, ?_, fun i hi => ?_, fun i hi => by simp [hi], fun i hi => by simp at hi; simpa using hi, fun T h1 h2 h8 i => ?_, ?_⟩
      · rw [getD_set S to i _ hl] at hi
        split at hi
        · cases hi; exact joinR_ok hqo hr
        · exact h.2 i q' hi
      · rw [getD_set S to i _ hl]
        split
        · rename_i e; subst e; rw [hq]; exact ole_some (joinR_l hqo.1 hr.1)
        · exact ole.refl _
      · rw [getD_set S to to _ hl, if_pos rfl]; exact ole_some (joinR_r hqo.1 hr.1)
      · simp only [List.mem_append, List.mem_singleton, not_or] at hi
        rw [getD_set S to i _ hl, if_neg (fun e => hi.2 e.symm)]
      · rw [getD_set S to i _ hl]
        split
        · rename_i e; subst e
          obtain ⟨t, ht, h3⟩ := h2 r rfl
          obtain ⟨t', ht', h4⟩ := h1 to q hq
          rw [ht] at ht'; cases ht'
          rw [ht]; exact ole_some (joinR_least hqo.1 hr.1 h4 h3)
        · exact h1 i
      · have := hp (some (joinR q r)) hl
        rw [hq] at this
        have h8 := potR_join hqo hr hj
        simp only [potO] at this
        simp only [List.length_append, List.length_singleton]
        omega
theorem flowO_flown {n : Nat} {st : Sts × List Nat} {to : Nat} {o : Option Rg} (h : okSts n st.1) (ho : ∀ r, o = some r → to < n ∧ okR r) : Flown n st (flowO st to o) to o := by
  cases o with
  | none => exact ⟨h, leS.refl _, ole_none _, fun _ _ => rfl, fun _ h => h, fun _ h => .inl h, fun _ h1 _ _ => h1, Nat.le_refl _⟩
  | some r => exact flow_flown h (ho r rfl).1 (ho r rfl).2
/-- a whole program's code, for the flow -/
structure CodeOk (of : List (Int × Int)) (code : List (Nat → Int)) : Prop where
  pos : 0 < code.length
  ok : ∀ (i : Nat) x, code[i]? = some x → XOk of x
  c : ∀ (i : Nat) x, code[i]? = some x → 0 ≤ x 3 ∧ x 3 < code.length
  last : ∀ (i : Nat) x r, code[i]? = some x → goN of x r ≠ none → i + 1 < code.length
section
variable {of : List (Int × Int)} {code : List (Nat → Int)}
def edges (of : List (Int × Int)) (code : List (Nat → Int)) (S : Sts) (i : Nat) : Prop :=
  ∀ x r, code[i]? = some x → S.getD i none = some r → ole (goN of x r) (S.getD (i + 1) none) ∧ ole (goF x r) (S.getD (x 3).toNat none)
def len8 (S : Sts) : Prop := ∀ i q, S.getD i none = some q → q.length = 8
def Sol (of : List (Int × Int)) (code : List (Nat → Int)) (S : Sts) : Prop := len8 S ∧ ole (some iniR) (S.getD 0 none) ∧ ∀ i, edges of code S i
def Least (of : List (Int × Int)) (code : List (Nat → Int)) (S : Sts) : Prop := okSts code.length S ∧ Sol of code S ∧ ∀ T, Sol of code T → leS S T
theorem least_eq {S T : Sts} (h : Least of code S) (h' : Least of code T) : S = T := by
  have a := h.2.2 T h'.2.1
  have b := h'.2.2 S h.2.1
  apply List.ext_getElem (by rw [h.1.1, h'.1.1])
  intro i h1 h2
  have e1 : S.getD i none = S[i] := by simp [List.getD, List.getElem?_eq_getElem h1]
  have e2 : T.getD i none = T[i] := by simp [List.getD, List.getElem?_eq_getElem h2]
  rw [← e1, ← e2]
  have a := a i; have b := b i
  have l1 := h.2.1.1 i; have l2 := h'.2.1.1 i
  cases hs : S.getD i none with
  | none =>
    cases ht : T.getD i none with
    | none => rfl
    | some q => rw [hs, ht] at b; obtain ⟨_, h, _⟩ := b q rfl; cases h
  | some r =>
    cases ht : T.getD i none with
    | none => rw [hs, ht] at a; obtain ⟨_, h, _⟩ := a r rfl; cases h
    | some q =>
      rw [hs, ht] at a b
      obtain ⟨_, h, h3⟩ := a r rfl
      cases h
      obtain ⟨_, h, h4⟩ := b q rfl
      cases h
      rw [rle.anti (l1 r hs) (l2 q ht) h3 h4]
/-- what flows of an instruction flows in every solution -/
theorem sol_flow {S T : Sts} (hc : CodeOk of code) (hT : Sol of code T) (hS : okSts code.length S) (hle : leS S T) {i : Nat} {x : Nat → Int} {r : Rg} (hx : code[i]? = some x) (hr : S.getD i none = some r) :
    ole (goN of x r) (T.getD (i + 1) none) ∧ ole (goF x r) (T.getD (x 3).toNat none) := by
  obtain ⟨q, hq, h1⟩ := hle i r hr
  have h2 := hT.2.2 i x q hx hq
  have hk := hc.ok i x hx
  have l1 := (hS.2 i r hr).1; have l2 := hT.1 i q hq
  exact ⟨(goN_mono hk.a hk.m l1 l2 h1).trans h2.1, (goF_mono hk.a l1 l2 h1).trans h2.2⟩
def stepF (of : List (Int × Int)) (code : List (Nat → Int)) (st : Sts × List Nat) (i : Nat) : Sts × List Nat :=
  match code[i]?, st.1.getD i none with
  | some x, some r => flowO (flowO st (x 3).toNat (goF x r)) (i + 1) (goN of x r)
  | _, _ => st
theorem stepF_eq {st : Sts × List Nat} {i : Nat} {x : Nat → Int} {r : Rg} (hx : code[i]? = some x) (hr : st.1.getD i none = some r) : stepF of code st i = flowO (flowO st (x 3).toNat (goF x r)) (i + 1) (goN of x r) := by
  unfold stepF; rw [hx, hr]
/-- what is so while places are looked at -/
structure PI (of : List (Int × Int)) (code : List (Nat → Int)) (st : Sts × List Nat) : Prop where
  ok : okSts code.length st.1
  least : ∀ T, Sol of code T → leS st.1 T
  ini : ole (some iniR) (st.1.getD 0 none)
  todo : ∀ i ∈ st.2, i < code.length ∧ st.1.getD i none ≠ none
  edge : ∀ i, i ∉ st.2 → edges of code st.1 i
theorem okSts_none (n : Nat) : okSts n (List.replicate n none) := ⟨by simp, fun i r h => by
  simp only [List.getD, List.getElem?_replicate] at h
  split at h <;> simp at h⟩
theorem none_at (n i : Nat) : (List.replicate n (none : Option Rg)).getD i none = none := by
  simp only [List.getD, List.getElem?_replicate]
  split <;> rfl
theorem PI_start (hc : CodeOk of code) : PI of code (flow (List.replicate code.length none, []) 0 iniR) := by
  have F := flow_flown (n := code.length) (st := (List.replicate code.length none, [])) (to := 0) (r := iniR) (okSts_none _) hc.pos iniR_ok
  refine ⟨F.ok, fun T hT => F.least T (fun i => by dsimp only; rw [none_at]; exact ole_none _) hT.2.1 hT.1, F.at', fun i hi => ?_, fun i hi x r hx hr => ?_⟩
  · rcases F.only i hi with h | ⟨rfl, _⟩
    · simp at h
    · exact ⟨hc.pos, fun e => by obtain ⟨q, hq, _⟩ := F.at' _ rfl; rw [e] at hq; cases hq⟩
  · rw [F.same i hi] at hr
    dsimp only at hr
    rw [none_at] at hr; cases hr
theorem PI_step (hc : CodeOk of code) {S : Sts} {td : List Nat} {i : Nat} (h : PI of code (S, td ++ [i])) : PI of code (stepF of code (S, td) i) ∧ potS (stepF of code (S, td) i).1 * 2 + (stepF of code (S, td) i).2.length < potS S * 2 + (td ++ [i]).length := by
  obtain ⟨hi, hr⟩ := h.todo i (by simp)
  dsimp only at hr
  obtain ⟨x, hx⟩ : ∃ x, code[i]? = some x := ⟨_, List.getElem?_eq_getElem hi⟩
  obtain ⟨r, hr⟩ : ∃ r, S.getD i none = some r := by
    cases e : S.getD i none with
    | none => exact absurd e hr
    | some r => exact ⟨r, rfl⟩
  have hro := h.ok.2 i r hr
  have hk := hc.ok i x hx
  have hC := hc.c i x hx
  rw [stepF_eq (st := (S, td)) hx hr]
  have F1 := flowO_flown (n := code.length) (st := (S, td)) (to := (x 3).toNat) (o := goF x r) h.ok (fun q hq => ⟨by omega, goF_ok hk hro hq⟩)
  have F2 := flowO_flown (n := code.length) (st := flowO (S, td) (x 3).toNat (goF x r)) (to := i + 1) (o := goN of x r) F1.ok (fun q hq => ⟨hc.last i x r hx (by rw [hq]; simp), goN_ok hk hro hq⟩)
  generalize flowO (S, td) (x 3).toNat (goF x r) = s1 at F1 F2
  generalize flowO s1 (i + 1) (goN of x r) = s2 at F2
  refine ⟨⟨F2.ok, fun T hT => ?_, h.ini.trans ((F1.le 0).trans (F2.le 0)), fun j hj => ?_, fun j hj y q hy hq => ?_⟩, ?_⟩
  · have hs := sol_flow hc hT h.ok (h.least T hT) hx hr
    exact F2.least T (F1.least T (h.least T hT) hs.2 hT.1) hs.1 hT.1
  · have up : ∀ {o : Option Rg} {k : Nat}, o ≠ none → ole o (s2.1.getD k none) → s2.1.getD k none ≠ none := fun {o k} ho hle e => by
      cases o with
      | none => exact ho rfl
      | some q => obtain ⟨t, ht, _⟩ := hle q rfl; rw [e] at ht; cases ht
    rcases F2.only j hj with h1 | ⟨rfl, ho⟩
    · rcases F1.only j h1 with h2 | ⟨rfl, ho⟩
      · have h3 := h.todo j (by simp [show j ∈ td from h2])
        exact ⟨h3.1, up h3.2 ((F1.le j).trans (F2.le j))⟩
      · exact ⟨by omega, up ho (F1.at'.trans (F2.le _))⟩
    · refine ⟨?_, up ho F2.at'⟩
      exact hc.last i x r hx ho
  · have hj1 : j ∉ s1.2 := fun e => hj (F2.todo j e)
    have hj0 : j ∉ td := fun e => hj1 (F1.todo j e)
    have e1 : s2.1.getD j none = S.getD j none := (F2.same j hj).trans (F1.same j hj1)
    rw [e1] at hq
    by_cases hji : j = i
    · subst hji
      rw [hx] at hy; cases hy
      rw [hr] at hq; cases hq
      exact ⟨F2.at', F1.at'.trans (F2.le _)⟩
    · have := h.edge j (by simp [hj0, hji]) y q hy hq
      exact ⟨this.1.trans ((F1.le _).trans (F2.le _)), this.2.trans ((F1.le _).trans (F2.le _))⟩
  · have := F1.pot; have := F2.pot
    simp only [List.length_append, List.length_singleton] at *
    omega
theorem PI_end {S : Sts} (h : PI of code (S, [])) : Least of code S :=
  ⟨h.ok, ⟨fun i q hi => (h.ok.2 i q hi).1, h.ini, fun i => h.edge i (by simp)⟩, h.least⟩
/-! ### the reference's rounds: no list of places -/
end
end Go.Proofs.Ytkpdcejnanhgoaa
/- Rows of structs that a call itself has made: append, reading. No conditions beyond sizes. -/
namespace Go.Proofs.Ytkpdcejnanhgoaa
open Go.RowKit
/-- blocks of another type than e do not turn -/
def KeepB (e : TypeId) (w w' : World) : Prop := ∀ (k : Nat) cs t fz, w.heap[k]? = some (.cells cs t fz) → t ≠ e → w'.heap[k]? = some (.cells cs t fz)
theorem KeepB.refl (e : TypeId) (w : World) : KeepB e w w := fun _ _ _ _ h _ => h
theorem KeepB.trans {e : TypeId} {w w' w'' : World} (h : KeepB e w w') (h' : KeepB e w' w'') : KeepB e w w'' := fun k cs t fz hk ht => h' k cs t fz (h k cs t fz hk ht) ht
theorem KeepB.of_below {e : TypeId} {w w' : World} (h : Below w.heap.size w w') : KeepB e w w' := fun k cs t fz hk _ => by
  rw [h.block k (Array.getElem?_eq_some_iff.1 hk).1]; exact hk
/-- a row of the call's own, each element's cells by 'f' -/
def OwnR {α : Type} (f : α → List Value) (sz B : Nat) (e : TypeId) (w : World) (v : Value) (l : List α) : Prop := OwnC B e sz w v l.length (l.flatMap f)
section
variable {α : Type} {f : α → List Value} {sz B : Nat} {e : TypeId} {w : World} {v : Value} {l : List α}
theorem OwnR.nil : OwnR f sz B e w (.slice none 0 0) ([] : List α) := OwnC.nil
theorem OwnR.keep {B' : Nat} {w' : World} (h : OwnR f sz B e w v l) (hb : Below B' w w') (hB : w.heap.size ≤ B') : OwnR f sz B e w' v l := OwnC.keep h hb hB
theorem OwnR.below {g : Nat} (h : OwnR f sz B e w v l) (hg : v.ownBlock = some g) : B ≤ g ∧ g < w.heap.size := OwnC.lt h g hg
theorem OwnR.form (h : OwnR f sz B e w v l) : ∃ a cap, v = .slice a l.length cap ∧ l.length ≤ cap ∧ cap ≤ maxLen := by
  rcases h.2 with ⟨rfl, h0⟩ | ⟨g, cap, cur, fz, rfl, _, _, _, hn, hm, _⟩
  · exact ⟨none, 0, by rw [h0], by omega, Nat.zero_le _⟩
  · exact ⟨_, cap, rfl, hn, hm⟩
/-- as a slice that is read -/
theorem OwnR.row (h : OwnR f sz B e w v l) : RowOf f sz w v l := by
  rcases h.2 with ⟨rfl, h0⟩ | ⟨g, cap, cur, fz, rfl, hB, hg, hf, hn, hm, hcs, ht⟩
  · exact ⟨none, 0, by rw [h0], by omega, Nat.zero_le _, h.1, .inl h0⟩
  · refine ⟨_, cap, rfl, hn, hm, h.1, .inr ⟨g, 0, rfl, (Array.getElem?_eq_some_iff.1 hg).1, fun i hi => ?_⟩⟩
    rw [Nat.zero_add]
    exact OwnC.cell h i hi
/-- the row's block stands while only another block turns -/
theorem OwnR.other {w' : World} (h : OwnR f sz B e w v l) (hb : ∀ k, v.ownBlock = some k → w'.heap[k]? = w.heap[k]?) : OwnR f sz B e w' v l := OwnC.block h hb
theorem OwnR.typed (h : OwnR f sz B e w v l) {k : Nat} (hk : v.ownBlock = some k) : ∃ cs fz, w.heap[k]? = some (.cells cs e fz) := by
  rcases h.2 with ⟨rfl, _⟩ | ⟨g, cap, cur, fz, rfl, _, hg, _⟩
  · simp [Value.ownBlock] at hk
  · simp only [Value.ownBlock, Option.some.injEq] at hk
    subst hk; exact ⟨_, _, hg⟩
/-- 'append(l, x)': the block of x was just laid -/
theorem app_one {P : Program} {ops : Array Oper} {rest : List Oper} {o : Oper} {a : Act} {Q : Exit → Act → World → Prop} {t : TypeId} {z : Value} {cs : Array Value} (bytes : Nat) (h : Nat) (hh : h = w.heap.size) (x : α) (hf : ∀ y, (f y).length = sz) (ho : ∀ u ∈ f x, u.oneCell' = true)
    (h1 : P.underlying t = some (.slice e)) (h2 : (P.info? e).map (fun i => (i.zero, i.size, i.bytes)) = some (some z, sz, bytes)) (hzs : z.cells.size = sz)
    (hg : o.guard = none) (s x' : Operand) (hop : o.op = Op.call { callee := Callee.builtin Builtin.append, args := #[s, x'], argTypes := #[t, t] })
    (hs : a.eval s = v) (hx : a.eval x' = .slice (some ⟨h, 0, none⟩) 1 1) (hcs : cs = (f x).toArray)
    (hown : OwnR f sz B e w v l) (hB : B ≤ w.heap.size) (hbig : (l.length + 1) * bytes ≤ 140737488355328) (hlen : l.length + 1 ≤ maxLen)
    (hK : ∀ v' w', OwnR f sz B e w' v' (l ++ [x]) → Below B w w' → KeepB e w w' → w.heap.size ≤ w'.heap.size → wpList P ops Q rest (a.put o.dst v') w') :
    wpList P ops Q (o :: rest) a (w.alloc (.cells cs e)) := by
  subst hcs hh
  refine wp_append B sz bytes h1 (.inl h1) h2 hzs hg s x' hop hs 1 (f x) (by rw [hx]; exact lenOf_slice) ?_ (by rw [hf, Nat.one_mul]) ho (OwnC.alloc hown _) (by simp; omega) hbig hlen ?_
  · rw [hx]
    exact firstCells_at (by rw [hf, Nat.one_mul]) (fun j u hj => by
      rw [Addr.add_lit, Nat.zero_add, cell_of_row _ w.heap.size j _ e (0, 0) (Go.heap_alloc_new w _)]
      simpa using hj)
  · intro v' w1 hown' hgrow
    have hsz := hgrow.size
    simp at hsz
    refine hK v' w1 ?_ ?_ ?_ (by omega)
    · unfold OwnR; simpa [List.flatMap_append] using hown'
    · exact ((Below.refl _ _).alloc hB _).grown hgrow (by simp; omega) (fun k hk => (OwnC.lt hown k hk).1)
    · intro k cs t' fz hk ht
      have hkl := (Array.getElem?_eq_some_iff.1 hk).1
      rw [hgrow.block k (by simp; omega) (fun e' => ?_), Go.heap_alloc_old w _ hkl]
      · exact hk
      · obtain ⟨cs', fz', h'⟩ := hown.typed (k := k) e'.symm
        rw [hk] at h'
        simp at h'
        exact ht h'.2.1
end
/-- only block g turns, and new blocks are laid -/
structure Else (g : Nat) (w w' : World) : Prop where
  os : w'.os = w.os
  tape : w'.tape = w.tape
  output : w'.output = w.output
  size : w.heap.size ≤ w'.heap.size
  block : ∀ k, k < w.heap.size → k ≠ g → w'.heap[k]? = w.heap[k]?
theorem Else.below {g B : Nat} {w w' : World} (h : Else g w w') (hB : B ≤ g) (hg : g < w.heap.size) : Below B w w' := ⟨h.os, h.tape, h.output, h.size, fun k hk => h.block k (by omega) (by omega)⟩
theorem Else.refl (g : Nat) (w : World) : Else g w w := ⟨rfl, rfl, rfl, Nat.le_refl _, fun _ _ _ => rfl⟩
theorem Else.of_below {g : Nat} {w w' : World} (h : Below w.heap.size w w') : Else g w w' := ⟨h.os, h.tape, h.output, h.size, fun k hk _ => h.block k hk⟩
theorem Else.trans {g : Nat} {w w' w'' : World} (h : Else g w w') (h' : Else g w' w'') : Else g w w'' :=
  ⟨h'.os.trans h.os, h'.tape.trans h.tape, h'.output.trans h.output, Nat.le_trans h.size h'.size, fun k hk hne => (h'.block k (Nat.lt_of_lt_of_le hk h.size) hne).trans (h.block k hk hne)⟩
theorem Else.setCell {g : Nat} {w w' : World} (h : Else g w w') (o : Nat) (u : Value) : Else g w (w'.setCell ⟨g, o, none⟩ u) :=
  ⟨h.os, h.tape, h.output, by have := h.size; simpa [World.setCell] using this, fun k hk hne => by rw [show (w'.setCell ⟨g, o, none⟩ u).heap[k]? = w'.heap[k]? from Below.heap_setCell _ _ _ _ (by dsimp only; omega)]; exact h.block k hk hne⟩
theorem Else.row {g : Nat} {w w' : World} (h : Else g w w') {k : Nat} {o : Obj} (hk : w.heap[k]? = some o) (hne : k ≠ g) : w'.heap[k]? = some o := by
  rw [h.block k (Array.getElem?_eq_some_iff.1 hk).1 hne]; exact hk
section
variable {α : Type} {f : α → List Value} {sz B : Nat} {e : TypeId} {w : World} {v : Value} {l : List α}
theorem OwnR.setOther {g o : Nat} {u : Value} (h : OwnR f sz B e w v l) (hg : ∀ k, v.ownBlock = some k → k ≠ g) : OwnR f sz B e (w.setCell ⟨g, o, none⟩ u) v l :=
  h.other fun k hk => Below.heap_setCell _ _ _ _ (by have := hg k hk; dsimp only; omega)
/-- a cell of an element -/
theorem OwnR.cellAt {g cap n : Nat} (hf : ∀ x, (f x).length = sz) (h : OwnR f sz B e w (.slice (some ⟨g, 0, none⟩) n cap) l) (i : Nat) (x : α) (j : Nat) (hx : l[i]? = some x) (hj : j < sz) : w.cell? ⟨g, i * sz + j, none⟩ = (f x)[j]? := by
  have hi : i < l.length := (List.getElem?_eq_some_iff.1 hx).1
  have : (i + 1) * sz ≤ l.length * sz := Nat.mul_le_mul_right _ hi
  rw [Nat.succ_mul] at this
  obtain ⟨a, cap', hv, _⟩ := h.form
  simp only [Value.slice.injEq] at hv
  obtain ⟨rfl, rfl, rfl⟩ := hv
  rw [OwnC.cell h _ (by omega), flatMap_at hf l i x j hx hj]
theorem OwnR.somewhere (h : OwnR f sz B e w v l) (h0 : 0 < l.length) : ∃ g cap, v = .slice (some ⟨g, 0, none⟩) l.length cap := by
  rcases h.2 with ⟨_, h'⟩ | ⟨g, cap, cur, fz, rfl, _⟩
  · omega
  · exact ⟨g, cap, rfl⟩
end
end Go.Proofs.Ytkpdcejnanhgoaa
/- An append to a row of the call's own: the row lies where it was, or in a new block. No conditions beyond sizes. -/
namespace Go.Proofs.Ytkpdcejnanhgoaa
open Go.RowKit
/-- append to a row of the call's own: whatever is appended, so its cells are read -/
theorem run_append_D {P : Program} (w : World) (B : Nat) (t u ty e : TypeId) (i : TypeInfo) (z : Value) (sz bytes : Nat) (ht : P.underlying t = some (.slice e)) (hu : P.underlying u = some (.slice e) ∨ P.underlying u = some .string) (hi : P.info? e = some i) (hz : i.zero = some z) (hsize : i.size = sz) (hby : i.bytes = bytes) (hzs : z.cells.size = sz)
    (v : Value) (n : Nat) (xs : List Value) (hown : OwnC B e sz w v n xs) (x : Value) (m : Nat) (news : List Value)
    (hlen : (Builtin.lenOf x).run P w = .ok m w) (hfc : ∀ k : Nat, (Builtin.firstCells sz m x).run P (w.drewN k) = .ok news.toArray (w.drewN k)) (hnl : news.length = m * sz) (h1 : ∀ u ∈ news, u.oneCell' = true)
    (hbig : (n + m) * bytes ≤ 140737488355328) (h63 : n + m ≤ maxLen) (hB : B ≤ w.heap.size) :
    ∃ v' w', (Builtin.append_ #[t, u] ty #[v, x]).run P w = .ok v' w' ∧ OwnC B e sz w' v' (n + m) (xs ++ news) ∧ w.grownBy w' v.ownBlock ∧ (v'.ownBlock = v.ownBlock ∨ ∃ g, v'.ownBlock = some g ∧ w.heap.size ≤ g) := by
  subst hsize hby
  have h63' : ¬ (9223372036854775807 < (n : Int) + (m : Int)) := by have := h63; simp only [maxLen] at this; omega
  have hxl : xs.length = n * i.size := hown.1
  have hlen' : (xs ++ news).length = (n + m) * i.size := by rw [List.length_append, hxl, hnl, Nat.add_mul]
  have hf0 : (Builtin.firstCells i.size m x).run P w = .ok news.toArray w := hfc 0
  have hf1 : (Builtin.firstCells i.size m x).run P w.drew = .ok news.toArray w.drew := hfc 1
  -- what a new row owns
  have fresh : ∀ old : Nat, old < n + m → ∀ row : Option Nat,
      OwnC B e i.size (w.drew.alloc (.cells (xs.toArray ++ news.toArray ++ Builtin.zeroCells z.cells (grownCap w (n + m) old e - (n + m))) e)) (.slice (some ⟨w.heap.size, 0, none⟩) (n + m) (grownCap w (n + m) old e)) (n + m) (xs ++ news) ∧
      w.grownBy (w.drew.alloc (.cells (xs.toArray ++ news.toArray ++ Builtin.zeroCells z.cells (grownCap w (n + m) old e - (n + m))) e)) row := by
    intro old ho row
    have hge := grownCap_ge w (n + m) old e
    have hcm := grownCap_le_maxLen w (n + m) old e h63
    have hl2 := hlen'
    rw [List.length_append] at hl2
    refine ⟨⟨hlen', .inr ⟨w.heap.size, _, _, (0, 0), rfl, hB, Go.heap_alloc_new w.drew _, fun j _ h => by simp at h, hge, hcm, ?_, ?_⟩⟩, ⟨rfl, rfl, rfl, by simp, fun k hk _ => Go.heap_alloc_old w.drew _ hk⟩⟩
    · simp only [Array.size_append, List.size_toArray, size_zeroCells, hzs]
      rw [hl2, ← Nat.add_mul, Nat.add_sub_of_le hge]
    · simp only [Array.toList_append]
      rw [← hlen']
      exact List.take_left
  rcases hown.2 with ⟨rfl, rfl⟩ | ⟨g, cap, cur, fz, rfl, hbg, hg, hf, hnc, hcm, hcs, htake⟩
  · have hx : xs = [] := List.eq_nil_of_length_eq_zero (by simpa using hxl)
    subst hx
    by_cases hm : m = 0
    · subst hm
      have hn : news = [] := List.eq_nil_of_length_eq_zero (by simpa using hnl)
      subst hn
      refine ⟨.slice none 0 0, w, ?_, by simpa using OwnC.nil, ⟨rfl, rfl, rfl, Nat.le_refl _, fun _ _ _ => rfl⟩, .inl rfl⟩
      rcases hu with hu | hu <;> simp [Builtin.append_, run_underlying ht, run_underlying hu, sizeOf, typeInfo, hi, hlen, hf0]
    · obtain ⟨r1, r2⟩ := fresh 0 (by omega) (Value.slice none 0 0).ownBlock
      refine ⟨_, _, ?_, r1, r2, .inr ⟨_, rfl, Nat.le_refl _⟩⟩
      have h48 : ¬ (281474976710656 < Builtin.nextslicecap m 0 * i.bytes) := by
        have := growslice_fits (need := m) (old := 0) (bytes := i.bytes) (by omega) (by simpa using hbig)
        omega
      have h63'' : ¬ (9223372036854775807 < (m : Int)) := by simpa using h63'
      have hfo : (Builtin.firstCells i.size 0 (.slice none 0 0)).run P w.drew = .ok #[] w.drew := by simp [Builtin.firstCells]
      rcases hu with hu | hu <;> simp [Builtin.append_, run_underlying ht, run_underlying hu, sizeOf, typeInfo, zeroValue, hi, hz, hlen, hm, h63'', h48, Question.forced, hf1, hfo, newRow, grownCap]
  · by_cases hroom : n + m ≤ cap
    · have hfit : n * i.size + 0 + news.length ≤ cur.size := by rw [hnl, hcs, Nat.add_zero, ← Nat.add_mul]; exact Nat.mul_le_mul_right _ hroom
      obtain ⟨cur', hr, hs, hc⟩ := storeCells_row P g (n * i.size) e fz news 0 cur w hg hf hfit h1
      refine ⟨.slice (some ⟨g, 0, none⟩) (n + m) cap, w.setRow g cur', ?_, ⟨hlen', .inr ⟨g, cap, cur', fz, rfl, hbg, setRow_heap w g cur _ e fz hg, by rw [hs]; exact hf, hroom, hcm, by rw [hs, hcs], ?_⟩⟩, ⟨rfl, rfl, rfl, by simp, fun k _ hk => setRow_other w g k _ (fun e => hk (by simp [Value.ownBlock, e]))⟩, .inl rfl⟩
      · have hadd : (⟨g, 0, none⟩ : Addr).add (n * i.size) = ⟨g, n * i.size, none⟩ := by rw [Addr.add_lit, Nat.zero_add]
        rcases hu with hu | hu <;> simp [Builtin.append_, run_underlying ht, run_underlying hu, sizeOf, typeInfo, hi, hlen, hroom, hf0, hadd, hr]
      · apply List.ext_getElem?
        intro j
        rw [List.getElem?_take, Array.getElem?_toList, hc j]
        by_cases hj : j < n * i.size
        · rw [if_pos (by rw [Nat.add_mul]; omega), if_neg (by omega), List.getElem?_append_left (by omega), ← htake, List.getElem?_take, if_pos hj]
          simp
        · by_cases hj2 : j < (n + m) * i.size
          · have hj3 := hj2
            rw [Nat.add_mul] at hj3
            rw [if_pos hj2, if_pos (by omega), List.getElem?_append_right (by omega), hxl, Nat.add_zero]
          · rw [if_neg hj2, List.getElem?_eq_none (by rw [hlen']; omega)]
    · obtain ⟨r1, r2⟩ := fresh cap (by omega) (Value.slice (some ⟨g, 0, none⟩) n cap).ownBlock
      refine ⟨_, _, ?_, r1, r2, .inr ⟨_, rfl, Nat.le_refl _⟩⟩
      have h48 : ¬ (281474976710656 < Builtin.nextslicecap (n + m) cap * i.bytes) := by
        have := growslice_fits (need := n + m) (old := cap) (bytes := i.bytes) (by omega) hbig
        omega
      have hfo := run_firstCells_some (P := P) w.drew i.size n ⟨g, 0, none⟩ n cap xs hxl (fun j u hj => by
        have hj' : j < n * i.size := by rw [← hxl]; exact (List.getElem?_eq_some_iff.1 hj).1
        rw [Addr.add_lit, Nat.zero_add]
        exact (OwnC.cell hown j hj').trans hj)
      rcases hu with hu | hu <;> simp [Builtin.append_, run_underlying ht, run_underlying hu, sizeOf, typeInfo, zeroValue, hi, hz, hlen, hroom, h63', h48, Question.forced, hf1, hfo, newRow, grownCap]
      all_goals
        congr 2
        apply Array.ext'
        simp

theorem OwnR.grow {α : Type} {f : α → List Value} {sz B : Nat} {e : TypeId} {w w' : World} {v : Value} {l : List α} {r : Option Nat} (h : OwnR f sz B e w v l) (hg : w.grownBy w' r) (hne : v.ownBlock = none ∨ v.ownBlock ≠ r) : OwnR f sz B e w' v l := OwnC.grown h hg hne
end Go.Proofs.Ytkpdcejnanhgoaa
/- An append of a whole row to a row of the call's own, as one operation. No conditions beyond sizes. -/
namespace Go.Proofs.Ytkpdcejnanhgoaa
open Go.RowKit
theorem flatMap_lenA {α : Type} {f : α → List Value} {sz : Nat} (hf : ∀ y, (f y).length = sz) : ∀ l : List α, (l.flatMap f).length = l.length * sz
  | [] => by simp
  | a :: l => by rw [List.flatMap_cons, List.length_append, hf, flatMap_lenA hf l, List.length_cons, Nat.succ_mul]; omega
theorem app_rowW {α : Type} {f : α → List Value} {sz B : Nat} {e : TypeId} {P : Program} {w : World} {v : Value} {l0 l1 : List α} {o : Oper} {a : Act} {K : Act → World → Prop} {Q : Exit → Act → World → Prop} {t : TypeId} {z : Value} (bytes : Nat)
    (hf : ∀ y, (f y).length = sz) (ho : ∀ y, y ∈ l1 → ∀ u ∈ f y, u.oneCell' = true) (h1 : P.underlying t = some (.slice e)) (h2 : (P.info? e).map (fun i => (i.zero, i.size, i.bytes)) = some (some z, sz, bytes)) (hzs : z.cells.size = sz)
    (s x' : Operand) (hop : o.op = Op.call { callee := Callee.builtin Builtin.append, args := #[s, x'], argTypes := #[t, t] }) (hs : a.eval s = v) (hx : RowOf f sz w (a.eval x') l1)
    (hown : OwnR f sz B e w v l0) (hB : B ≤ w.heap.size) (hbig : (l0.length + l1.length) * bytes ≤ 140737488355328) (h63 : l0.length + l1.length ≤ maxLen)
    (hK : ∀ v' w', OwnR f sz B e w' v' (l0 ++ l1) → w.grownBy w' v.ownBlock → K (a.put o.dst v') w') : o.wp P a w K Q := by
  obtain ⟨i, hi, hz0, hz1, hz2⟩ := info_parts h2
  have hfl := flatMap_lenA hf l1
  obtain ⟨ad, cap, hxe, _, _, _, hc⟩ := hx
  have hlen : (Builtin.lenOf (a.eval x')).run P w = .ok l1.length w := by rw [hxe]; exact lenOf_slice
  have hfc : ∀ k : Nat, (Builtin.firstCells sz l1.length (a.eval x')).run P (w.drewN k) = .ok (l1.flatMap f).toArray (w.drewN k) := fun k => by
    rw [hxe]
    rcases hc with h0 | ⟨b, off, rfl, _, hc⟩
    · have : l1 = [] := List.eq_nil_of_length_eq_zero h0
      subst this
      cases ad with
      | none => exact firstCells_none k
      | some ad => exact firstCells_at (news := []) (by simp) (fun j u hj => by simp at hj) k
    · refine firstCells_at hfl (fun j u hj => ?_) k
      have hj' : j < (l1.flatMap f).length := (List.getElem?_eq_some_iff.1 hj).1
      rw [Addr.add_lit, hc j (by omega)]; exact hj
  have h1c : ∀ u ∈ l1.flatMap f, u.oneCell' = true := fun u hu => by
    obtain ⟨y, hm, hy⟩ := List.mem_flatMap.1 hu
    exact ho y hm u hy
  obtain ⟨v', w', hrun, r1, r2⟩ := run_append_C (P := P) w B t t o.type e i z sz bytes h1 (.inl h1) hi hz0 hz1 hz2 hzs v l0.length (l0.flatMap f) hown (a.eval x') l1.length (l1.flatMap f) hlen hfc hfl h1c hbig h63 hB
  unfold Oper.wp
  simp [execOp, hop, resolve, invoke, builtin, hs, hrun, Result.andThen]
  refine hK _ _ ?_ r2
  unfold OwnR
  rw [List.length_append, List.flatMap_append]; exact r1
theorem grown_below {B : Nat} {w w' : World} {r : Option Nat} (h : w.grownBy w' r) (hB : B ≤ w.heap.size) (hr : ∀ k, r = some k → B ≤ k) : Below B w w' :=
  (Below.refl _ _).grown h hB hr
theorem grown_obj {w w' : World} {r : Option Nat} (h : w.grownBy w' r) {g : Nat} {o : Obj} (hg : w.heap[g]? = some o) (hne : r ≠ some g) : w'.heap[g]? = some o := by
  rw [h.block g (Array.getElem?_eq_some_iff.1 hg).1 hne.symm]; exact hg
end Go.Proofs.Ytkpdcejnanhgoaa
