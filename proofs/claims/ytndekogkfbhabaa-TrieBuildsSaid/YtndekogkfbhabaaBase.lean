/- Base laws of mine, for walks over any program: appends to a row of the call's own, bytes to a text, results. No conditions. -/
import Derived.Test.YtndekogkfbhabaaOwn
namespace Go.Proofs.Ytndekogkfbhabaa
open Go.RowKit

theorem nn_add (a b : Nat) : ((0 : Int) ≤ (a : Int) + (b : Int)) = True := by simp; omega
theorem nn_add1 (a b : Nat) : ((0 : Int) ≤ (a : Int) + (b : Int) + 1) = True := by simp; omega
theorem nn_s (a : Nat) : ((0 : Int) ≤ (a : Int) + 1) = True := by simp; omega

attribute [go_sem] nn_add nn_add1 nn_s

/-- a bound that the walk must not see -/
def U64 (n : Nat) : Prop := n < 18446744073709551616
def U32 (n : Nat) : Prop := n < 4294967296

theorem wu64 {x : Int} (h0 : 0 ≤ x) (h : U64 x.toNat) : IntKind.u64.wrap x = x := IntWalk.u64_in x (by unfold U64 at h; omega)
theorem wu32 {x : Int} (h0 : 0 ≤ x) (h : U32 x.toNat) : IntKind.u32.wrap x = x := IntWalk.u32_in x (by unfold U32 at h; omega)
theorem U64.le {a b : Nat} (h : U64 b) (h' : a ≤ b) : U64 a := by unfold U64 at *; omega
def I64 (a : Int) : Prop := -9223372036854775808 ≤ a ∧ a ≤ 9223372036854775807
theorem wi64 {x : Int} (h : I64 x) : IntKind.i64.wrap x = x := IntWalk.i64_in x h
theorem I64.u64 {x : Int} (h : I64 x) : U64 x.toNat := by unfold U64; unfold I64 at h; omega
theorem u64_small {n : Nat} (h : n ≤ 1000000000000000) : U64 n := by unfold U64; omega
theorem i64_small {x : Int} (h : -1000000000000000 ≤ x ∧ x ≤ 1000000000000000) : I64 x := by unfold I64; omega
theorem nat_u64 {a : Int} (h : (Lit.int .u64 a).wf = true) : ∃ n : Nat, a = n ∧ U64 n := by
  have hx : 0 ≤ a ∧ a ≤ 18446744073709551615 := by simpa [Lit.wf, IntKind.min, IntKind.max, IntKind.signed, IntKind.bits] using h
  exact ⟨a.toNat, by omega, by unfold U64; omega⟩
theorem nat_u32 {a : Int} (h : (Lit.int .u32 a).wf = true) : ∃ n : Nat, a = n ∧ U32 n := by
  have hx : 0 ≤ a ∧ a ≤ 4294967295 := by simpa [Lit.wf, IntKind.min, IntKind.max, IntKind.signed, IntKind.bits] using h
  exact ⟨a.toNat, by omega, by unfold U32; omega⟩
theorem nat_u16 {a : Int} (h : (Lit.int .u16 a).wf = true) : ∃ n : Nat, a = n ∧ n < 65536 := by
  have hx : 0 ≤ a ∧ a ≤ 65535 := by simpa [Lit.wf, IntKind.min, IntKind.max, IntKind.signed, IntKind.bits] using h
  exact ⟨a.toNat, by omega, by omega⟩
theorem nat_u8 {a : Int} (h : (Lit.int .u8 a).wf = true) : ∃ n : Nat, a = n ∧ n < 256 := by
  have hx : 0 ≤ a ∧ a ≤ 255 := by simpa [Lit.wf, IntKind.min, IntKind.max, IntKind.signed, IntKind.bits] using h
  exact ⟨a.toNat, by omega, by omega⟩
theorem int_i64 {a : Int} (h : (Lit.int .i64 a).wf = true) : I64 a := by
  have hx : -9223372036854775808 ≤ a ∧ a ≤ 9223372036854775807 := by simpa [Lit.wf, IntKind.min, IntKind.max, IntKind.signed, IntKind.bits] using h
  exact hx
/-- a slice of numbers that came in: nil, or a row of 'cap' cells, the numbers 'zs' -/
def IsRow (k : IntKind) (w : World) (a : Option Addr) (len cap : Nat) (zs : List Int) : Prop :=
  (a = none ∧ len = 0 ∧ cap = 0 ∧ zs = []) ∨
  ∃ x, a = some x ∧ len ≤ cap ∧ cap ≤ maxLen ∧ zs.length = cap ∧ (∀ i, i < zs.length → w.cell? (x.add i) = some (.int k (zs.getD i 0))) ∧ ∀ n ∈ zs, (Lit.int k n).wf = true

theorem below_of_drew {B : Nat} {w w' : World} (h : Below B w.drew w') : Below B w w' := ⟨h.os, h.tape, h.output, h.size, h.block⟩
/-- a byte, closed to simp -/
def u8 (n : Nat) : UInt8 := UInt8.ofNat n
theorem u8_toNat (n : Nat) : (u8 n).toNat = n % 256 := by simp [u8]
theorem u8_toNat_lt {n : Nat} (h : n < 256) : (u8 n).toNat = n := by rw [u8_toNat]; omega
theorem u8_self (b : UInt8) : u8 b.toNat = b := by simp [u8]
theorem u8_congr {a b : Nat} (h : a % 256 = b % 256) : u8 a = u8 b := by
  apply UInt8.toNat_inj.1
  rw [u8_toNat, u8_toNat, h]
theorem byte_of (m : Nat) : u8 ((m : Int) % 256).toNat = u8 m := u8_congr (by omega)

/-- a text's byte, as the list's -/
theorem ba_get (s : ByteArray) (i : Nat) (h : i < s.size) : s[i] = s.data.toList.getD i 0 := by
  show s.data[i] = _
  have h' : i < s.data.size := h
  simp only [List.getD, Array.getElem?_toList]
  rw [Array.getElem?_eq_getElem h']; rfl
theorem ba_len (s : ByteArray) : s.data.toList.length = s.size := by simp
def at8 (t : List UInt8) (i : Nat) : Nat := (t.getD i 0).toNat
theorem at8_lt (t : List UInt8) (i : Nat) : at8 t i < 256 := UInt8.toNat_lt _
theorem ba_at (s : ByteArray) (i : Nat) (h : i < s.size) : s[i].toNat = at8 s.data.toList i := by rw [ba_get]; rfl
attribute [go_sem] ba_at
theorem ba_extract (s : ByteArray) (i j : Nat) : s.extract i j = ⟨((s.data.toList.drop i).take (j - i)).toArray⟩ := by
  apply ByteArray.ext
  apply Array.ext'
  exact Lib.extract_data s i j

def toU8s (l : List Int) : List UInt8 := l.map fun n => u8 n.toNat
theorem toU8s_append (a b : List Int) : toU8s (a ++ b) = toU8s a ++ toU8s b := by simp [toU8s]
theorem toU8s_nil : toU8s [] = [] := rfl
theorem toU8s_cons (a : Int) (l : List Int) : toU8s (a :: l) = u8 a.toNat :: toU8s l := rfl

attribute [simp] toU8s_nil toU8s_cons

/-- the call's own row of numbers -/
def OwnI (B : Nat) (e : TypeId) (k : IntKind) (w : World) (v : Value) (l : List Int) : Prop := OwnC B e 1 w v l.length (l.map (Value.int k))

theorem OwnI.nil (B : Nat) (e : TypeId) (k : IntKind) (w : World) : OwnI B e k w (.slice none 0 0) [] := OwnC.nil

theorem OwnI.lit {B : Nat} {e : TypeId} {k : IntKind} (w : World) (l : List Int) (hB : B ≤ w.heap.size) (n : Nat) (hn : n = l.length) (hm : n ≤ maxLen) :
    OwnI B e k (w.alloc (.cells (l.map (Value.int k)).toArray e)) (.slice (some ⟨w.heap.size, 0, none⟩) n n) l := by
  subst hn
  have h := World.ownsRow_lit (base := B) (e := e) (size := 1) w (l.map (Value.int k)).toArray l.length hB hm (by simp)
  exact OwnC.of_own (by simpa using h)

theorem OwnI.below {B : Nat} {e : TypeId} {k : IntKind} {w : World} {v : Value} {l : List Int} (h : OwnI B e k w v l) {g : Nat} (hg : v.ownBlock = some g) : B ≤ g := (OwnC.lt h g hg).1
theorem OwnI.of_c {B : Nat} {e : TypeId} {k : IntKind} {w : World} {v : Value} {l l' : List Int} {n : Nat} (h : OwnC B e 1 w v (l.length + n) (l.map (Value.int k) ++ l'.map (Value.int k))) (hn : n = l'.length) : OwnI B e k w v (l ++ l') := by
  subst hn
  simpa [OwnI, List.map_append] using h

/-- append of a block that was just laid ('append(l, x, y)') to a row of the call's own -/
theorem app_ints {P : Program} {w : World} {ops : Array Oper} {rest : List Oper} {o : Oper} {a : Act} {Q : Exit → Act → World → Prop} {t e : TypeId} (B : Nat) {v : Value} {l : List Int} {k : IntKind} (bytes : Nat) {m : Nat} {cs : Array Value} (xs : List Int) (h1 : P.underlying t = some (.slice e)) (h2 : (P.info? e).map (fun i => (i.zero, i.size, i.bytes)) = some (some (.int k 0), 1, bytes)) (hby : bytes ≤ 8)
    (hg : o.guard = none) (s x' : Operand) (hop : o.op = Op.call { callee := Callee.builtin Builtin.append, args := #[s, x'], argTypes := #[t, t] })
    (hs : a.eval s = v) (hx : a.eval x' = .slice (some ⟨w.heap.size, 0, none⟩) m m) (hcs : cs = (xs.map (Value.int k)).toArray) (hm : m = xs.length)
    (hown : OwnI B e k w v l) (hB : B ≤ w.heap.size) (hlen : l.length + m < 17592186044416)
    (hK : ∀ v' w', OwnI B e k w' v' (l ++ xs) → Below B w w' → w.heap.size ≤ w'.heap.size → wpList P ops Q rest (a.put o.dst v') w') :
    wpList P ops Q (o :: rest) a (w.alloc (.cells cs e)) := by
  subst hcs hm
  refine wp_append B 1 bytes h1 (.inl h1) h2 rfl hg s x' hop hs xs.length (xs.map (Value.int k)) (by rw [hx]; exact lenOf_slice) ?_ (by simp) (ints_oneCell k xs) (OwnC.alloc hown _) (by simp; omega) ?_ (by unfold maxLen; omega) ?_
  · rw [hx]
    exact firstCells_at (by simp) (fun j u hj => by
      rw [Addr.add_lit, Nat.zero_add, cell_of_row _ w.heap.size j _ e (0, 0) (Go.heap_alloc_new w _)]
      simpa using hj)
  · have : (l.length + xs.length) * bytes ≤ 17592186044416 * 8 := Nat.mul_le_mul (by omega) hby
    omega
  · intro v' w1 hown' hgrow
    refine hK v' w1 (OwnI.of_c hown' rfl) ?_ ?_
    · exact ((Below.refl _ _).alloc hB _).grown hgrow (by simp; omega) (fun k hk => (OwnC.lt hown k hk).1)
    · have := hgrow.size; simp at this; omega

/-- append of a text's bytes ('append(b, s...)') to a row of the call's own -/
theorem app_str {P : Program} {w : World} {ops : Array Oper} {rest : List Oper} {o : Oper} {a : Act} {Q : Exit → Act → World → Prop} {t u e : TypeId} (B : Nat) {v : Value} {l : List Int} (x : List UInt8) (h1 : P.underlying t = some (.slice e)) (hu : P.underlying u = some .string) (h2 : (P.info? e).map (fun i => (i.zero, i.size, i.bytes)) = some (some (.int .u8 0), 1, 1))
    (hg : o.guard = none) (s x' : Operand) (hop : o.op = Op.call { callee := Callee.builtin Builtin.append, args := #[s, x'], argTypes := #[t, u] })
    (hs : a.eval s = v) (hx : a.eval x' = .string ⟨x.toArray⟩)
    (hown : OwnI B e .u8 w v l) (hB : B ≤ w.heap.size) (hlen : l.length + x.length ≤ 140737488355328)
    (hK : ∀ v' w', OwnI B e .u8 w' v' (l ++ x.map fun b => (b.toNat : Int)) → Below B w w' → w.heap.size ≤ w'.heap.size → wpList P ops Q rest (a.put o.dst v') w') :
    wpList P ops Q (o :: rest) a w := by
  have hsz : (⟨x.toArray⟩ : ByteArray).size = x.length := by simp [ByteArray.size]
  refine wp_append B 1 1 h1 (.inr hu) h2 rfl hg s x' hop hs (⟨x.toArray⟩ : ByteArray).size (Lib.strCells ⟨x.toArray⟩) (by rw [hx]; exact lenOf_str) ?_ (by rw [Lib.strCells_length]; simp) (Lib.strCells_oneCell _) hown hB (by rw [hsz]; omega) (by rw [hsz]; unfold maxLen; omega) ?_
  · rw [hx]; exact firstCells_str
  · intro v' w1 hown' hgrow
    have hcs : Lib.strCells ⟨x.toArray⟩ = (x.map fun b => (b.toNat : Int)).map (Value.int .u8) := by simp [Lib.strCells]
    rw [hcs, hsz] at hown'
    refine hK v' w1 (OwnI.of_c hown' (by simp)) ?_ hgrow.size
    exact (Below.refl _ _).grown hgrow hB (fun k hk => (OwnC.lt hown k hk).1)

theorem foldl_toU8s (l : List Int) : ∀ s : ByteArray, l.foldl (fun r n => r.push (UInt8.ofNat n.toNat)) s = ⟨s.data ++ (toU8s l).toArray⟩ := by
  induction l with
  | nil => intro s; simp
  | cons x l ih =>
    intro s
    rw [List.foldl_cons, ih]
    show ByteArray.mk _ = _
    congr 1
    show (s.data.push _) ++ _ = _
    rw [toU8s_cons]
    apply Array.ext'
    simp [u8]

/-- 'string(b)', b a row of the call's own -/
theorem conv_own {P : Program} {w : World} {B : Nat} {e : TypeId} {v : Value} {l : List Int} {t d : TypeId} (h1 : P.underlying t = some (.slice e)) (h2 : P.underlying e = some (.int .u8)) (h3 : P.underlying d = some .string)
    (hown : OwnI B e .u8 w v l) : (convert t d v).run P w = .ok (.string ⟨(toU8s l).toArray⟩) w := by
  rcases hown.2 with ⟨rfl, h0⟩ | ⟨g, cap, cur, fz, rfl, hb, hg, hf, hnc, hcm, hcs, htake⟩
  · have : l = [] := List.eq_nil_of_length_eq_zero h0
    subst this
    rw [run_convert_bytes_string w t d e _ _ _ h1 h2 h3]
    simp [Conv.bytesToString, Sem.run_pure]
    rfl
  · rw [run_convert_bytes_string w t d e _ _ _ h1 h2 h3, run_bytesToString w ⟨g, 0, none⟩ l.length cap l, foldl_toU8s]
    · simp
    · have h := run_loadCells_list (P := P) w ⟨g, 0, none⟩ (l.map (Value.int .u8)) (fun j u hj => by
        have hj' : j < l.length := by simpa using (List.getElem?_eq_some_iff.1 hj).1
        rw [Addr.add_lit, Nat.zero_add, OwnC.cell hown j (by omega)]
        exact hj)
      simpa using h

/-- '[]byte(s)': a row of the call's own -/
theorem own_of_bytes {w : World} {B : Nat} {e : TypeId} (s : ByteArray) (hB : B ≤ w.heap.size) (hm : s.size ≤ maxLen) :
    OwnI B e .u8 (w.drew.alloc (.cells (bytesRow s (grownCap w s.size 0 e)) e ((bytesRow s (grownCap w s.size 0 e)).size, (bytesRow s (grownCap w s.size 0 e)).size + 1))) (.slice (some ⟨w.heap.size, 0, none⟩) s.size (grownCap w s.size 0 e)) (s.data.toList.map fun b => (b.toNat : Int)) := by
  have hge := grownCap_ge w s.size 0 e
  have hcm := grownCap_le_maxLen w s.size 0 e hm
  have hl : (s.data.toList.map fun b => (b.toNat : Int)).length = s.size := by simp
  unfold OwnI
  rw [hl]
  refine ⟨by simp, .inr ⟨w.heap.size, _, _, _, rfl, hB, Go.heap_alloc_new w.drew _, fun j h => by simp; omega, hge, hcm, ?_, ?_⟩⟩
  · have e : s.data.size = s.size := rfl
    simp [bytesRow, e]; omega
  · rw [bytesRow, Array.toList_append, List.take_append_of_le_length (by simp)]
    rw [List.take_of_length_le (by simp)]
    simp
theorem wp_bytes_of {P : Program} {w : World} {ops : Array Oper} {rest : List Oper} {o : Oper} {a : Act} {Q : Exit → Act → World → Prop} {e : TypeId} {t d : TypeId} (B : Nat) (x : List UInt8) (h1 : P.underlying t = some .string) (h3 : P.underlying d = some (.slice e)) (h2 : P.underlying e = some (.int .u8))
    (hg : o.guard = none) (x' : Operand) (hop : o.op = Op.convert t d x') (hs : a.eval x' = .string ⟨x.toArray⟩) (hB : B ≤ w.heap.size) (hm : x.length ≤ maxLen)
    (hK : ∀ v' w', OwnI B e .u8 w' v' (x.map fun b => (b.toNat : Int)) → Below w.heap.size w w' → wpList P ops Q rest (a.put o.dst v') w') : wpList P ops Q (o :: rest) a w := by
  refine wpList_plain hg fun K hK' => ?_
  have hsz : (⟨x.toArray⟩ : ByteArray).size = x.length := by simp [ByteArray.size]
  have hrun := run_bytes_of_string (P := P) w t d e ⟨x.toArray⟩ h1 h3 h2
  have hown := own_of_bytes (w := w) (B := B) (e := e) ⟨x.toArray⟩ hB (by rw [hsz]; exact hm)
  unfold Oper.wp
  simp [execOp, hop, hs, hrun, Result.andThen]
  refine hK' _ _ (hK _ _ (by simpa using hown) ?_)
  exact ((Below.refl _ _).drew).alloc (by simp) _

theorem wp_conv_own {P : Program} {w : World} {ops : Array Oper} {rest : List Oper} {o : Oper} {a : Act} {Q : Exit → Act → World → Prop} {B : Nat} {e : TypeId} {v : Value} {l : List Int} {t d : TypeId} (h1 : P.underlying t = some (.slice e)) (h2 : P.underlying e = some (.int .u8)) (h3 : P.underlying d = some .string)
    (hg : o.guard = none) (x : Operand) (hop : o.op = Op.convert t d x) (hs : a.eval x = v) (hown : OwnI B e .u8 w v l)
    (hK : wpList P ops Q rest (a.put o.dst (.string ⟨(toU8s l).toArray⟩)) w) : wpList P ops Q (o :: rest) a w := by
  refine wpList_plain hg fun K hK' => ?_
  have hrun := conv_own h1 h2 h3 hown
  unfold Oper.wp
  simp [execOp, hop, hs, hrun, Result.andThen]
  exact hK' _ _ hK

/-- 'string([]byte{x, y, ..})' -/
theorem wp_conv_lit {P : Program} {w : World} {ops : Array Oper} {rest : List Oper} {o : Oper} {a : Act} {Q : Exit → Act → World → Prop} {e : TypeId} {t d : TypeId} {m : Nat} {cs : Array Value} (xs : List Int) (h1 : P.underlying t = some (.slice e)) (h2 : P.underlying e = some (.int .u8)) (h3 : P.underlying d = some .string)
    (hg : o.guard = none) (x : Operand) (hop : o.op = Op.convert t d x) (hs : a.eval x = .slice (some ⟨w.heap.size, 0, none⟩) m m) (hcs : cs = (xs.map (Value.int .u8)).toArray) (hm : m = xs.length) (hlen : m < 1000000)
    (hK : wpList P ops Q rest (a.put o.dst (.string ⟨(toU8s xs).toArray⟩)) (w.alloc (.cells cs e))) : wpList P ops Q (o :: rest) a (w.alloc (.cells cs e)) := by
  subst hcs
  exact wp_conv_own h1 h2 h3 hg x hop hs (OwnI.lit (B := 0) w xs (Nat.zero_le _) m hm (by unfold maxLen; omega)) hK

theorem wp_conv_lit1 {P : Program} {w : World} {ops : Array Oper} {rest : List Oper} {o : Oper} {a : Act} {Q : Exit → Act → World → Prop} {e : TypeId} {t d : TypeId} {x0 : Int} (h1 : P.underlying t = some (.slice e)) (h2 : P.underlying e = some (.int .u8)) (h3 : P.underlying d = some .string)
    (hg : o.guard = none) (x : Operand) (hop : o.op = Op.convert t d x) (hs : a.eval x = .slice (some ⟨w.heap.size, 0, none⟩) 1 1)
    (hK : wpList P ops Q rest (a.put o.dst (.string ⟨[u8 x0.toNat].toArray⟩)) (w.alloc (.cells #[.int .u8 x0] e))) : wpList P ops Q (o :: rest) a (w.alloc (.cells #[.int .u8 x0] e)) :=
  wp_conv_lit [x0] h1 h2 h3 hg x hop hs rfl rfl (by decide) hK
theorem wp_conv_lit2 {P : Program} {w : World} {ops : Array Oper} {rest : List Oper} {o : Oper} {a : Act} {Q : Exit → Act → World → Prop} {e : TypeId} {t d : TypeId} {x0 x1 : Int} (h1 : P.underlying t = some (.slice e)) (h2 : P.underlying e = some (.int .u8)) (h3 : P.underlying d = some .string)
    (hg : o.guard = none) (x : Operand) (hop : o.op = Op.convert t d x) (hs : a.eval x = .slice (some ⟨w.heap.size, 0, none⟩) 2 2)
    (hK : wpList P ops Q rest (a.put o.dst (.string ⟨[u8 x0.toNat, u8 x1.toNat].toArray⟩)) (w.alloc (.cells #[.int .u8 x0, .int .u8 x1] e))) : wpList P ops Q (o :: rest) a (w.alloc (.cells #[.int .u8 x0, .int .u8 x1] e)) :=
  wp_conv_lit [x0, x1] h1 h2 h3 hg x hop hs rfl rfl (by decide) hK
theorem wp_conv_lit3 {P : Program} {w : World} {ops : Array Oper} {rest : List Oper} {o : Oper} {a : Act} {Q : Exit → Act → World → Prop} {e : TypeId} {t d : TypeId} {x0 x1 x2 : Int} (h1 : P.underlying t = some (.slice e)) (h2 : P.underlying e = some (.int .u8)) (h3 : P.underlying d = some .string)
    (hg : o.guard = none) (x : Operand) (hop : o.op = Op.convert t d x) (hs : a.eval x = .slice (some ⟨w.heap.size, 0, none⟩) 3 3)
    (hK : wpList P ops Q rest (a.put o.dst (.string ⟨[u8 x0.toNat, u8 x1.toNat, u8 x2.toNat].toArray⟩)) (w.alloc (.cells #[.int .u8 x0, .int .u8 x1, .int .u8 x2] e))) : wpList P ops Q (o :: rest) a (w.alloc (.cells #[.int .u8 x0, .int .u8 x1, .int .u8 x2] e)) :=
  wp_conv_lit [x0, x1, x2] h1 h2 h3 hg x hop hs rfl rfl (by decide) hK
theorem wp_conv_lit4 {P : Program} {w : World} {ops : Array Oper} {rest : List Oper} {o : Oper} {a : Act} {Q : Exit → Act → World → Prop} {e : TypeId} {t d : TypeId} {x0 x1 x2 x3 : Int} (h1 : P.underlying t = some (.slice e)) (h2 : P.underlying e = some (.int .u8)) (h3 : P.underlying d = some .string)
    (hg : o.guard = none) (x : Operand) (hop : o.op = Op.convert t d x) (hs : a.eval x = .slice (some ⟨w.heap.size, 0, none⟩) 4 4)
    (hK : wpList P ops Q rest (a.put o.dst (.string ⟨[u8 x0.toNat, u8 x1.toNat, u8 x2.toNat, u8 x3.toNat].toArray⟩)) (w.alloc (.cells #[.int .u8 x0, .int .u8 x1, .int .u8 x2, .int .u8 x3] e))) : wpList P ops Q (o :: rest) a (w.alloc (.cells #[.int .u8 x0, .int .u8 x1, .int .u8 x2, .int .u8 x3] e)) :=
  wp_conv_lit [x0, x1, x2, x3] h1 h2 h3 hg x hop hs rfl rfl (by decide) hK

/-- 's[i:j]', its bounds known -/
theorem slice_str {P : Program} {t : TypeId} (hu : P.underlying t = some .string) (s : ByteArray) (i j : Int) (a b : Nat) (hi : i = a) (hj : j = b) (h1 : a ≤ b) (h2 : b ≤ s.size) (wx : World) :
    (Instr.slice t (.string s) (some (.int .i64 i)) (some (.int .i64 j)) none).run P wx = .ok (.string ⟨((s.data.toList.drop a).take (b - a)).toArray⟩) wx := by
  have := run_slice_string (P := P) wx t s .i64 .i64 i j hu (by omega) (by omega) (by omega)
  rw [this, ba_extract]
  subst hi hj
  simp
theorem or_u32 (n c k : Nat) (hn : n < 2 ^ k) (h : U32 (c * 2 ^ k)) (hk : k < 32) : bits .or .u32 (n : Int) (IntKind.u32.wrap ((c : Int) * 2 ^ k)) = ((n + c * 2 ^ k : Nat) : Int) := by
  have hp : 2 ^ k < 4294967296 := Nat.lt_of_lt_of_le (Nat.pow_lt_pow_right (by omega : 1 < 2) hk) (by decide)
  have e : (c : Int) * 2 ^ k = ((c * 2 ^ k : Nat) : Int) := by simp
  rw [e, wu32 (by omega) (by rw [Int.toNat_natCast]; exact h), u32_or_nat _ _ (by omega) h, Nat.or_comm, nat_join k _ _ (by simp) hn, Nat.add_comm]
theorem or_u32' (n c k : Nat) (hn : n < 2 ^ k) (h : U32 (c * 2 ^ k)) (hk : k < 32) : bits .or .u32 (n : Int) ((c : Int) * 2 ^ k % 4294967296) = ((n + c * 2 ^ k : Nat) : Int) := by
  rw [← or_u32 n c k hn h hk, IntKind.wrap_u32]
theorem or_u64 (n c k : Nat) (hn : n < 2 ^ k) (h : U64 (c * 2 ^ k)) (hk : k < 64) : bits .or .u64 (n : Int) (IntKind.u64.wrap ((c : Int) * 2 ^ k)) = ((n + c * 2 ^ k : Nat) : Int) := by
  have hp : 2 ^ k < 18446744073709551616 := Nat.lt_of_lt_of_le (Nat.pow_lt_pow_right (by omega : 1 < 2) hk) (by decide)
  have e : (c : Int) * 2 ^ k = ((c * 2 ^ k : Nat) : Int) := by simp
  rw [e, wu64 (by omega) (by rw [Int.toNat_natCast]; exact h), u64_or_nat _ _ (by omega) h, Nat.or_comm, nat_join k _ _ (by simp) hn, Nat.add_comm]

theorem ret_i {k : IntKind} {a b : Int} (h : a = b) : Ending.returned (.int k a) = Ending.returned (.int k b) := by rw [h]
theorem ret_s {a b : List UInt8} (h : a = b) : Ending.returned (.string ⟨a.toArray⟩) = Ending.returned (.string ⟨b.toArray⟩) := by rw [h]
theorem ret_b {a b : Bool} (h : a = b) : Ending.returned (.bool a) = Ending.returned (.bool b) := by rw [h]
theorem ret_iii {k1 k2 k3 : IntKind} {a1 b1 a2 b2 a3 b3 : Int} (h1 : a1 = b1) (h2 : a2 = b2) (h3 : a3 = b3) : Ending.returned (.tuple #[.int k1 a1, .int k2 a2, .int k3 a3]) = Ending.returned (.tuple #[.int k1 b1, .int k2 b2, .int k3 b3]) := by rw [h1, h2, h3]
end Go.Proofs.Ytndekogkfbhabaa
