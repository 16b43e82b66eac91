/- Walks: a number is written (wire.Put, the reference's Put). Condition: it is of 64 bits. -/
import Derived.Test.YtbomloodllddaaaProg
import Derived.Test.YtbomloodllddaaaPk00
namespace Go.Proofs.Ytbomloodllddaaa
open Go.RowKit
theorem info_u8 : (Try.prog.info? 5).map (fun i => (i.zero, i.size, i.bytes)) = some (some (.int .u8 0), 1, 1) := by kernel_rfl

set_option maxRecDepth 100000 in
set_option maxHeartbeats 400000 in
theorem wire_Put (n : Nat) (w : World) (hn : U64 n) :
    Calls Try.prog 25 #[.int .u64 n] w fun e w' => e = .returned (.string ⟨(vput n).toArray⟩) ∧ Below w.heap.size w w' := by
  have hl0 := vput_len10 hn
  go_enter Try.func25, Try.ntmps25
  repeat' (first | go_values | go_skip | go_guarded | go_step | go_upon)
  go_loopw [0, 3] (fun s0 s3 wr => ∃ (m : Nat) (l : List Int), s0 = .int .u64 m ∧ l.length + (vput m).length ≤ 10 ∧ toU8s l ++ vput m = vput n ∧ OwnI w.heap.size 5 .u8 wr s3 l ∧ Below w.heap.size w wr) (fun s0 _ _ => (intOf s0).toNat)
  case atStart => exact ⟨n, [], rfl, by simpa using hl0, by simp, OwnI.nil _ _ _ _, Below.refl _ _⟩
  case round =>
    obtain ⟨m, l, rfl, hl, hn', hown, hb⟩ := hrel
    have hsz := hb.size
    have Hn := Lib.hid hn'; clear hn'
    by_cases h128 : m < 128
    · repeat' (first | (at_builtin; go_loud (refine app_ints w.heap.size 1 [_] Try.underlying58 info_u8 (by decide) rfl _ _ rfl rfl rfl rfl rfl hown hsz (by omega) ?_); intro v1 w1 hown1 hb1 _; have hcv := conv_own (d := 9) Try.underlying58 Try.underlying5 Try.underlying9 hown1) | go_values | go_skip | go_guarded | go_step | go_upon)
      go_ret
      refine ⟨ret_s ?_, hb.trans (hb1)⟩
      rw [← Hn.out, vput_lt h128, toU8s_append]
      simp [toU8s]
    · repeat' (first | (at_builtin; go_loud (refine app_ints w.heap.size 1 [_] Try.underlying58 info_u8 (by decide) rfl _ _ rfl rfl rfl rfl rfl hown hsz (by omega) ?_); intro v1 w1 hown1 hb1 _) | go_values | go_skip | go_guarded | go_step | go_upon)
      go_roundw
      case rel =>
        rw [vput_ge (by omega)] at hl
        refine ⟨m / 128, _, by go_num, ?_, ?_, hown1, hb.trans hb1⟩
        · simp at hl ⊢; omega
        · rw [← Hn.out, vput_ge (n := m) (by omega), toU8s_append]; simp [toU8s, bit_or128]
      case measure => simp [intOf]; omega
end Go.Proofs.Ytbomloodllddaaa
/- Walks: numbers of four bytes are written. Condition: the number is of 32 bits. -/
namespace Go.Proofs.Ytbomloodllddaaa
open Go.RowKit
def put4 (n : Nat) : List UInt8 := [u8 n, u8 (n / 256), u8 (n / 65536), u8 (n / 16777216)]
set_option maxRecDepth 100000 in
set_option maxHeartbeats 400000 in
theorem wire_PutFour (n : Nat) (w : World) :
    Calls Try.prog 66 #[.int .u32 n] w fun e w' => e = .returned (.string ⟨(put4 n).toArray⟩) ∧ Below w.heap.size w w' := by
  go_enter Try.func66, Try.ntmps66
  repeat' (first | (with_reducible refine wp_conv_lit4 Try.underlying58 Try.underlying5 Try.underlying9 rfl _ rfl rfl ?_) | go_values | go_skip | go_guarded | go_step | go_upon)
  go_ret
  refine ⟨ret_s ?_, (Below.refl _ _).alloc (Nat.le_refl _) _⟩
  simp only [put4, List.cons.injEq, and_true]
  refine ⟨?_, ?_, ?_, ?_⟩ <;> exact u8_congr (by omega)

end Go.Proofs.Ytbomloodllddaaa
/- Packs of sections, in plain Lean: written, read. No program. -/
namespace Go.Proofs.Ytbomloodllddaaa
/-- a section: its kind, its body -/
abbrev Sec := Nat × List UInt8
def psec (x : Sec) : List UInt8 := vput x.1 ++ (vput x.2.length ++ x.2)
def sizeS : List Sec → Nat
  | [] => 0
  | x :: l => x.2.length + sizeS l
theorem sizeS_append (a b : List Sec) : sizeS (a ++ b) = sizeS a + sizeS b := by
  induction a with
  | nil => simp [sizeS]
  | cons x a ih => simp [sizeS, ih]; omega
theorem sizeS_take_le (l : List Sec) (k : Nat) : sizeS (l.take k) ≤ sizeS l := by
  have := sizeS_append (l.take k) (l.drop k)
  rw [List.take_append_drop] at this
  omega
def begB : List UInt8 := [70, 83, 65, 87, 1]
/-- the first k kinds rise -/
def risesTo (l : List Sec) (k : Nat) : Bool := (List.range k).all fun i => i == 0 || decide ((l.getD (i - 1) (0, [])).1 < (l.getD i (0, [])).1)
theorem risesTo_succ (l : List Sec) (k : Nat) : risesTo l (k + 1) = (risesTo l k && (k == 0 || decide ((l.getD (k - 1) (0, [])).1 < (l.getD k (0, [])).1))) := by
  unfold risesTo; rw [List.range_succ, List.all_append]; simp
theorem risesTo_false {l : List Sec} {k n : Nat} (h : risesTo l k = false) (hk : k ≤ n) : risesTo l n = false := by
  induction n with
  | zero => obtain rfl : k = 0 := by omega
            exact h
  | succ n ih =>
    rcases Nat.eq_or_lt_of_le hk with rfl | hk
    · exact h
    · rw [risesTo_succ, ih (by omega)]; rfl
def packB (l : List Sec) : List UInt8 := begB ++ vput l.length ++ l.flatMap psec
def putP (l : List Sec) : List UInt8 × Int :=
  if 64 < l.length ∨ 8388608 < sizeS l then ([], 2) else if risesTo l l.length = true then (packB l ++ put4 (sumOn 0 (packB l)), 0) else ([], 1)
/-- a kind that may not stand behind another one -/
def lowAt : Option Nat → Nat → Bool
  | none, _ => false
  | some p, n => decide (n ≤ p)
/-- m sections, from a place; whether there was one ahead, and its kind -/
def secsF (s : List UInt8) : Nat → Option Nat → Int → List Sec × Int × Int
  | 0, _, at' => ([], at', 0)
  | m + 1, prev, at' =>
    if (vget s at').2.2 ≠ 0 then ([], 0, (vget s at').2.2) else
    if lowAt prev (vget s at').1 = true then ([], 0, 21) else
    if (gett s (vget s at').2.1 8388608).2.2 ≠ 0 then ([], 0, (gett s (vget s at').2.1 8388608).2.2) else
    let r := secsF s m (some (vget s at').1) (gett s (vget s at').2.1 8388608).2.1
    if r.2.2 ≠ 0 then ([], 0, r.2.2) else (((vget s at').1, (gett s (vget s at').2.1 8388608).1) :: r.1, r.2.1, 0)
def joinS (acc : List Sec) (r : List Sec × Int × Int) : List Sec × Int × Int := if r.2.2 ≠ 0 then ([], 0, r.2.2) else (acc ++ r.1, r.2.1, 0)
def getP (t : List UInt8) : List Sec × Int :=
  if t.length < 9 then ([], 20) else
  if t.take 5 ≠ begB then ([], 40) else
  if t.drop (t.length - 4) ≠ put4 (sumOn 0 (t.take (t.length - 4))) then ([], 41) else
  if (vget (t.take (t.length - 4)) 5).2.2 ≠ 0 then ([], (vget (t.take (t.length - 4)) 5).2.2) else
  if 64 < (vget (t.take (t.length - 4)) 5).1 then ([], 2) else
  let r := secsF (t.take (t.length - 4)) (vget (t.take (t.length - 4)) 5).1 none (vget (t.take (t.length - 4)) 5).2.1
  if r.2.2 ≠ 0 then ([], r.2.2) else
  if r.2.1 ≠ ((t.length - 4 : Nat) : Int) then ([], 21) else
  if 8388608 < sizeS r.1 then ([], 2) else (r.1, 0)
def rdNum (s : List UInt8) (at' bad : Int) : Nat × Int × Int := if bad ≠ 0 then (0, at', bad) else vget s at'
def rdText (s : List UInt8) (at' bad : Int) : List UInt8 × Int × Int := if bad ≠ 0 then ([], at', bad) else gett s at' 8388608
def rdMust (ok : Bool) (x bad : Int) : Int := if bad = 0 ∧ ok = false then x else bad
theorem vget_i64 {s : List UInt8} (hs : s.length ≤ 1000000000000000) (a : Int) : I64 (vget s a).2.1 := by
  rcases vget_cases s a with ⟨e, h, _⟩ | ⟨m, k, n, rfl, hk, hmk, _, _, h⟩
  · rw [h]; exact i64_small (by simp)
  · rw [h]; exact i64_small (by dsimp only; omega)
theorem gett_i64 {s : List UInt8} (hs : s.length ≤ 1000000000000000) (a : Int) : I64 (gett s a 8388608).2.1 := by
  unfold gett
  split
  · exact i64_small (by simp)
  · split
    · exact i64_small (by simp)
    · split
      · exact i64_small (by simp)
      · rename_i h1 h2 h3
        rcases vget_cases s a with ⟨e, h, he⟩ | ⟨m, k, n, rfl, hk, hmk, _, _, h⟩
        · rw [h] at h1; simp at h1; omega
        · rw [h] at h2 h3 ⊢; exact i64_small (by dsimp only at h2 h3 ⊢; omega)
theorem gett_len (s : List UInt8) (a : Int) : (gett s a 8388608).1.length ≤ 8388608 := by
  unfold gett
  split
  · simp
  · split
    · simp
    · split
      · simp
      · rename_i h1 h2 h3
        simp only [List.length_take, List.length_drop]
        omega
/-- the kind ahead -/
def lastK (l : List Sec) : Option Nat := l.getLast?.map (·.1)
theorem lastK_snoc (l : List Sec) (x : Sec) : lastK (l ++ [x]) = some x.1 := by simp [lastK]
/-- how a reading ends -/
def finP (n : Int) (r : List Sec × Int × Int) : List Sec × Int :=
  if r.2.2 ≠ 0 then ([], r.2.2) else if r.2.1 ≠ n then ([], 21) else if 8388608 < sizeS r.1 then ([], 2) else (r.1, 0)
/-- what stands at the head of each round of a reading whose answer is G -/
structure GInv (G : List Sec × Int) (n : Int) (s : List UInt8) (many k : Nat) (acc : List Sec) (at' bad : Int) : Prop where
  len : acc.length = k
  size : sizeS acc ≤ k * 8388608
  place : I64 at'
  good : bad = 0 → many ≤ 64 ∧ k ≤ many ∧ finP n (joinS acc (secsF s (many - k) (lastK acc) at')) = G
  wrong : bad ≠ 0 → G = ([], bad)
/-- whether a kind may stand behind those ahead -/
def okAfter (acc : List Sec) (n : Nat) : Bool := match lastK acc with | none => true | some p => decide (p < n)
theorem joinS_nil {r : List Sec × Int × Int} (h : r.2.2 ≠ 0 → r = ([], 0, r.2.2)) : joinS [] r = r := by
  unfold joinS
  by_cases hr : r.2.2 = 0
  · rw [if_neg (by simpa using hr)]; obtain ⟨r1, r2, r3⟩ := r; dsimp only at hr; subst hr; simp
  · rw [if_pos hr]; exact (h hr).symm
theorem secsF_bad (s : List UInt8) : ∀ (m : Nat) (prev : Option Nat) (a : Int), (secsF s m prev a).2.2 ≠ 0 → secsF s m prev a = ([], 0, (secsF s m prev a).2.2)
  | 0, _, _, h => by simp [secsF] at h
  | m + 1, prev, a, h => by
    simp only [secsF] at h ⊢
    split
    · rfl
    · split
      · rfl
      · split
        · rfl
        · split
          · rfl
          · rename_i h1 h2 h3 h4
            rw [if_neg h1, if_neg h2, if_neg h3, if_neg h4] at h
            simp at h
theorem GInv.start {G : List Sec × Int} {n : Int} {s : List UInt8} (hs : s.length ≤ 1000000000000000) {many : Nat} {a0 b0 : Int} (hv : vget s 5 = (many, a0, b0))
    (hG : G = if b0 ≠ 0 then ([], b0) else if 64 < many then ([], 2) else finP n (secsF s many none a0)) : GInv G n s many 0 [] a0 (rdMust (decide (many ≤ 64)) 2 b0) := by
  have hp := vget_i64 hs 5
  rw [hv] at hp
  refine ⟨rfl, by simp [sizeS], hp, fun hb => ?_, fun hb => ?_⟩
  · have h0 : b0 = 0 ∧ many ≤ 64 := by
      unfold rdMust at hb
      split at hb
      · cases hb
      · rename_i hne
        subst hb
        exact ⟨rfl, by simpa using hne⟩
    obtain ⟨rfl, hm⟩ := h0
    rw [if_neg (by simp), if_neg (by omega)] at hG
    refine ⟨hm, Nat.zero_le _, ?_⟩
    rw [hG, Nat.sub_zero, show lastK [] = none from rfl, joinS_nil (secsF_bad _ _ _ _)]
  · rw [hG]
    by_cases h0 : b0 = 0
    · subst h0
      by_cases hm : many ≤ 64
      · exfalso; apply hb; unfold rdMust; simp [hm]
      · rw [if_neg (by simp), if_pos (by omega)]
        unfold rdMust; simp [hm]
    · rw [if_pos h0]; unfold rdMust; simp [h0]
theorem GInv.step {G : List Sec × Int} {n : Int} {s : List UInt8} {many k : Nat} {acc : List Sec} {at' : Int} (hs : s.length ≤ 1000000000000000) (h : GInv G n s many k acc at' 0) (hk : k < many)
    {n1 : Nat} {a1 b1 : Int} (h1 : rdNum s at' 0 = (n1, a1, b1)) {b2 : Int} (h2 : rdMust (okAfter acc n1) 21 b1 = b2) {bd : List UInt8} {a3 b3 : Int} (h3 : rdText s a1 b2 = (bd, a3, b3)) :
    GInv G n s many (k + 1) (acc ++ [(n1, bd)]) a3 b3 := by
  obtain ⟨hm, _, hG⟩ := h.good rfl
  obtain ⟨j, hj⟩ : ∃ j, many - k = j + 1 := ⟨many - k - 1, by omega⟩
  rw [hj] at hG
  have hr : rdNum s at' 0 = vget s at' := by unfold rdNum; rw [if_neg (by simp)]
  rw [hr] at h1
  have hv := vget_i64 hs at'
  rw [h1] at hv
  have hbd : bd.length ≤ 8388608 ∧ I64 a3 := by
    unfold rdText at h3
    split at h3
    · simp at h3; obtain ⟨rfl, rfl, _⟩ := h3; exact ⟨by simp, hv⟩
    · have e1 := gett_len s a1
      have e2 := gett_i64 hs a1
      rw [h3] at e1 e2; exact ⟨e1, e2⟩
  refine ⟨by simp [h.len], ?_, hbd.2, ?_, ?_⟩
  · rw [sizeS_append]; have := h.size; simp [sizeS]; omega
  all_goals
    simp only [secsF, h1] at hG
    intro hb3
  · -- nothing is wrong
    have hb2 : b2 = 0 := by
      unfold rdText at h3
      split at h3
      · rename_i hne; simp at h3; omega
      · rename_i hne; simpa using hne
    subst hb2
    have hb1 : b1 = 0 ∧ okAfter acc n1 = true := by
      unfold rdMust at h2
      split at h2
      · cases h2
      · rename_i hne
        subst h2
        exact ⟨rfl, by simpa using hne⟩
    obtain ⟨rfl, hok⟩ := hb1
    subst hb3
    have ht : gett s a1 8388608 = (bd, a3, 0) := by unfold rdText at h3; rwa [if_neg (by simp)] at h3
    rw [if_neg (by simp), if_neg (by unfold okAfter at hok; cases hl : lastK acc <;> simp_all [lowAt]), ht, if_neg (by simp)] at hG
    refine ⟨hm, by omega, ?_⟩
    rw [show many - (k + 1) = j from by omega, lastK_snoc]
    dsimp only at hG ⊢
    rw [← hG]
    congr 1
    unfold joinS
    generalize secsF s j (some n1) a3 = r
    obtain ⟨r1, r2, r3⟩ := r
    dsimp only
    by_cases hr3 : r3 = 0
    · subst hr3; simp
    · simp [hr3]
  · -- something is
    rw [← hG]
    have fin_bad : ∀ e : Int, e ≠ 0 → finP n (joinS acc ([], 0, e)) = ([], e) := fun e he => by unfold finP joinS; simp [he]
    by_cases hb1 : b1 = 0
    · subst hb1
      rw [if_neg (by simp)]
      by_cases hok : okAfter acc n1 = true
      · have hb2 : b2 = 0 := by rw [← h2, hok]; unfold rdMust; simp
        subst hb2
        have ht : gett s a1 8388608 = (bd, a3, b3) := by unfold rdText at h3; rwa [if_neg (by simp)] at h3
        rw [if_neg (by unfold okAfter at hok; cases hl : lastK acc <;> simp_all [lowAt]), ht, if_pos hb3]
        exact fin_bad _ hb3
      · have hok' : okAfter acc n1 = false := by simpa using hok
        have hb2 : b2 = 21 := by rw [← h2, hok']; unfold rdMust; simp
        subst hb2
        have : b3 = 21 := by unfold rdText at h3; rw [if_pos (by decide)] at h3; simp at h3; exact h3.2.2.symm
        subst this
        rw [if_pos (by unfold okAfter at hok'; cases hl : lastK acc <;> simp_all [lowAt])]
        exact fin_bad _ (by decide)
    · have hb2 : b2 = b1 := by rw [← h2]; unfold rdMust; rw [if_neg (by simp [hb1])]
      subst hb2
      have : b3 = b2 := by unfold rdText at h3; rw [if_pos hb1] at h3; simp at h3; exact h3.2.2.symm
      subst this
      rw [if_pos hb1]
      exact fin_bad _ hb1
/-- how it ends -/
theorem GInv.done {G : List Sec × Int} {n : Int} {s : List UInt8} {many k : Nat} {acc : List Sec} {at' bad : Int} (h : GInv G n s many k acc at' bad) (hk : bad = 0 → many ≤ k) :
    G = (if rdMust (decide (sizeS acc ≤ 8388608)) 2 (rdMust (decide (at' = n)) 21 bad) ≠ 0 then [] else acc, rdMust (decide (sizeS acc ≤ 8388608)) 2 (rdMust (decide (at' = n)) 21 bad)) := by
  by_cases hb : bad = 0
  · subst hb
    obtain ⟨hm, hkm, hG⟩ := h.good rfl
    rw [show many - k = 0 from by have := hk rfl; omega] at hG
    rw [← hG]
    unfold finP joinS rdMust
    simp only [secsF]
    by_cases h1 : at' = n
    · by_cases h2 : sizeS acc ≤ 8388608
      · simp [h1, h2]
      · have : 8388608 < sizeS acc := by omega
        simp [h1, h2, this]
    · simp [h1]
  · rw [h.wrong hb]
    unfold rdMust
    simp [hb]
end Go.Proofs.Ytbomloodllddaaa
/- Walk: the document's sum, bit by bit (fretsawref03.On). Conditions: the sum is of 32 bits; the text is of at most 10^15 bytes. -/
namespace Go.Proofs.Ytbomloodllddaaa
open Go.RowKit
theorem ret_u32 {a b : Nat} (h : a = b) : Ending.returned (.int .u32 (a : Int)) = Ending.returned (.int .u32 (b : Int)) := by rw [h]
theorem u32_le {n : Nat} (h : U32 n) : n < 4294967296 := by unfold U32 at h; omega
theorem take_at (s : ByteArray) (k : Nat) (hk : k < s.size) : s.data.toList.take (k + 1) = s.data.toList.take k ++ [s[k]] := by
  rw [List.take_succ_eq_append_getElem (by simpa using hk)]
  rfl
theorem reg_at (c : Nat) (s : ByteArray) (k : Nat) (hk : k < s.size) : reg c (s.data.toList.take (k + 1)) = stps 8 (reg c (s.data.toList.take k) ^^^ s[k].toNat) := by rw [take_at s k hk, reg_snoc]
end Go.Proofs.Ytbomloodllddaaa
/- Walk: a number is read (wire.Get). Condition: the text is of at most 10^15 bytes. -/
namespace Go.Proofs.Ytbomloodllddaaa
open Go.RowKit
theorem and127 (c : Nat) (h : c < 256) : bits .and .u8 (c : Int) 127 = ((c % 128 : Nat) : Int) := by
  have := u8_and_nat c 127 h (by decide)
  rw [nat_mask7] at this
  exact this

set_option maxRecDepth 100000 in
set_option maxHeartbeats 1000000 in
theorem wire_Get (s : ByteArray) (hs : s.size ≤ 1000000000000000) (a : Int) (ha : I64 a) (w : World) :
    Calls Try.prog 107 #[.string s, .int .i64 a] w fun e w' => e = .returned (.tuple #[.int .u64 (vget s.data.toList a).1, .int .i64 (vget s.data.toList a).2.1, .int .i64 (vget s.data.toList a).2.2]) ∧ w = w' := by
  have hl := ba_len s
  by_cases h0 : a < 0
  · rw [vget_arg (.inl h0)]
    go_enter Try.func107, Try.ntmps107
    repeat' (first | go_values | go_skip | go_guarded | go_step | go_upon)
    go_ret3
    exact ⟨rfl, rfl⟩
  obtain ⟨m, rfl⟩ := Int.eq_ofNat_of_zero_le (by omega : 0 ≤ a)
  by_cases h1 : (s.size : Int) < m
  · rw [vget_arg (.inr (by omega))]
    go_enter Try.func107, Try.ntmps107
    repeat' (first | go_values | go_skip | go_guarded | go_step | go_upon)
    go_ret3
    exact ⟨rfl, rfl⟩
  have Hl := Lib.hid hl; clear hl
  obtain ⟨t, ht⟩ : ∃ t, t = s.data.toList := ⟨_, rfl⟩
  have Ht := Lib.hid ht
  have hbt : ∀ i (h : i < s.size), s[i].toNat = at8 t i := fun i h => by rw [ba_at, ht]
  rw [← ht]
  clear ht
  obtain ⟨r, hr⟩ : ∃ r, r = vget t m := ⟨_, rfl⟩
  rw [← hr]
  have Hr := Lib.hid hr; clear hr
  have Hlt : Hid (t.length = s.size) := Lib.hid (by rw [Ht.out]; exact Hl.out)
  go_enter Try.func107, Try.ntmps107
  repeat' (first | go_values | go_skip | go_guarded | go_step | go_upon)
  go_loop [7, 18] (fun s7 s18 => ∃ k : Nat, s18 = .int .i64 k ∧ k ≤ 10 ∧ s7 = .int .u64 (dsum t m k) ∧ Hid (Lead t m k)) (fun _ s => 10 - (intOf s).toNat)
  case atStart => exact ⟨0, rfl, by omega, by rw [dsum]; rfl, Lib.hid (Lead.zero _ _)⟩
  case round =>
    obtain ⟨k, rfl, hk, rfl, Hk⟩ := hrel
    by_cases h10 : k = 10
    · subst h10
      repeat' (first | go_values | go_skip | go_guarded | go_step | go_upon)
      go_ret3
      exact ⟨by rw [Hr.out, vget_ten Hk.out]; rfl, rfl⟩
    by_cases he : m + k = s.size
    · repeat' (first | go_values | go_skip | go_guarded | go_step | go_upon)
      go_ret3
      exact ⟨by rw [Hr.out, vget_short Hk.out (by omega) (by rw [Hlt.out, he])]; rfl, rfl⟩
    have hlt : m + k < s.size := by
      by_cases e0 : k = 0
      · omega
      · have := (Hk.out (k - 1) (by omega)).1
        rw [Hlt.out] at this
        omega
    have hlt' : (m : Int) + k < s.size := by omega
    obtain ⟨c, hc⟩ : ∃ c, at8 t (m + k) = c := ⟨_, rfl⟩
    have hcb : c < 256 := by rw [← hc]; exact at8_lt _ _
    have Hc := Lib.hid hc
    have Hd : Hid (dsum t m k < 2 ^ (7 * k)) := Lib.hid (dsum_lt t m k)
    have hle : m + k < t.length := by rw [Hlt.out]; exact hlt
    have Hle := Lib.hid hle; clear hle
    by_cases hw : k = 9 ∧ 1 < c
    · obtain ⟨h9, hc1⟩ := hw
      have hb9 : ((k : Int) == 9) = true := by simp; omega
      have H9 := Lib.hid h9; clear h9
      repeat' (first | go_values | go_skip | go_guarded | go_step | go_upon)
      go_ret3
      have h9 := H9.out
      subst h9
      exact ⟨by rw [Hr.out, vget_wide Hk.out Hle.out (by rw [Hc.out]; exact hc1)]; rfl, rfl⟩
    have hand := and127 c hcb
    obtain ⟨d, hd⟩ : ∃ d, d = c % 128 := ⟨_, rfl⟩
    rw [← hd] at hand
    have hd128 : d < 128 := by omega
    have Hdd := Lib.hid hd; clear hd
    have hwd : IntKind.u64.wrap (d : Int) = d := wu64 (by omega) (by unfold U64; omega)
    have hor : c < 128 → bits .or .u64 (dsum t m k : Int) (IntKind.u64.wrap ((d : Int) * 2 ^ (7 * k))) = (dsum t m (k + 1) : Nat) := fun hc128 => by
      rw [or_u64 _ _ _ Hd.out (by
        have h := dsum_u64 (t := t) (a := m) (k := k) (by omega) (fun h9 => by rw [Hc.out]; omega)
        rw [dsum, Hc.out, ← Hdd.out] at h
        exact U64.le h (by omega)) (by omega)]
      rw [dsum, Hc.out, ← Hdd.out]
    have hor2 : bits .or .u64 (dsum t m k : Int) (IntKind.u64.wrap ((d : Int) * 2 ^ (7 * k))) = (dsum t m (k + 1) : Nat) := by
      by_cases hc128 : c < 128
      · exact hor hc128
      · rw [or_u64 _ _ _ Hd.out (by
          have h1 : (2 : Nat) ^ (7 * k) ≤ 2 ^ 56 := Nat.pow_le_pow_right (by omega) (by omega)
          have h2 := Nat.mul_le_mul (show d ≤ 127 by omega) h1
          have e : (127 : Nat) * 2 ^ 56 = 9151314442816847872 := by decide
          unfold U64; omega) (by omega)]
        rw [dsum, Hc.out, ← Hdd.out]
    clear hor
    obtain ⟨n', hn'⟩ : ∃ n', n' = dsum t m (k + 1) := ⟨_, rfl⟩
    rw [← hn'] at hor2
    have Hn' := Lib.hid hn'; clear hn'
    by_cases hc128 : c < 128
    · by_cases hz : c = 0
      · by_cases hk0 : 0 < k
        · have hz' : ((c : Int) == 0) = true := by simp; omega
          have Hz := Lib.hid hz; clear hz
          by_cases h9 : k = 9
          · have hb9 : ((k : Int) == 9) = true := by simp; omega
            have H9 := Lib.hid h9; clear h9
            repeat' (first | go_values | go_skip | go_guarded | go_step | go_upon)
            all_goals go_ret3
            all_goals exact ⟨by rw [Hr.out, vget_nought Hk.out (by omega) Hle.out (by rw [Hc.out]; exact Hz.out) hk0]; rfl, rfl⟩
          · repeat' (first | go_values | go_skip | go_guarded | go_step | go_upon)
            go_ret3
            exact ⟨by rw [Hr.out, vget_nought Hk.out (by omega) Hle.out (by rw [Hc.out]; exact Hz.out) hk0]; rfl, rfl⟩
        · have hk0' : k = 0 := by omega
          subst hk0'
          have hc0 : at8 t m = 0 := by rw [← hz, ← hc]; rfl
          have Hz := Lib.hid hz; clear hz hc
          repeat' (first | go_values | go_skip | go_guarded | go_step | go_upon)
          go_ret3
          rw [Hr.out, vget_ok Hk.out (by omega) Hle.out (by rw [Hc.out]; exact hc128) (.inr rfl) (fun h => by omega)]
          have e1 : dsum t m (0 + 1) = 0 := by rw [dsum, Hc.out, Hz.out]; simp [dsum]
          have e2 : dsum t m 0 = 0 := rfl
          have e3 : (m : Int) + ((0 : Nat) : Int) + 1 = m + 1 := by omega
          rw [e1, e3]
          refine ⟨ret_iii ?_ rfl rfl, rfl⟩
          show bits .or .u64 ((0 : Nat) : Int) (IntKind.u64.wrap (IntKind.u64.wrap (bits .and .u8 0 127))) = ((0 : Nat) : Int)
          decide
      · have hz' : ((c : Int) == 0) = false := by simp; omega
        by_cases h9 : k = 9
        · have hb9 : ((k : Int) == 9) = true := by simp; omega
          have hc1 : ¬ 1 < c := fun h => hw ⟨h9, h⟩
          have H9 := Lib.hid h9; clear h9 hw
          repeat' (first | go_values | go_skip | go_guarded | go_step | go_upon)
          all_goals go_ret3
          all_goals refine ⟨?_, rfl⟩
          all_goals rw [Hr.out, vget_ok Hk.out (by omega) Hle.out (by rw [Hc.out]; exact hc128) (.inl (by rw [Hc.out]; exact hz)) (fun h => by rw [Hc.out]; omega), ← Hn'.out]
          all_goals rfl
        · clear hw
          repeat' (first | go_values | go_skip | go_guarded | go_step | go_upon)
          all_goals go_ret3
          all_goals refine ⟨?_, rfl⟩
          all_goals rw [Hr.out, vget_ok Hk.out (by omega) Hle.out (by rw [Hc.out]; exact hc128) (.inl (by rw [Hc.out]; exact hz)) (fun h => absurd h h9), ← Hn'.out]
          all_goals rfl
    · have h9 : ¬ k = 9 := fun h => hw ⟨h, by omega⟩
      clear hw
      repeat' (first | go_values | go_skip | go_guarded | go_step | go_upon)
      go_round
      case rel => exact ⟨k + 1, by go_num, by omega, by rw [Hn'.out], Lib.hid (Hk.out.succ Hle.out (by rw [Hc.out]; omega))⟩
      case measure => simp [intOf]; omega
end Go.Proofs.Ytbomloodllddaaa
/- Walks: texts with their lengths (wire.GetText, wire.PutText). Condition: the texts are of at most 10^15 bytes. -/
namespace Go.Proofs.Ytbomloodllddaaa
open Go.RowKit
theorem ba_append (l : List UInt8) (s : ByteArray) : (⟨l.toArray⟩ : ByteArray) ++ s = ⟨(l ++ s.data.toList).toArray⟩ := by
  apply ByteArray.ext
  apply Array.ext'
  simp
theorem ret_sii {a b : List UInt8} {k2 k3 : IntKind} {a2 b2 a3 b3 : Int} (h1 : a = b) (h2 : a2 = b2) (h3 : a3 = b3) : Ending.returned (.tuple #[.string ⟨a.toArray⟩, .int k2 a2, .int k3 a3]) = Ending.returned (.tuple #[.string ⟨b.toArray⟩, .int k2 b2, .int k3 b3]) := by rw [h1, h2, h3]

set_option maxRecDepth 100000 in
set_option maxHeartbeats 400000 in
theorem wire_PutText (s : ByteArray) (hs : s.size ≤ 1000000000000000) (w : World) :
    Calls Try.prog 27 #[.string s] w fun e w' => e = .returned (.string ⟨(vput s.size ++ s.data.toList).toArray⟩) ∧ Below w.heap.size w w' := by
  have hu : U64 s.size := u64_small (by omega)
  have hw : IntKind.u64.wrap (s.size : Int) = s.size := wu64 (by omega) hu
  have hl := vput_len10 hu
  have hap := fun l => ba_append l s
  go_enter Try.func27, Try.ntmps27
  repeat' (first | go_values | go_skip | go_guarded | go_step | go_upon)
  refine Calls.mono (wire_Put s.size _ hu) ?_
  rintro _ w1 ⟨rfl, hb1⟩
  dsimp only
  repeat' (first | go_values | go_skip | go_guarded | go_step | go_upon)
  go_ret
  exact ⟨rfl, hb1⟩

set_option maxRecDepth 100000 in
set_option maxHeartbeats 1000000 in
theorem wire_GetText (s : ByteArray) (hs : s.size ≤ 1000000000000000) (a : Int) (ha : I64 a) (most : Int) (hmo : I64 most) (w : World) :
    Calls Try.prog 108 #[.string s, .int .i64 a, .int .i64 most] w fun e w' => e = .returned (.tuple #[.string ⟨(gett s.data.toList a most).1.toArray⟩, .int .i64 (gett s.data.toList a most).2.1, .int .i64 (gett s.data.toList a most).2.2]) ∧ w = w' := by
  have hl := ba_len s
  have hc := wire_Get s hs a ha
  rcases vget_cases s.data.toList a with ⟨e, hv, he⟩ | ⟨m, k, n, rfl, hk, hmk, hp, hn, hv⟩
  · rw [gett_bad hv (by omega)]
    rw [hv] at hc
    have Hc := Lib.hid hc; clear hc hv
    rcases he with rfl | rfl | rfl
    all_goals
      go_enter Try.func108, Try.ntmps108
      repeat' (first | go_values | go_skip | go_guarded | go_step | go_upon)
      refine Calls.mono (Hc.out _) ?_
      rintro _ _ ⟨rfl, rfl⟩
      dsimp only
      repeat' (first | go_values | go_skip | go_guarded | go_step | go_upon)
      go_ret3
      exact ⟨rfl, rfl⟩
  · rw [hv] at hc
    have Hc := Lib.hid hc; clear hc
    have hv' : vget s.data.toList m = (n, ((m + k + 1 : Nat) : Int), 0) := hv
    have Hn : Hid (U64 n) := Lib.hid hn
    clear hn hp hv
    have hM0 : 0 ≤ max most 0 := by omega
    have HM : Hid (IntKind.u64.wrap (max most 0) = max most 0) := Lib.hid (wu64 hM0 (by
      rcases Int.le_total 0 most with h | h
      · rw [Int.max_eq_left h]; exact hmo.u64
      · rw [Int.max_eq_right h]; exact u64_small (by omega)))
    have hsw : IntKind.u64.wrap ((s.size : Int) - (m + k + 1)) = (s.size : Int) - (m + k + 1) := wu64 (by omega) (u64_small (by omega))
    obtain ⟨M, hM⟩ : ∃ M : Int, M = max most 0 := ⟨_, rfl⟩
    have Hv := Lib.hid hv'; clear hv'
    rw [← hM] at HM
    have hmw := HM.out
    by_cases h1 : M < n
    · rw [gett_long Hv.out (by omega)]
      by_cases hmn : most < 0
      · obtain rfl : M = 0 := by omega
        clear hM
        go_enter Try.func108, Try.ntmps108
        repeat' (first | go_values | go_skip | go_guarded | go_step | go_upon)
        refine Calls.mono (Hc.out _) ?_
        rintro _ _ ⟨rfl, rfl⟩
        dsimp only
        repeat' (first | go_values | go_skip | go_guarded | go_step | go_upon)
        go_ret3
        exact ⟨rfl, rfl⟩
      · obtain rfl : M = most := by omega
        clear hM
        have hmn' : 0 ≤ M := by omega
        go_enter Try.func108, Try.ntmps108
        repeat' (first | go_values | go_skip | go_guarded | go_step | go_upon)
        refine Calls.mono (Hc.out _) ?_
        rintro _ _ ⟨rfl, rfl⟩
        dsimp only
        repeat' (first | go_values | go_skip | go_guarded | go_step | go_upon)
        go_ret3
        exact ⟨rfl, rfl⟩
    · by_cases h2 : (s.size : Int) - (m + k + 1) < n
      · rw [gett_short Hv.out (by omega) (by omega)]
        by_cases hmn : most < 0
        · obtain rfl : M = 0 := by omega
          clear hM
          go_enter Try.func108, Try.ntmps108
          repeat' (first | go_values | go_skip | go_guarded | go_step | go_upon)
          refine Calls.mono (Hc.out _) ?_
          rintro _ _ ⟨rfl, rfl⟩
          dsimp only
          repeat' (first | go_values | go_skip | go_guarded | go_step | go_upon)
          all_goals go_ret3
          all_goals exact ⟨rfl, rfl⟩
        · obtain rfl : M = most := by omega
          clear hM
          have hmn' : 0 ≤ M := by omega
          go_enter Try.func108, Try.ntmps108
          repeat' (first | go_values | go_skip | go_guarded | go_step | go_upon)
          refine Calls.mono (Hc.out _) ?_
          rintro _ _ ⟨rfl, rfl⟩
          dsimp only
          repeat' (first | go_values | go_skip | go_guarded | go_step | go_upon)
          all_goals go_ret3
          all_goals exact ⟨rfl, rfl⟩
      · rw [gett_ok Hv.out (by omega) (by omega)]
        have hnw : IntKind.i64.wrap (n : Int) = n := wi64 (i64_small (by omega))
        have hsl := slice_str (P := Try.prog) Try.underlying9 s ((m : Int) + k + 1) ((m : Int) + k + 1 + n) (m + k + 1) (m + k + 1 + n) (by omega) (by omega) (by omega) (by omega)
        rw [show m + k + 1 + n - (m + k + 1) = n from by omega] at hsl
        by_cases hmn : most < 0
        · obtain rfl : M = 0 := by omega
          clear hM
          go_enter Try.func108, Try.ntmps108
          repeat' (first | go_values | go_skip | go_guarded | go_step | go_upon)
          refine Calls.mono (Hc.out _) ?_
          rintro _ _ ⟨rfl, rfl⟩
          dsimp only
          repeat' (first | go_values | go_skip | go_guarded | go_step | go_upon)
          go_ret3
          exact ⟨ret_sii rfl (by omega) rfl, rfl⟩
        · obtain rfl : M = most := by omega
          clear hM
          have hmn' : 0 ≤ M := by omega
          go_enter Try.func108, Try.ntmps108
          repeat' (first | go_values | go_skip | go_guarded | go_step | go_upon)
          refine Calls.mono (Hc.out _) ?_
          rintro _ _ ⟨rfl, rfl⟩
          dsimp only
          repeat' (first | go_values | go_skip | go_guarded | go_step | go_upon)
          go_ret3
          exact ⟨ret_sii rfl (by omega) rfl, rfl⟩
theorem wire_PutText_l (x : List UInt8) (hs : x.length ≤ 1000000000000000) (w : World) :
    Calls Try.prog 27 #[.string ⟨x.toArray⟩] w fun e w' => e = .returned (.string ⟨(vput x.length ++ x).toArray⟩) ∧ Below w.heap.size w w' := by
  have h := wire_PutText ⟨x.toArray⟩ (by simpa [ByteArray.size] using hs) w
  simpa [ByteArray.size] using h
end Go.Proofs.Ytbomloodllddaaa
/- Walk: a number is written, by the reference. Condition: it is of 64 bits. -/
namespace Go.Proofs.Ytbomloodllddaaa
open Go.RowKit
end Go.Proofs.Ytbomloodllddaaa
