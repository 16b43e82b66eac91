/- Walk: which trie may be, and what any one tells of any text (TrieFinds). Conditions: the text is of at most 2^47 bytes, the place an int; the rows are of ints. -/
import Derived.Test.YtpfgdcbaenlohaaTrieLongest
namespace Go.Proofs.Ytpfgdcbaenlohaa
open Go.RowKit
def out2 (p : Int × Int) : Ending := .returned (.tuple #[.int .i64 p.1, .int .i64 p.2])
set_option maxRecDepth 100000 in
set_option maxHeartbeats 400000 in
theorem trie_Longest_not (a1 : Option Addr) (n1 c1 : Nat) (a2 : Option Addr) (n2 c2 : Nat) (a3 : Option Addr) (n3 c3 : Nat) (s : ByteArray) (a : Int) (h : mayBe n1 n2 n3 = false ∨ a < 0 ∨ (s.size : Int) < a) (w : World) :
    Calls Try.prog 9 #[.agg #[.slice a1 n1 c1, .slice a2 n2 c2, .slice a3 n3 c3], .string s, .int .i64 a] w fun e w' => e = out2 (-1, -1) ∧ Below w.heap.size w w' := by
  have hri := trie_Right a1 n1 c1 a2 n2 c2 a3 n3 c3
  generalize mayBe n1 n2 n3 = mb at hri h
  go_enter Try.func9, Try.ntmps9
  repeat' (first | go_values | go_skip | go_guarded | go_step | go_upon)
  refine Calls.mono (hri _) ?_
  rintro _ w1 ⟨rfl, hb1⟩
  dsimp only
  clear hri
  have Hb : Hid (Below w.heap.size w w1) := Lib.hid (((Below.refl _ _).alloc (Nat.le_refl _) _).trans (hb1.mono (by simp)))
  clear hb1
  cases mb with
  | false =>
    clear h
    repeat' (first | go_values | go_skip | go_guarded | go_step | go_upon)
    all_goals go_ret2
    all_goals exact ⟨rfl, Hb.out⟩
  | true =>
    have h' : a < 0 ∨ (s.size : Int) < a := by rcases h with h | h; cases h; exact h
    clear h
    by_cases h0 : a < 0
    · clear h'
      repeat' (first | go_values | go_skip | go_guarded | go_step | go_upon)
      all_goals go_ret2
      all_goals exact ⟨rfl, Hb.out⟩
    · have h1 : (s.size : Int) < a := by omega
      clear h'
      repeat' (first | go_values | go_skip | go_guarded | go_step | go_upon)
      all_goals go_ret2
      all_goals exact ⟨rfl, Hb.out⟩
set_option maxRecDepth 100000 in
set_option maxHeartbeats 400000 in
theorem ref_Longest_not (a1 : Option Addr) (n1 c1 : Nat) (a2 : Option Addr) (n2 c2 : Nat) (a3 : Option Addr) (n3 c3 : Nat) (s : ByteArray) (a : Int) (h : mayBe n1 n2 n3 = false ∨ a < 0 ∨ (s.size : Int) < a) (w : World) :
    Calls Try.prog 10 #[.agg #[.slice a1 n1 c1, .slice a2 n2 c2, .slice a3 n3 c3], .string s, .int .i64 a] w fun e w' => e = out2 (-1, -1) ∧ Below w.heap.size w w' := by
  have hri := ref_Right a1 n1 c1 a2 n2 c2 a3 n3 c3
  generalize mayBe n1 n2 n3 = mb at hri h
  go_enter Try.func10, Try.ntmps10
  repeat' (first | go_values | go_skip | go_guarded | go_step | go_upon)
  refine Calls.mono (hri _) ?_
  rintro _ w1 ⟨rfl, hb1⟩
  dsimp only
  clear hri
  have Hb : Hid (Below w.heap.size w w1) := Lib.hid (((Below.refl _ _).alloc (Nat.le_refl _) _).trans (hb1.mono (by simp)))
  clear hb1
  cases mb with
  | false =>
    clear h
    repeat' (first | go_values | go_skip | go_guarded | go_step | go_upon)
    all_goals go_ret2
    all_goals exact ⟨rfl, Hb.out⟩
  | true =>
    have h' : a < 0 ∨ (s.size : Int) < a := by rcases h with h | h; cases h; exact h
    clear h
    by_cases h0 : a < 0
    · clear h'
      repeat' (first | go_values | go_skip | go_guarded | go_step | go_upon)
      all_goals go_ret2
      all_goals exact ⟨rfl, Hb.out⟩
    · have h1 : (s.size : Int) < a := by omega
      clear h'
      repeat' (first | go_values | go_skip | go_guarded | go_step | go_upon)
      all_goals go_ret2
      all_goals exact ⟨rfl, Hb.out⟩
/-- a text cut to k bytes -/
def shortN (s : ByteArray) (k : Nat) : ByteArray := if k < s.size then s.extract 0 k else s
theorem shortN_le (s : ByteArray) (k : Nat) : (shortN s k).size ≤ k := by
  unfold shortN
  split
  · simp; omega
  · omega
set_option maxRecDepth 100000 in
set_option maxHeartbeats 400000 in
theorem law_short (s : ByteArray) (k : Nat) (hk : k < 100000) (w : World) :
    Calls Try.prog 8 #[.string s, .int .i64 k] w fun e w' => e = .returned (.string (shortN s k)) ∧ w = w' := by
  by_cases h : k < s.size
  · have e : shortN s k = s.extract 0 k := if_pos h
    rw [e]
    have h1 : (k : Int) < s.size := by omega
    go_enter Try.func8, Try.ntmps8
    repeat' (first | go_values | go_skip | go_guarded | go_step | go_upon)
    all_goals go_ret
    all_goals exact ⟨by simp, rfl⟩
  · have e : shortN s k = s := if_neg h
    rw [e]
    have h1 : ¬ (k : Int) < s.size := by omega
    go_enter Try.func8, Try.ntmps8
    repeat' (first | go_values | go_skip | go_guarded | go_step | go_upon)
    all_goals go_ret
    all_goals exact ⟨rfl, rfl⟩
/-- what a call answers in every later world -/
def Ans (w : World) (f : FuncId) (args : Array Value) (e0 : Ending) : Prop := ∀ w', Below w.heap.size w w' → Calls Try.prog f args w' fun e w'' => e = e0 ∧ Below w'.heap.size w' w''
set_option maxRecDepth 100000 in
set_option maxHeartbeats 1000000 in
theorem walk_TrieFinds (a1 : Option Addr) (n1 c1 : Nat) (a2 : Option Addr) (n2 c2 : Nat) (a3 : Option Addr) (n3 c3 : Nat) (s : ByteArray) (hs : s.size ≤ 140737488351232) (a : Int) (w : World) (mb : Bool) (p1 p2 x : Int)
    (CR : Ans w 6 #[.agg #[.slice a1 n1 c1, .slice a2 n2 c2, .slice a3 n3 c3]] (.returned (.bool mb)))
    (CQ : Ans w 7 #[.agg #[.slice a1 n1 c1, .slice a2 n2 c2, .slice a3 n3 c3]] (.returned (.bool mb)))
    (CL : Ans w 9 #[.agg #[.slice a1 n1 c1, .slice a2 n2 c2, .slice a3 n3 c3], .string (shortN s 300), .int .i64 a] (.returned (.tuple #[.int .i64 p1, .int .i64 p2])))
    (CM : Ans w 10 #[.agg #[.slice a1 n1 c1, .slice a2 n2 c2, .slice a3 n3 c3], .string (shortN s 300), .int .i64 a] (.returned (.tuple #[.int .i64 p1, .int .i64 p2])))
    (CF : Ans w 11 #[.agg #[.slice a1 n1 c1, .slice a2 n2 c2, .slice a3 n3 c3], .string (shortN s 300)] (.returned (.int .i64 x)))
    (CN : mb = true → Ans w 12 #[.agg #[.slice a1 n1 c1, .slice a2 n2 c2, .slice a3 n3 c3], .string (shortN s 300)] (.returned (.int .i64 x)))
    (hx : mb = false → x = -1) :
    Calls Try.prog 3 #[.agg #[.slice a1 n1 c1, .slice a2 n2 c2, .slice a3 n3 c3], .string s, .int .i64 a] w fun e w' => e = .returned (.bool true) ∧ Below w.heap.size w w' := by
  have hsh := fun w' => law_short s 300 (by decide) w'
  generalize shortN s 300 = u at hsh CL CM CF CN
  have CR := Lib.hid CR; have CQ := Lib.hid CQ; have CL := Lib.hid CL; have CM := Lib.hid CM; have CF := Lib.hid CF; have CN := Lib.hid CN; have Hx := Lib.hid hx
  clear hx hs
  have Hbox := Lib.hid (BoxAt.alloc w (.slice a1 n1 c1) (.slice a2 n2 c2) (.slice a3 n3 c3) 24)
  have Hb : Hid (Below w.heap.size w (w.alloc (.cells #[.slice a1 n1 c1, .slice a2 n2 c2, .slice a3 n3 c3] 24))) := Lib.hid ((Below.refl _ _).alloc (Nat.le_refl _) _)
  go_enter Try.func3, Try.ntmps3
  repeat' (first | go_values | go_skip | go_guarded | go_step | go_upon)
  generalize (w.alloc (.cells #[.slice a1 n1 c1, .slice a2 n2 c2, .slice a3 n3 c3] 24)) = W0 at Hbox Hb
  have q0 : ∀ nq : WB W0, nq.1.cell? ⟨w.heap.size, 0, none⟩ = some (.slice a1 n1 c1) := fun nq => (Hbox.out.keep nq.2).2.1
  have q1 : ∀ nq : WB W0, nq.1.cell? ⟨w.heap.size, 1, none⟩ = some (.slice a2 n2 c2) := fun nq => (Hbox.out.keep nq.2).2.2.1
  have q2 : ∀ nq : WB W0, nq.1.cell? ⟨w.heap.size, 2, none⟩ = some (.slice a3 n3 c3) := fun nq => (Hbox.out.keep nq.2).2.2.2
  have BW : ∀ nq : WB W0, Below w.heap.size w nq.1 := fun nq => Hb.out.trans (nq.2.mono Hb.out.size)
  have BW := Lib.hid BW
  refine wp_region_wb (by kernel_rfl) (by kernel_rfl) W0 (Below.refl _ _) ?_
  repeat (go_big_quiet_step ((first | (go_at_call 6; exact calls_wb (CR.out _ (BW.out _))) | (go_at_call 7; exact calls_wb (CQ.out _ (BW.out _))))))
  refine wpQuiet_nil ?_
  rintro _ ⟨nq, rfl⟩
  have hnq := nq.2
  have B1 := Lib.hid (BW.out nq)
  have X1 := Lib.hid (Hbox.out.keep hnq)
  clear q0 q1 q2
  have q0 := X1.out.2.1
  have q1 := X1.out.2.2.1
  have q2 := X1.out.2.2.2
  repeat' (first | go_values | go_skip | go_guarded | go_step | go_upon)
  refine Calls.mono (hsh _) ?_
  rintro _ _ ⟨rfl, rfl⟩
  dsimp only
  repeat' (first | go_values | go_skip | go_guarded | go_step | go_upon)
  refine Calls.mono (CL.out _ B1.out) ?_
  rintro _ w2 ⟨rfl, hb2⟩
  dsimp only
  have B2 := Lib.hid (B1.out.trans (hb2.mono B1.out.size))
  have X2 := Lib.hid (X1.out.keep hb2)
  clear hb2 q0 q1 q2
  have q0 := X2.out.2.1
  have q1 := X2.out.2.2.1
  have q2 := X2.out.2.2.2
  repeat' (first | go_values | go_skip | go_guarded | go_step | go_upon)
  refine Calls.mono (CM.out _ B2.out) ?_
  rintro _ w3 ⟨rfl, hb3⟩
  dsimp only
  have B3 := Lib.hid (B2.out.trans (hb3.mono B2.out.size))
  have X3 := Lib.hid (X2.out.keep hb3)
  clear hb3 q0 q1 q2
  have q0 := X3.out.2.1
  have q1 := X3.out.2.2.1
  have q2 := X3.out.2.2.2
  repeat' (first | go_values | go_skip | go_guarded | go_step | go_upon)
  refine Calls.mono (CQ.out _ B3.out) ?_
  rintro _ w4 ⟨rfl, hb4⟩
  dsimp only
  have B4 := Lib.hid (B3.out.trans (hb4.mono B3.out.size))
  have X4 := Lib.hid (X3.out.keep hb4)
  clear hb4 q0 q1 q2
  cases mb with
  | false =>
    have e := Hx.out rfl
    subst e
    have q0 := X4.out.2.1
    have q1 := X4.out.2.2.1
    have q2 := X4.out.2.2.2
    repeat' (first | go_values | go_skip | go_guarded | go_step | go_upon)
    refine Calls.mono (CF.out _ B4.out) ?_
    rintro _ w5 ⟨rfl, hb5⟩
    dsimp only
    repeat' (first | go_values | go_skip | go_guarded | go_step | go_upon)
    go_ret
    exact ⟨rfl, B4.out.trans (hb5.mono B4.out.size)⟩
  | true =>
    have CNt := Lib.hid (CN.out rfl)
    have q0 : ∀ nq : WB w4, nq.1.cell? ⟨w.heap.size, 0, none⟩ = some (.slice a1 n1 c1) := fun nq => (X4.out.keep nq.2).2.1
    have q1 : ∀ nq : WB w4, nq.1.cell? ⟨w.heap.size, 1, none⟩ = some (.slice a2 n2 c2) := fun nq => (X4.out.keep nq.2).2.2.1
    have q2 : ∀ nq : WB w4, nq.1.cell? ⟨w.heap.size, 2, none⟩ = some (.slice a3 n3 c3) := fun nq => (X4.out.keep nq.2).2.2.2
    have BV := Lib.hid (fun nq : WB w4 => B4.out.trans (nq.2.mono B4.out.size))
    repeat' (first | go_values | go_skip | go_guarded | go_step | go_upon)
    refine wp_region_wb (by kernel_rfl) (by kernel_rfl) w4 (Below.refl _ _) ?_
    repeat (go_big_quiet_step ((first | (go_at_call 11; exact calls_wb (CF.out _ (BV.out _))) | (go_at_call 12; exact calls_wb (CNt.out _ (BV.out _))))))
    refine wpQuiet_nil ?_
    rintro _ ⟨nq, rfl⟩
    have hnq := nq.2
    repeat' (first | go_values | go_skip | go_guarded | go_step | go_upon)
    go_ret
    exact ⟨rfl, BV.out nq⟩
theorem row3_of {w : World} {a : Option Addr} {n c : Nat} {zs : List Int} (h : IsRow .i64 w a n c zs) (hn : 1 ≤ n) : ∃ b o f, a = some ⟨b, o, none⟩ ∧ Row3 w b o n f := by
  obtain ⟨a', cap, hv, hc, h'⟩ := RdI.of_row h
  have hl : (zs.take n).length = n := by
    have := congrArg (fun v => match v with | Value.slice _ n _ => n | _ => 0) hv
    exact this.symm
  have ha : a = a' := by
    have := congrArg (fun v => match v with | Value.slice a _ _ => a | _ => none) hv
    exact this
  rcases h' with h' | ⟨b, o, rfl, hb, hcell⟩
  · rw [h'] at hl; simp at hl; omega
  · rw [hl] at hcell
    exact ⟨b, o, fun i => (zs.take n).getD i 0, ha, hb, hcell⟩
theorem law_TrieFinds (w : World) (a1 : Option Addr) (n1 c1 : Nat) (z1 : List Int) (h1 : IsRow .i64 w a1 n1 c1 z1) (a2 : Option Addr) (n2 c2 : Nat) (z2 : List Int) (h2 : IsRow .i64 w a2 n2 c2 z2) (a3 : Option Addr) (n3 c3 : Nat) (z3 : List Int) (h3 : IsRow .i64 w a3 n3 c3 z3)
    (s : ByteArray) (hs : s.size ≤ 140737488351232) (a : Int) (_ha : I64 a) :
    Calls Try.prog 3 #[.agg #[.slice a1 n1 c1, .slice a2 n2 c2, .slice a3 n3 c3], .string s, .int .i64 a] w fun e w' => e = .returned (.bool true) ∧ Below w.heap.size w w' := by
  have hsl := shortN_le s 300
  have hsl' : (shortN s 300).size ≤ 1000000 := by omega
  by_cases hm : mayBe n1 n2 n3 = true
  · obtain ⟨k1, k2, rfl, rfl⟩ := mayBe_eq.1 hm
    obtain ⟨b1, o1, f1, rfl, r1⟩ := row3_of h1 k1
    obtain ⟨b2, o2, f2, rfl, r2⟩ := row3_of h2 k1
    obtain ⟨b3, o3, f3, rfl, r3⟩ := row3_of h3 k1
    have CR : Ans w 6 #[(.agg #[.slice (some ⟨b1, o1, none⟩) n3 c1, .slice (some ⟨b2, o2, none⟩) n3 c2, .slice (some ⟨b3, o3, none⟩) n3 c3])] (.returned (.bool true)) := fun w' _ => by rw [← hm]; exact trie_Right _ _ _ _ _ _ _ _ _ w'
    have CQ : Ans w 7 #[(.agg #[.slice (some ⟨b1, o1, none⟩) n3 c1, .slice (some ⟨b2, o2, none⟩) n3 c2, .slice (some ⟨b3, o3, none⟩) n3 c3])] (.returned (.bool true)) := fun w' _ => by rw [← hm]; exact ref_Right _ _ _ _ _ _ _ _ _ w'
    have CF : Ans w 11 #[(.agg #[.slice (some ⟨b1, o1, none⟩) n3 c1, .slice (some ⟨b2, o2, none⟩) n3 c2, .slice (some ⟨b3, o3, none⟩) n3 c3]), .string (shortN s 300)] (.returned (.int .i64 (numF f1 f2 f3 n3 (shortN s 300).data.toList))) := fun w' hb =>
      trie_Find (b1 := b1) (o1 := o1) (c1 := c1) (b2 := b2) (o2 := o2) (c2 := c2) (b3 := b3) (o3 := o3) (c3 := c3) (n := n3) f1 f2 f3 k1 k2 (shortN s 300) hsl' w' (r1.keep hb) (r2.keep hb) (r3.keep hb)
    have CN : Ans w 12 #[(.agg #[.slice (some ⟨b1, o1, none⟩) n3 c1, .slice (some ⟨b2, o2, none⟩) n3 c2, .slice (some ⟨b3, o3, none⟩) n3 c3]), .string (shortN s 300)] (.returned (.int .i64 (numF f1 f2 f3 n3 (shortN s 300).data.toList))) := fun w' hb =>
      ref_Number (b1 := b1) (o1 := o1) (c1 := c1) (b2 := b2) (o2 := o2) (c2 := c2) (b3 := b3) (o3 := o3) (c3 := c3) (n := n3) f1 f2 f3 k1 k2 (shortN s 300) hsl' w' (r1.keep hb) (r2.keep hb) (r3.keep hb)
    by_cases hr : a < 0 ∨ ((shortN s 300).size : Int) < a
    · exact walk_TrieFinds _ _ _ _ _ _ _ _ _ s hs a w true (-1) (-1) (numF f1 f2 f3 n3 (shortN s 300).data.toList) CR CQ
        (fun w' _ => trie_Longest_not (some ⟨b1, o1, none⟩) n3 c1 (some ⟨b2, o2, none⟩) n3 c2 (some ⟨b3, o3, none⟩) n3 c3 (shortN s 300) a (.inr hr) w') (fun w' _ => ref_Longest_not (some ⟨b1, o1, none⟩) n3 c1 (some ⟨b2, o2, none⟩) n3 c2 (some ⟨b3, o3, none⟩) n3 c3 (shortN s 300) a (.inr hr) w')
        CF (fun _ => CN) (fun h => by cases h)
    · obtain ⟨m, rfl⟩ := Int.eq_ofNat_of_zero_le (show 0 ≤ a by omega)
      have hmm : m ≤ (shortN s 300).size := by omega
      exact walk_TrieFinds _ _ _ _ _ _ _ _ _ s hs (m : Int) w true (lng f1 f2 f3 n3 m ((shortN s 300).data.toList.drop m) ((shortN s 300).size - m + 1)).1 (lng f1 f2 f3 n3 m ((shortN s 300).data.toList.drop m) ((shortN s 300).size - m + 1)).2 (numF f1 f2 f3 n3 (shortN s 300).data.toList) CR CQ
        (fun w' hb => trie_Longest (b1 := b1) (o1 := o1) (c1 := c1) (b2 := b2) (o2 := o2) (c2 := c2) (b3 := b3) (o3 := o3) (c3 := c3) (n := n3) f1 f2 f3 k1 k2 (shortN s 300) hsl' m hmm w' (r1.keep hb) (r2.keep hb) (r3.keep hb))
        (fun w' hb => ref_Longest (b1 := b1) (o1 := o1) (c1 := c1) (b2 := b2) (o2 := o2) (c2 := c2) (b3 := b3) (o3 := o3) (c3 := c3) (n := n3) f1 f2 f3 k1 k2 (shortN s 300) hsl' m hmm w' (r1.keep hb) (r2.keep hb) (r3.keep hb))
        CF (fun _ => CN) (fun h => by cases h)
  · have hm' : mayBe n1 n2 n3 = false := by simpa using hm
    exact walk_TrieFinds _ _ _ _ _ _ _ _ _ s hs a w false (-1) (-1) (-1)
      (fun w' _ => by rw [← hm']; exact trie_Right _ _ _ _ _ _ _ _ _ w') (fun w' _ => by rw [← hm']; exact ref_Right _ _ _ _ _ _ _ _ _ w')
      (fun w' _ => trie_Longest_not _ _ _ _ _ _ _ _ _ (shortN s 300) a (.inl hm') w') (fun w' _ => ref_Longest_not _ _ _ _ _ _ _ _ _ (shortN s 300) a (.inl hm') w')
      (fun w' _ => trie_Find_not _ _ _ _ _ _ _ _ _ hm' (shortN s 300) w') (fun h => by cases h) (fun _ => rfl)
end Go.Proofs.Ytpfgdcbaenlohaa
