/- Walk: the statement IsaPuts. Conditions: a row of instructions; strconv's table is as it is laid. -/
import Derived.Test.YtpelngkhipcneaaDoorIsaRefPut
namespace Go.Proofs.YtpelngkhipcneaaDoor
open Go.RowKit
theorem row_take {w : World} {a : Option Addr} {n cap : Nat} {l : List (Nat → Int)} (h : RowOf icL 5 w (.slice a n cap) l) (k : Nat) (hk : k ≤ l.length) : RowOf icL 5 w (.slice a k cap) (l.take k) := by
  obtain ⟨a', cap', hv, h1, h2, h3, h4⟩ := h
  simp only [Value.slice.injEq] at hv
  obtain ⟨rfl, rfl, rfl⟩ := hv
  have hl : (l.take k).length = k := by rw [List.length_take]; omega
  have e : (l.take k).flatMap icL = (l.flatMap icL).take (k * 5) := by
    have h5 : l.flatMap icL = (l.take k).flatMap icL ++ (l.drop k).flatMap icL := by rw [← List.flatMap_append, List.take_append_drop]
    have h6 : ∀ ys : List (Nat → Int), (ys.flatMap icL).length = ys.length * 5 := fun ys => by
      induction ys with
      | nil => rfl
      | cons y ys ih => rw [List.flatMap_cons, List.length_append, ih, icL_len, List.length_cons]; omega
    rw [h5, List.take_left' (by rw [h6, hl])]
  unfold RowOf
  rw [hl, e]
  refine ⟨a, cap, rfl, by omega, h2, by rw [List.length_take, h3]; omega, ?_⟩
  rcases h4 with h4 | ⟨b, off, rfl, hb, hc⟩
  · exact .inl (by omega)
  · refine .inr ⟨b, off, rfl, hb, fun i hi => ?_⟩
    rw [hc i (by have := Nat.mul_le_mul_right 5 hk; omega), List.getElem?_take_of_lt hi]
set_option maxRecDepth 100000 in
set_option maxHeartbeats 4000000 in
theorem walk_IsaPuts (v : Value) (l : List (Nat → Int)) (w : World) (h : RowOf icL 5 w v l) (hT : Tab10 w) :
    Calls Tryd.prog 3 #[v] w fun e w' => e = .returned (.bool true) ∧ Below w.heap.size w w' := by
  obtain ⟨a, cap, hv, hcap, hmx, _⟩ := h.open icL_len
  subst hv
  have HT := Lib.hid hT
  unfold maxLen at hmx
  have Htk := Lib.hid fun k (hk : k ≤ l.length) => row_take h k hk
  by_cases hmid : 500 < l.length ∧ l.length ≤ 4096
  · obtain ⟨l', hl'⟩ : ∃ l', l' = l.take 500 := ⟨_, rfl⟩
    have Hr : Hid (RowOf icL 5 w (.slice a 500 cap) l') := Lib.hid (by rw [hl']; exact Htk.out 500 (by omega))
    obtain ⟨n, hn⟩ : ∃ n, n = l.length := ⟨_, rfl⟩
    rw [← hn] at hmid hcap ⊢
    obtain ⟨hm1, hm2⟩ := hmid
    have hm3 : (500 : Int) < n := by omega
    have hm4 : (n : Int) ≤ 4096 := by omega
    have hc5 : 500 ≤ cap := by omega
    clear Htk hl' h hT hn hm1 hm2
    go_enter Tryd.func3, Tryd.ntmps3
    repeat' (first | go_values | go_skip | go_guarded | go_step | go_upon)
    refine Calls.mono (isa_Put _ l' w Hr.out) ?_
    rintro _ w1 ⟨rfl, hb1⟩
    dsimp only
    have Hr1 := Lib.hid (Hr.out.keep hb1)
    have HT1 := Lib.hid (tab10_below HT.out hb1)
    have Hb1 := Lib.hid hb1
    clear hb1
    repeat' (first | go_values | go_skip | go_guarded | go_step | go_upon)
    refine Calls.mono (rg_Put _ l' w1 Hr1.out) ?_
    rintro _ w2 ⟨rfl, hb2⟩
    dsimp only
    have Hr2 := Lib.hid (Hr1.out.keep hb2)
    have HT2 := Lib.hid (tab10_below HT1.out hb2)
    have Hb2 := Lib.hid (Hb1.out.trans (hb2.mono Hb1.out.size))
    clear hb2 Hr1 HT1 Hb1
    repeat' (first | go_values | go_skip | go_guarded | go_step | go_upon)
    refine Calls.mono (isa_Text _ l' w2 Hr2.out HT2.out) ?_
    rintro _ w3 ⟨rfl, hb3⟩
    dsimp only
    have Hr3 := Lib.hid (Hr2.out.keep hb3)
    have HT3 := Lib.hid (tab10_below HT2.out hb3)
    have Hb3 := Lib.hid (Hb2.out.trans (hb3.mono Hb2.out.size))
    clear hb3 Hr2 HT2 Hb2
    repeat' (first | go_values | go_skip | go_guarded | go_step | go_upon)
    refine Calls.mono (rg_Text _ l' w3 Hr3.out HT3.out) ?_
    rintro _ w4 ⟨rfl, hb4⟩
    dsimp only
    have Hb4 := Lib.hid (Hb3.out.trans (hb4.mono Hb3.out.size))
    clear hb4 Hr3 HT3 Hb3
    generalize putI l' = pu
    generalize textI l' = tu
    obtain ⟨p1, p2⟩ := pu
    obtain ⟨t1, t2⟩ := tu
    repeat' (first | go_values | go_skip | go_guarded | go_step | go_upon)
    go_ret
    exact ⟨rfl, Hb4.out⟩
  · have Hr := Lib.hid h
    obtain ⟨n, hn⟩ : ∃ n, n = l.length := ⟨_, rfl⟩
    rw [← hn] at hmid hcap Hr ⊢
    have hsm : n ≤ 500 ∨ 4096 < n := by omega
    obtain ⟨l', hl'⟩ : ∃ l', l' = l := ⟨_, rfl⟩
    rw [← hl'] at Hr
    clear Htk h hT hn hmid hl'
    rcases hsm with hsm | hsm
    · have hm3 : (n : Int) ≤ 500 := by omega
      clear hsm
      go_enter Tryd.func3, Tryd.ntmps3
      repeat' (first | go_values | go_skip | go_guarded | go_step | go_upon)
      refine Calls.mono (isa_Put _ l' w Hr.out) ?_
      rintro _ w1 ⟨rfl, hb1⟩
      dsimp only
      have Hr1 := Lib.hid (Hr.out.keep hb1)
      have HT1 := Lib.hid (tab10_below HT.out hb1)
      have Hb1 := Lib.hid hb1
      clear hb1
      repeat' (first | go_values | go_skip | go_guarded | go_step | go_upon)
      refine Calls.mono (rg_Put _ l' w1 Hr1.out) ?_
      rintro _ w2 ⟨rfl, hb2⟩
      dsimp only
      have Hr2 := Lib.hid (Hr1.out.keep hb2)
      have HT2 := Lib.hid (tab10_below HT1.out hb2)
      have Hb2 := Lib.hid (Hb1.out.trans (hb2.mono Hb1.out.size))
      clear hb2 Hr1 HT1 Hb1
      repeat' (first | go_values | go_skip | go_guarded | go_step | go_upon)
      refine Calls.mono (isa_Text _ l' w2 Hr2.out HT2.out) ?_
      rintro _ w3 ⟨rfl, hb3⟩
      dsimp only
      have Hr3 := Lib.hid (Hr2.out.keep hb3)
      have HT3 := Lib.hid (tab10_below HT2.out hb3)
      have Hb3 := Lib.hid (Hb2.out.trans (hb3.mono Hb2.out.size))
      clear hb3 Hr2 HT2 Hb2
      repeat' (first | go_values | go_skip | go_guarded | go_step | go_upon)
      refine Calls.mono (rg_Text _ l' w3 Hr3.out HT3.out) ?_
      rintro _ w4 ⟨rfl, hb4⟩
      dsimp only
      have Hb4 := Lib.hid (Hb3.out.trans (hb4.mono Hb3.out.size))
      clear hb4 Hr3 HT3 Hb3
      generalize putI l' = pu
      generalize textI l' = tu
      obtain ⟨p1, p2⟩ := pu
      obtain ⟨t1, t2⟩ := tu
      repeat' (first | go_values | go_skip | go_guarded | go_step | go_upon)
      go_ret
      exact ⟨rfl, Hb4.out⟩
    · have hm3 : (500 : Int) < n := by omega
      have hm4 : (4096 : Int) < n := by omega
      clear hsm
      go_enter Tryd.func3, Tryd.ntmps3
      repeat' (first | go_values | go_skip | go_guarded | go_step | go_upon)
      refine Calls.mono (isa_Put _ l' w Hr.out) ?_
      rintro _ w1 ⟨rfl, hb1⟩
      dsimp only
      have Hr1 := Lib.hid (Hr.out.keep hb1)
      have HT1 := Lib.hid (tab10_below HT.out hb1)
      have Hb1 := Lib.hid hb1
      clear hb1
      repeat' (first | go_values | go_skip | go_guarded | go_step | go_upon)
      refine Calls.mono (rg_Put _ l' w1 Hr1.out) ?_
      rintro _ w2 ⟨rfl, hb2⟩
      dsimp only
      have Hr2 := Lib.hid (Hr1.out.keep hb2)
      have HT2 := Lib.hid (tab10_below HT1.out hb2)
      have Hb2 := Lib.hid (Hb1.out.trans (hb2.mono Hb1.out.size))
      clear hb2 Hr1 HT1 Hb1
      repeat' (first | go_values | go_skip | go_guarded | go_step | go_upon)
      refine Calls.mono (isa_Text _ l' w2 Hr2.out HT2.out) ?_
      rintro _ w3 ⟨rfl, hb3⟩
      dsimp only
      have Hr3 := Lib.hid (Hr2.out.keep hb3)
      have HT3 := Lib.hid (tab10_below HT2.out hb3)
      have Hb3 := Lib.hid (Hb2.out.trans (hb3.mono Hb2.out.size))
      clear hb3 Hr2 HT2 Hb2
      repeat' (first | go_values | go_skip | go_guarded | go_step | go_upon)
      refine Calls.mono (rg_Text _ l' w3 Hr3.out HT3.out) ?_
      rintro _ w4 ⟨rfl, hb4⟩
      dsimp only
      have Hb4 := Lib.hid (Hb3.out.trans (hb4.mono Hb3.out.size))
      clear hb4 Hr3 HT3 Hb3
      generalize putI l' = pu
      generalize textI l' = tu
      obtain ⟨p1, p2⟩ := pu
      obtain ⟨t1, t2⟩ := tu
      repeat' (first | go_values | go_skip | go_guarded | go_step | go_upon)
      go_ret
      exact ⟨rfl, Hb4.out⟩
/-- any five numbers are an instruction -/
theorem ins_of {cs : List Value} (h : FlatOk [.int .i64, .int .i64, .int .i64, .int .i64, .int .i64] cs) : ∃ y : Nat → Int, cs = icL y ∧ True := by
  obtain ⟨hl, hc⟩ := h
  match cs, hl with
  | [c0, c1, c2, c3, c4], _ =>
    obtain ⟨a0, rfl, _⟩ := hc 0 _ _ rfl rfl
    obtain ⟨a1, rfl, _⟩ := hc 1 _ _ rfl rfl
    obtain ⟨a2, rfl, _⟩ := hc 2 _ _ rfl rfl
    obtain ⟨a3, rfl, _⟩ := hc 3 _ _ rfl rfl
    obtain ⟨a4, rfl, _⟩ := hc 4 _ _ rfl rfl
    exact ⟨fun j => [a0, a1, a2, a3, a4].getD j 0, rfl, trivial⟩
theorem inss_of {n : Nat} {xs : List Value} (hn : xs.length = n * 5) (h : ∀ i, i < n → FlatOk [.int .i64, .int .i64, .int .i64, .int .i64, .int .i64] ((xs.drop (i * 5)).take 5)) : ∃ l : List (Nat → Int), l.length = n ∧ xs = l.flatMap icL := by
  obtain ⟨l, h1, h2, _⟩ := chunks (f := icL) (G := fun _ => True) n xs hn fun i hi => ins_of (h i hi)
  exact ⟨l, h1, h2⟩
theorem law_IsaPuts (w : World) (v : Value) (n : Nat) (xs : List Value) (h : RdC w.heap.size 5 w v n xs) (_ : n * 40 ≤ 140737488351232) (hf : ∀ i, i < n → FlatOk [.int .i64, .int .i64, .int .i64, .int .i64, .int .i64] ((xs.drop (i * 5)).take 5)) (hT : Tab10 w) :
    Calls Tryd.prog 3 #[v] w fun e w' => e = .returned (.bool true) ∧ Below w.heap.size w w' := by
  have hx : xs.length = n * 5 := by obtain ⟨_, _, _, _, _, h, _⟩ := h; exact h
  obtain ⟨l, rfl, rfl⟩ := inss_of hx hf
  exact walk_IsaPuts v l w h hT
end Go.Proofs.YtpelngkhipcneaaDoor
