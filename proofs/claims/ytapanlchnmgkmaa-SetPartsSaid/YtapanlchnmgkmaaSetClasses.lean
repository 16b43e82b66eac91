/- Walk: the statement SetClasses. Condition: a row of sets. -/
import Derived.Test.YtapanlchnmgkmaaClsRef
namespace Go.Proofs.Ytapanlchnmgkmaa
open Go.RowKit
theorem info_u8b : (Try.prog.info? 5).map (fun i => i.size) = some 1 := by kernel_rfl
theorem eq_cls (c : Nat → Nat) (w : World) : (Op.equalIn 10000 30 (.agg (tabC c)) (.agg (tabC c))).run Try.prog w = .ok true w := by
  have h := run_eq_ints (P := Try.prog) w 9998 under_cls Try.underlying5 info_u8b (tabC c) (tabC c) (fun i => ((c i : Nat) : Int)) (fun i => ((c i : Nat) : Int)) (fun i hi => tabC_at c hi) (fun i hi => tabC_at c hi)
  rw [h]
  congr 1
  simp
theorem eq_cls' (c : Nat → Nat) (w : World) : (Op.equal 30 (.agg (tabC c)) (.agg (tabC c))).run Try.prog w = .ok true w := eq_cls c w
attribute [go_sem] eq_cls eq_cls'
set_option maxRecDepth 100000 in
set_option maxHeartbeats 4000000 in
theorem walk_SetClasses (v : Value) (l : List (Nat → Bool)) (w : World) (h : RowOf setC 4 w v l) :
    Calls Try.prog 4 #[v] w fun e w' => e = .returned (.bool true) ∧ Below w.heap.size w w' := by
  have hz := run_zero_cls
  obtain ⟨a, cap, hv, hcap, hmx, _⟩ := h.open setC_len
  subst hv
  have hok := stOf_ok l
  have e1 : tabC (stOf l).1 = tabC (cls (sig l)) := tabC_congr hok.cls
  have H1 := Lib.hid (set_Classes _ l w h)
  have H2 := Lib.hid fun w' (hb : Below w.heap.size w w') => ref_Classes _ l w' (h.keep hb)
  rw [e1, hok.many] at H1
  clear hok e1 h
  generalize cls (sig l) = c at H1 H2
  generalize clsN (sig l) = m at H1 H2
  unfold maxLen at hmx
  generalize l.length = n at H1 H2 hcap ⊢
  by_cases hn : 60 < n
  · go_enter Try.func4, Try.ntmps4
    repeat' (first | go_values | go_skip | go_guarded | go_step | go_upon)
    go_ret
    exact ⟨rfl, Below.refl _ _⟩
  · go_enter Try.func4, Try.ntmps4
    repeat' (first | go_values | go_skip | go_guarded | go_step | go_upon)
    refine Calls.mono (H1.out) ?_
    rintro _ w1 ⟨rfl, hb1⟩
    dsimp only
    have N1 : Hid (ClsAt (w1.alloc (.cells (tabC fun _ => 0) 30)) w1.heap.size fun _ => 0) := Lib.hid (Go.heap_alloc_new _ _)
    repeat' (first | (with_reducible refine store_cls N1.out c _ _ rfl rfl rfl ?_) | go_values | go_skip | go_guarded | go_step | go_upon)
    obtain ⟨g1, hg1⟩ : ∃ g, g = w1.heap.size := ⟨_, rfl⟩
    obtain ⟨wA, hwA⟩ : ∃ wA, wA = (w1.alloc (.cells (tabC fun _ => 0) 30)).setRow w1.heap.size (tabC c) := ⟨_, rfl⟩
    have CA : Hid (ClsAt wA g1 c) := Lib.hid (by rw [hwA, hg1]; exact N1.out.row)
    have BA : Hid (Below w.heap.size w wA) := Lib.hid (by rw [hwA]; exact hb1.trans ((Below.row ((Below.refl _ _).alloc (Nat.le_refl _) _) (Nat.le_refl _) _).mono hb1.size))
    rw [← hwA, ← hg1]
    clear hwA hg1 N1 hb1 H1
    refine Calls.mono (H2.out _ BA.out) ?_
    rintro _ w2 ⟨rfl, hb2⟩
    dsimp only
    have C2 := Lib.hid (CA.out.keep hb2)
    have B2 := Lib.hid (BA.out.trans (hb2.mono BA.out.size))
    have N2 : Hid (ClsAt (w2.alloc (.cells (tabC fun _ => 0) 30)) w2.heap.size fun _ => 0) := Lib.hid (Go.heap_alloc_new _ _)
    clear hb2 CA BA H2
    repeat' (first | (with_reducible refine store_cls N2.out c _ _ rfl rfl rfl ?_) | go_values | go_skip | go_guarded | go_step | go_upon)
    obtain ⟨g2, hg2⟩ : ∃ g, g = w2.heap.size := ⟨_, rfl⟩
    obtain ⟨wB, hwB⟩ : ∃ wB, wB = (w2.alloc (.cells (tabC fun _ => 0) 30)).setRow w2.heap.size (tabC c) := ⟨_, rfl⟩
    have hlt := C2.out.lt
    have D1 : Hid (ClsAt wB g1 c) := Lib.hid (by
      rw [hwB]
      have h : ClsAt (w2.alloc (.cells (tabC fun _ => 0) 30)) g1 c := C2.out.keep ((Below.refl _ _).alloc (Nat.le_refl _) _)
      unfold ClsAt
      rw [setRow_other _ _ _ _ (by omega)]; exact h)
    have D2 : Hid (ClsAt wB g2 c) := Lib.hid (by rw [hwB, hg2]; exact N2.out.row)
    have BB : Hid (Below w.heap.size w wB) := Lib.hid (by rw [hwB]; exact B2.out.trans ((Below.row ((Below.refl _ _).alloc (Nat.le_refl _) _) (Nat.le_refl _) _).mono B2.out.size))
    rw [← hwB, ← hg2]
    clear hwB hg2 N2 B2 C2 hlt
    repeat' (first | (with_reducible refine load_cls D1.out _ rfl rfl ?_) | (with_reducible refine load_cls D2.out _ rfl rfl ?_) | go_values | go_skip | go_guarded | go_step | go_upon)
    go_ret
    exact ⟨rfl, BB.out⟩
theorem sets_of {n : Nat} {xs : List Value} (hn : xs.length = n * 4) (h : ∀ i, i < n → FlatOk [.int .u64, .int .u64, .int .u64, .int .u64] ((xs.drop (i * 4)).take 4)) : ∃ l : List (Nat → Bool), l.length = n ∧ xs = l.flatMap setC := by
  obtain ⟨l, h1, h2, _⟩ := chunks (f := setC) (G := fun _ => True) n xs hn fun i hi => by
    obtain ⟨hl, hc⟩ := h i hi
    generalize (xs.drop (i * 4)).take 4 = cs at hl hc
    match cs, hl with
    | [c0, c1, c2, c3], _ =>
      obtain ⟨z0, rfl, w0⟩ := hc 0 _ _ rfl rfl
      obtain ⟨z1, rfl, w1⟩ := hc 1 _ _ rfl rfl
      obtain ⟨z2, rfl, w2⟩ := hc 2 _ _ rfl rfl
      obtain ⟨z3, rfl, w3⟩ := hc 3 _ _ rfl rfl
      obtain ⟨n0, rfl, k0⟩ := nat_u64 w0
      obtain ⟨n1, rfl, k1⟩ := nat_u64 w1
      obtain ⟨n2, rfl, k2⟩ := nat_u64 w2
      obtain ⟨n3, rfl, k3⟩ := nat_u64 w3
      refine ⟨ofW n0 n1 n2 n3, ?_, trivial⟩
      unfold setC
      rw [← W_ofW0 n1 n2 n3 k0, ← W_ofW1 n0 n2 n3 k1, ← W_ofW2 n0 n1 n3 k2, ← W_ofW3 n0 n1 n2 k3]
  exact ⟨l, h1, h2⟩
theorem law_SetClasses (w : World) (v : Value) (n : Nat) (xs : List Value) (h : RdC w.heap.size 4 w v n xs) (_ : n * 32 ≤ 140737488351232) (hf : ∀ i, i < n → FlatOk [.int .u64, .int .u64, .int .u64, .int .u64] ((xs.drop (i * 4)).take 4)) :
    Calls Try.prog 4 #[v] w fun e w' => e = .returned (.bool true) ∧ Below w.heap.size w w' := by
  have hx : xs.length = n * 4 := by obtain ⟨_, _, _, _, _, h, _⟩ := h; exact h
  obtain ⟨l, rfl, rfl⟩ := sets_of hx hf
  exact walk_SetClasses v l w h
end Go.Proofs.Ytapanlchnmgkmaa
