/- Walk: the statement VerifyTables. No conditions. -/
import Derived.Test.YtkhggnlanopgkaaVerCheck
import Derived.Test.YtkhggnlanopgkaaTabSpec
namespace Go.Proofs.Ytkhggnlanopgkaa
open Go.RowKit
/-- a row that the call has laid, as a slice that is read -/
theorem row_own {α : Type} {f : α → List Value} {sz : Nat} {e : TypeId} {fz : Nat × Nat} {w : World} {b : Nat} {l : List α} (hf : ∀ x, (f x).length = sz) (h : w.heap[b]? = some (.cells (l.flatMap f).toArray e fz)) (hm : l.length ≤ maxLen) : RowOf f sz w (.slice (some ⟨b, 0, none⟩) l.length l.length) l := by
  have hl : (l.flatMap f).length = l.length * sz := by
    clear h hm
    induction l with
    | nil => simp
    | cons a l ih => rw [List.flatMap_cons, List.length_append, hf, ih, List.length_cons, Nat.succ_mul]; omega
  refine ⟨_, _, rfl, Nat.le_refl _, hm, hl, .inr ⟨b, 0, rfl, (Array.getElem?_eq_some_iff.1 h).1, fun i _ => ?_⟩⟩
  rw [Nat.zero_add, cell_of_row w b i _ _ _ h]
  simp
theorem row_nil {α : Type} (f : α → List Value) (sz : Nat) (w : World) : RowOf f sz w (.slice none 0 0) ([] : List α) :=
  ⟨none, 0, rfl, Nat.le_refl _, Nat.zero_le _, by simp, .inl rfl⟩
theorem made_zero (n : Nat) : madeCells #[.int .i64 0] (n * 1) = ((List.replicate n (0 : Int)).flatMap intC).toArray := by
  apply Array.ext
  · rw [size_madeCells]
    have : ∀ n, ((List.replicate n (0 : Int)).flatMap intC).length = n := fun n => by
      induction n with
      | zero => rfl
      | succ n ih => rw [List.replicate_succ, List.flatMap_cons, List.length_append, ih]; simp [intC]; omega
    simp [this]
  · intro i h1 h2
    have hi : i < n := by rw [size_madeCells] at h1; omega
    have e1 : (madeCells #[.int .i64 0] (n * 1))[i]? = some (.int .i64 0) := by
      rw [made_atv _ _ _ (by omega), show i % (#[Value.int IntKind.i64 0] : Array Value).size = 0 from by simp [Nat.mod_one]]; rfl
    have e2 : ((List.replicate n (0 : Int)).flatMap intC)[i]? = some (.int .i64 0) := by
      have := flatMap_at (f := intC) (sz := 1) intC_len (List.replicate n 0) i 0 0 (by rw [List.getElem?_replicate, if_pos hi]) (by decide)
      simpa [intC] using this
    rw [Array.getElem?_eq_getElem h1] at e1
    have h2' : i < ((List.replicate n (0 : Int)).flatMap intC).length := by simpa using h2
    rw [List.getElem?_eq_getElem h2'] at e2
    simp only [List.getElem_toArray]
    rw [Option.some.inj e1, Option.some.inj e2]
theorem iv {x : Int} {n : Nat} (h : x = n) : Value.int .i64 x = .int .i64 n := by rw [h]
abbrev tV (g : Nat) : PV := ⟨.slice (some ⟨g + 2, 0, none⟩) 5 5, .slice (some ⟨g + 1, 0, none⟩) 1 1, .slice none 0 0, .slice none 0 0, .slice none 0 0, .slice none 0 0⟩
/-- the program in the call's own memory -/
theorem t_at {w : World} {g n : Nat} {t : Int} {ei et ec : TypeId} {f1 f2 f3 : Nat × Nat} (hn : n ≤ 300) (h1 : w.heap[g]? = some (.cells (madeCells #[.int .i64 0] (n * 1)) ei f1)) (h2 : w.heap[g + 1]? = some (.cells #[.int .i64 1, .slice (some ⟨g, 0, none⟩) n n] et f2))
    (h3 : w.heap[g + 2]? = some (.cells ((tcode t).flatMap icL).toArray ec f3)) : PrgAt w (tV g) (tprg n t) := by
  have hd : RowOf intC 1 w (.slice (some ⟨g, 0, none⟩) n n) (List.replicate n 0) := by
    rw [made_zero] at h1
    have := row_own (sz := 1) intC_len h1 (by simp; unfold maxLen; omega)
    simpa using this
  have hi0 : I64 0 := i64_small (by decide)
  have hi1 : I64 1 := i64_small (by decide)
  refine ⟨⟨hi0, hi0, hi0, hi0⟩, row_own icL_len h3 (by show 5 ≤ maxLen; decide), ⟨[(1, .slice (some ⟨g, 0, none⟩) n n)], row_own (f := tbC) (sz := 2) (l := [(1, .slice (some ⟨g, 0, none⟩) n n)]) (fun _ => rfl) h2 (by show 1 ≤ maxLen; decide), rfl, fun i t' d ht hd' => ?_⟩, row_nil _ _ _, ⟨row_nil _ _ _, row_nil _ _ _, row_nil _ _ _, fun k => by simp [tprg], fun k => u64_small (by simp [tprg]), fun k => u64_small (by simp [tprg])⟩, fun l hl => by simp [tprg] at hl⟩
  cases i with
  | zero => simp [tprg] at ht hd'; subst ht hd'; exact ⟨rfl, hi1, hd⟩
  | succ i => simp at ht
theorem four_new (w : World) (o1 o2 o3 o4 : Obj) : ((((w.alloc o1).alloc o2).alloc o3).alloc o4).heap[w.heap.size]? = some o1 ∧ ((((w.alloc o1).alloc o2).alloc o3).alloc o4).heap[w.heap.size + 1]? = some o2 ∧ ((((w.alloc o1).alloc o2).alloc o3).alloc o4).heap[w.heap.size + 1 + 1]? = some o3 ∧ ((((w.alloc o1).alloc o2).alloc o3).alloc o4).heap[w.heap.size + 1 + 1 + 1]? = some o4 := by
  have h := two_new w o1 o2
  have h' := two_new ((w.alloc o1).alloc o2) o3 o4
  rw [World.size_alloc, World.size_alloc] at h'
  have l1 : w.heap.size < ((w.alloc o1).alloc o2).heap.size := by rw [World.size_alloc, World.size_alloc]; omega
  have l2 : w.heap.size + 1 < ((w.alloc o1).alloc o2).heap.size := by rw [World.size_alloc, World.size_alloc]; omega
  refine ⟨?_, ?_, h'.2, h'.1⟩
  · rw [Go.heap_alloc_old _ _ (by rw [World.size_alloc]; omega), Go.heap_alloc_old _ _ l1]; exact h.2
  · rw [Go.heap_alloc_old _ _ (by rw [World.size_alloc]; omega), Go.heap_alloc_old _ _ l2]; exact h.1
theorem info_vint : (Try.prog.info? 3).map (fun i => (i.zero, i.size, i.bytes)) = some (some (.int .i64 0), 1, 8) := by kernel_rfl
set_option maxRecDepth 100000 in
set_option maxHeartbeats 4000000 in
theorem walk_VerifyTables (a : Int) (b : Int) (w : World) : Calls Try.prog 4 #[.int .i64 a, .int .i64 b] w fun e w' => e = .returned (.bool true) ∧ Below w.heap.size w w' := by
  go_enter Try.func4, Try.ntmps4
  repeat' (go_not_at_region 1; first | go_values | go_skip | go_guarded | go_step | go_upon)
  go_cut [0, 1] from 8 to 54 (fun s0 s1 wc => ∃ (n t : Nat), s0 = .int .i64 n ∧ s1 = .int .i64 t ∧ 1 ≤ n ∧ n ≤ 300 ∧ t ≤ 300 ∧ w = wc)
  case first =>
    rcases (by omega : a < 1 ∨ (1 ≤ a ∧ a ≤ 300) ∨ 300 < a) with ha | ha | ha <;> rcases (by omega : b < 0 ∨ (0 ≤ b ∧ b ≤ 300) ∨ 300 < b) with hb | hb | hb
    all_goals
      repeat' (first | go_values | go_skip | go_guarded | go_step | go_upon)
      go_meet
      case rel => exact ⟨(min (max a 1) 300).toNat, (min (max b 0) 300).toNat, iv (by omega), iv (by omega), by omega, by omega, by omega, rfl⟩
  case rest =>
    obtain ⟨n, t, rfl, rfl, hn1, hn2, ht2, rfl⟩ := hcut
    have hmk := fun w' => run_make_v (P := Try.prog) 35 3 (.int .i64 0) 1 8 Try.underlying35 info_vint n (by omega) (by omega) w'
    repeat' (go_not_at_region 3; first | go_values | go_skip | go_guarded | go_step | go_upon)
    clear hmk
    obtain ⟨f1, f2, f3, f4⟩ := four_new w (.cells (madeCells #[.int .i64 0] n) 3) (.cells #[.int .i64 1, .slice (some ⟨w.heap.size, 0, none⟩) n n] 37) (.cells ((tcode (t : Int)).flatMap icL).toArray 39) (.cells (pgC (tprg n (t : Int)) (tV w.heap.size)) 30)
    refine gen_wd (fun w' => PrgAt w' (tV w.heap.size) (tprg n (t : Int)) ∧ PBox w' (w.heap.size + 1 + 1 + 1) (tprg n (t : Int)) (tV w.heap.size) ∧ Below w.heap.size w w') ⟨t_at hn2 (by rw [Nat.mul_one]; exact f1) f2 f3, f4, (((((Below.refl _ _).alloc (Nat.le_refl _) _).alloc (by simp) _).alloc (by simp; omega) _).alloc (by simp; omega) _)⟩ ?_
    clear f1 f2 f3 f4
    rintro wx ⟨j1, j2, j3⟩
    have J1 := Lib.hid j1
    have J2 := Lib.hid j2
    have J3 := Lib.hid j3
    clear j1 j2 j3
    obtain ⟨c1, hc1⟩ : ∃ s, s = (checkI (tprg n (t : Int))).1 := ⟨_, rfl⟩
    obtain ⟨c2, hc2⟩ : ∃ s, s = (checkI (tprg n (t : Int))).2 := ⟨_, rfl⟩
    have HA := Lib.hid (ver_Check (tprg n (t : Int)) (tV w.heap.size) wx J1.out)
    have hch := t_check n (t : Int) ⟨hn1, hn2⟩ (by omega) (by omega)
    rw [← hc1, ← hc2] at HA
    rw [show checkI (tprg n (t : Int)) = (c1, c2) from by rw [hc1, hc2]] at hch
    have Hch := Lib.hid hch
    clear hc1 hc2 hch
    repeat' (first | (with_reducible refine load_pg J2.out _ rfl rfl ?_) | go_values | go_skip | go_guarded | go_step | go_upon)
    refine Calls.mono (HA.out) ?_
    rintro _ w1 ⟨rfl, hb1⟩
    dsimp only
    have B1 := Lib.hid (J3.out.trans (hb1.mono J3.out.size))
    clear hb1 HA J1 J2 J3
    by_cases h0 : (t : Int) = 0 ∨ (t : Int) ≤ n ∨ (256 : Int) ≤ n
    · have e := Hch.out.1 (by omega)
      simp only [Prod.mk.injEq] at e
      obtain ⟨rfl, rfl⟩ := e
      by_cases a0 : t = 0
      · subst a0
        clear Hch h0
        repeat' (first | go_values | go_skip | go_guarded | go_step | go_upon)
        go_ret
        exact ⟨rfl, B1.out⟩
      · have a0' : ((t : Int) == 0) = false := beq_false_of_ne (by omega)
        by_cases a1 : (t : Int) ≤ n
        · clear Hch h0
          repeat' (first | go_values | go_skip | go_guarded | go_step | go_upon)
          go_ret
          exact ⟨rfl, B1.out⟩
        · have a2 : (256 : Int) ≤ n := by omega
          clear Hch h0
          repeat' (first | go_values | go_skip | go_guarded | go_step | go_upon)
          go_ret
          exact ⟨rfl, B1.out⟩
    · have e := Hch.out.2 (by omega)
      simp only [Prod.mk.injEq] at e
      obtain ⟨rfl, rfl⟩ := e
      have a0' : ((t : Int) == 0) = false := beq_false_of_ne (by omega)
      have a1 : ¬ (t : Int) ≤ n := by omega
      have a2 : ¬ (256 : Int) ≤ n := by omega
      clear Hch h0
      repeat' (first | go_values | go_skip | go_guarded | go_step | go_upon)
      go_ret
      exact ⟨rfl, B1.out⟩
theorem law_VerifyTables (a : Int) (_ : I64 a) (b : Int) (_ : I64 b) (w : World) : Calls Try.prog 4 #[.int .i64 a, .int .i64 b] w fun e w' => e = .returned (.bool true) ∧ Below w.heap.size w w' := walk_VerifyTables a b w
end Go.Proofs.Ytkhggnlanopgkaa
