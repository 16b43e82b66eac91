/- Walk: signs are merged (vm.Merge). Conditions: the hash and the signs lie in memory. -/
import Derived.Test.YtkpdcejnanhgoaaPk18
import Derived.Deep.LoopGhost
import Derived.Deep.CutRange
namespace Go.Proofs.Ytkpdcejnanhgoaa
open Go.RowKit
theorem wp_region_anyM {P : Program} {id : Nat} {Q : Exit → Act → World → Prop} {a : Act} {w : World} {ops : Array Oper} (hm : P.follows .mixedOrders = true) (C : World → Prop)
    (h : wpAnyC P .any ops (CG C) Q ops.size (Array.replicate ops.size false) a w.drew) : (Code.region id ops true).wp P Q a w :=
  wp_region_any hm (wpAnyC.any _ _ _ _ h)
theorem info_node : (Try.prog.info? 138).map (fun i => (i.zero, i.size, i.bytes)) = some (some (.agg #[.int .i64 0, .int .i64 0, .int .i64 0]), 3, 24) := by kernel_rfl
/-- the list of Merge while it is filled: below k done -/
def fillN (f : Nat → Int) (k i : Nat) : Int := if i < k then f i else 0
theorem fillN_next (f : Nat → Int) (k : Nat) : updN (fillN f k) k (f k) = fillN f (k + 1) := by
  funext i
  unfold updN fillN
  by_cases h : i = k
  · subst h; simp
  · have : (i < k + 1) = (i < k) := by apply propext; omega
    simp [h, this]
theorem NI.congr {n : Nat} {sg : Int} {id nx ls id' nx' ls' : Nat → Int} (h : NI n sg id nx ls) (h1 : ∀ i, i < n → id' i = id i) (h2 : ∀ i, i < n → nx' i = nx i) (h3 : ∀ i, i < n → ls' i = ls i) : NI n sg id' nx' ls' := by
  refine ⟨fun i hi => by rw [h1 i hi]; exact h.ids i hi, fun i hi hv => ?_, fun i hi hv => ?_, fun hn => by rw [h1 0 hn]; exact h.zero hn⟩
  · rw [h1 i hi] at hv
    rcases h.nxt i hi hv with h4 | ⟨j, a, b, c, d, e⟩
    · exact .inl (by rw [h2 i hi]; exact h4)
    · exact .inr ⟨j, by rw [h2 i hi]; exact a, b, c, by rw [h1 j c]; exact d, by rw [h3 j c]; exact e⟩
  · rw [h1 i hi] at hv
    rcases h.lst i hi hv with h4 | ⟨j, a, b, d, e⟩
    · exact .inl (by rw [h3 i hi]; exact h4)
    · exact .inr ⟨j, by rw [h3 i hi]; exact a, b, by rw [h1 j (by omega)]; exact d, by rw [h2 j (by omega)]; exact e⟩
theorem row_newM (w : World) (x : Int) : RowOf intC 1 (w.alloc (.cells #[.int .i64 x] 3)) (.slice (some ⟨w.heap.size, 0, none⟩) 1 1) [x] := by
  refine ⟨some ⟨w.heap.size, 0, none⟩, 1, rfl, Nat.le_refl _, by unfold maxLen; omega, by simp [intC], .inr ⟨w.heap.size, 0, rfl, by simp, fun i hi => ?_⟩⟩
  rw [Nat.zero_add, cell_of_row _ w.heap.size i _ _ (0, 0) (Go.heap_alloc_new w _)]
  simp [intC]
theorem merge_start {w : World} {vs vk vv : Value} {n : Nat} : MK w.heap.size (w.heap.size + 2) w.heap.size (w.heap.size + 3) (w.heap.size + 1) n vs vk vv (fun _ => 0) (fun _ => 0) (fun _ => 0)
    (((w.alloc (.cells #[vs, vk, vv] 43)).alloc (.cells (madeCells #[.int .i64 0, .int .i64 0, .int .i64 0] (n * 3)) 138)).alloc (.cells #[.slice (some ⟨w.heap.size + 1, 0, none⟩) n n] 136)) := by
  obtain ⟨w1, h1⟩ : ∃ w1, w1 = w.alloc (.cells #[vs, vk, vv] 43) := ⟨_, rfl⟩
  have s1 : w1.heap.size = w.heap.size + 1 := by rw [h1, World.size_alloc]
  have hb1 : HBox w1 w.heap.size vs vk vv := by rw [h1]; exact HBox.new _ _ _ _
  rw [← h1]
  have h2 := two_newL w1 (.cells (madeCells #[.int .i64 0, .int .i64 0, .int .i64 0] (n * 3)) 138) (.cells #[.slice (some ⟨w.heap.size + 1, 0, none⟩) n n] 136)
  have hb2 := hb1.keep (((Below.refl w1.heap.size w1).alloc (Nat.le_refl _) (.cells (madeCells #[.int .i64 0, .int .i64 0, .int .i64 0] (n * 3)) 138)).alloc (by simp) (.cells #[.slice (some ⟨w.heap.size + 1, 0, none⟩) n n] 136))
  rw [s1] at h2
  refine ⟨h2.1, ?_, hb2, by omega, by omega, Nat.le_refl _, by omega⟩
  rw [← nd_made]; exact h2.2
set_option maxRecDepth 100000 in
set_option maxHeartbeats 8000000 in
theorem vm_Merge (vs vk vv v2 : Value) (H : HashP) (sg : Int) (l : List Int) (w : World) (hH : HashAt w vs vk vv H) (hH4 : H.keys.length ≤ 35184372088832) (hl : RowOf intC 1 w v2 l) :
    Calls Try.prog 75 #[.agg #[vs, vk, vv], .int .i64 sg, v2] w fun e w' => ∃ u c, e = .returned (.tuple #[u, .bool c]) ∧ (c = true → ∃ out : List Int, OwnR intC 1 w.heap.size 3 w' u out ∧ out.length ≤ l.length ∧ ∀ x ∈ out, 0 ≤ x ∧ x < sg) ∧
      (c = false → ¬ (0 ≤ sg ∧ sg ≤ 65536 ∧ l.length ≤ 262144 ∧ (∀ x ∈ l, 0 ≤ x ∧ x < sg) ∧ ∀ v ∈ H.vals, ((v % 4294967296 : Nat) : Int) < sg)) ∧ Below w.heap.size w w' := by
  obtain ⟨a2, c2, rfl, hc2, hm2, hcell⟩ := hl.open intC_len
  obtain ⟨n, hn⟩ : ∃ n, n = l.length := ⟨_, rfl⟩
  have Hn := Lib.hid hn
  rw [← hn] at hc2 hcell ⊢
  clear hn hl
  unfold maxLen at hm2
  obtain ⟨as0, cs, hvs, _, _, _⟩ := hH.seeds.open (sz := 1) (f := u32C) (fun _ => rfl)
  obtain ⟨ak, ck, hvk, _, _, _⟩ := hH.keys.open (sz := 1) (f := u64C) (fun _ => rfl)
  obtain ⟨av, cv, hvv, _, _, _⟩ := hH.vals.open (sz := 1) (f := u64C) (fun _ => rfl)
  have HH := Lib.hid hH
  have HH4 := Lib.hid hH4
  generalize H.seeds.length = ns at hvs
  generalize H.keys.length = nk at hvk
  generalize H.vals.length = nv at hvv
  subst hvs hvk hvv
  have hb0 : Below w.heap.size w (w.alloc (.cells #[.slice as0 ns cs, .slice ak nk ck, .slice av nv cv] 43)) := (Below.refl _ _).alloc (Nat.le_refl _) _
  clear hH hH4
  by_cases h1 : sg < 0
  · go_enter Try.func75, Try.ntmps75
    repeat' (first | go_values | go_skip | go_guarded | go_step | go_upon)
    go_ret2
    exact ⟨_, _, rfl, fun h => by simp at h, fun _ h => by omega, hb0⟩
  have h1' : 0 ≤ sg := by omega
  by_cases h2 : 65536 < sg
  · go_enter Try.func75, Try.ntmps75
    repeat' (first | go_values | go_skip | go_guarded | go_step | go_upon)
    go_ret2
    exact ⟨_, _, rfl, fun h => by simp at h, fun _ h => by omega, hb0⟩
  have h2' : sg ≤ 65536 := by omega
  by_cases h3 : 262144 < n
  · go_enter Try.func75, Try.ntmps75
    repeat' (first | go_values | go_skip | go_guarded | go_step | go_upon)
    go_ret2
    exact ⟨_, _, rfl, fun h => by simp at h, fun _ h => by omega, hb0⟩
  have h3' : n ≤ 262144 := by omega
  have hmk := fun w' => run_make_v (P := Try.prog) 136 138 (.agg #[.int .i64 0, .int .i64 0, .int .i64 0]) 3 24 Try.underlying136 info_node n (by omega) (by omega) w'
  go_enter Try.func75, Try.ntmps75
  repeat' (first | go_values | go_skip | go_guarded | go_step | go_upon)
  clear hmk
  refine gen_wd (fun W => MK w.heap.size (w.heap.size + 2) w.heap.size (w.heap.size + 3) (w.heap.size + 1) n (.slice as0 ns cs) (.slice ak nk ck) (.slice av nv cv) (fun _ => 0) (fun _ => 0) (fun _ => 0) W ∧ Below w.heap.size w W ∧ W.heap.size = w.heap.size + 3) ⟨merge_start, (hb0.alloc hb0.size _).alloc (by simp; omega) _, by simp⟩ ?_
  clear hb0
  rintro wa ⟨hM, hB, hS⟩
  have HM := Lib.hid hM
  have HB := Lib.hid hB
  have HS := Lib.hid hS
  clear hM hB hS
  have f0 : ∀ f : Nat → Int, fillN f 0 = fun _ => 0 := fun f => by funext i; simp [fillN]
  have F0 := Lib.hid f0
  clear f0
  go_loopw [35] (fun s35 wr => ∃ k : Nat, s35 = .int .i64 k ∧ k ≤ n ∧ Hid (∀ i, i < k → 0 ≤ l.getD i 0 ∧ l.getD i 0 < sg) ∧ Hid (MK w.heap.size (w.heap.size + 2) w.heap.size (w.heap.size + 3) (w.heap.size + 1) n (.slice as0 ns cs) (.slice ak nk ck) (.slice av nv cv) (fillN (fun i => l.getD i 0) k) (fillN (fun i => (i : Int) + 1) k) (fillN (fun i => (i : Int) - 1) k) wr) ∧ Hid (Below w.heap.size w wr) ∧ Hid (wr.heap.size = w.heap.size + 3)) (fun s35 _ => n - (intOf s35).toNat)
  case atStart => exact ⟨0, rfl, Nat.zero_le _, Lib.hid (fun i hi => absurd hi (Nat.not_lt_zero _)), Lib.hid (by rw [F0.out, F0.out, F0.out]; exact HM.out), HB, HS⟩
  case round =>
    clear HM HB HS
    obtain ⟨k, rfl, hk, HI, HM, HB, HS⟩ := hrel
    by_cases hkn : k < n
    · rcases hcell with h00 | ⟨b, off, rfl, hbB, hcell⟩
      · omega
      have c0 := row1 (d := 0) hcell k (by rw [← Hn.out]; exact hkn)
      rw [← HB.out.cell (show b < w.heap.size from hbB)] at c0
      simp only [intC, List.getElem?_cons_zero] at c0
      clear hcell
      have Hxm : Hid (l.getD k 0 ∈ l) := Lib.hid (getD_mem (by rw [← Hn.out]; exact hkn))
      have HI2 : Hid (0 ≤ l.getD k 0 → l.getD k 0 < sg → ∀ i, i < k + 1 → 0 ≤ l.getD i 0 ∧ l.getD i 0 < sg) := Lib.hid fun h4 h5 i hi => by
        by_cases he : i = k
        · subst he; exact ⟨h4, h5⟩
        · exact HI.out i (by omega)
      have HN := Lib.hid (fillN_next (fun i => l.getD i 0) k)
      generalize l.getD k 0 = x at c0 Hxm HI2 HN
      by_cases hx0 : x < 0
      · repeat' (first | go_values | go_skip | go_guarded | go_step | go_upon)
        go_ret2
        exact ⟨_, _, rfl, fun h => by simp at h, fun _ h => by have := h.2.2.2.1 x Hxm.out; omega, HB.out⟩
      have hx0' : 0 ≤ x := by omega
      by_cases hx1 : sg ≤ x
      · repeat' (first | go_values | go_skip | go_guarded | go_step | go_upon)
        go_ret2
        exact ⟨_, _, rfl, fun h => by simp at h, fun _ h => by have := h.2.2.2.1 x Hxm.out; omega, HB.out⟩
      have hx1' : x < sg := by omega
      have e0 := HM.out.slice
      obtain ⟨d0, d1, d2⟩ := HM.out.cells hkn
      have g0 := HM.out.free (k * 3)
      have g1 := HM.out.free (k * 3 + 1)
      have g2 := HM.out.free (k * 3 + 2)
      repeat' (first | go_values | go_skip | go_guarded | go_step | go_upon)
      clear d0 d1 d2 g0 g1 g2 e0
      have hM2 := ((HM.out.setId hkn x).setNx hkn ((k : Int) + 1)).setLs hkn ((k : Int) - 1)
      rw [HN.out, fillN_next (fun i => (i : Int) + 1) k, fillN_next (fun i => (i : Int) - 1) k] at hM2
      have HM2 := Lib.hid hM2
      clear hM2
      go_roundw
      case rel => exact ⟨k + 1, by go_num, by omega, Lib.hid (HI2.out hx0' hx1'), HM2, Lib.hid (((HB.out.setCell (by dsimp only; omega) _).setCell (by dsimp only; omega) _).setCell (by dsimp only; omega) _), Lib.hid (by simp [World.setCell]; exact HS.out)⟩
      case measure => simp [intOf]; omega
    · obtain rfl : n = k := by omega
      have e0 := HM.out.slice
      by_cases hn0 : n = 0
      · have hnb : ((n : Int) == 0) = true := by rw [hn0]; rfl
        repeat' (first | go_values | go_skip | go_guarded | go_step | go_upon)
        go_ret2
        exact ⟨_, _, rfl, fun _ => ⟨[], OwnR.nil, Nat.zero_le _, fun x hx => by cases hx⟩, fun h => by simp at h, HB.out⟩
      have hnb : ((n : Int) == 0) = false := beq_false_of_ne (by omega)
      obtain ⟨q, hq⟩ : ∃ q, n = q + 1 := ⟨n - 1, by omega⟩
      have hqi : (n : Int) - 1 = (q : Int) := by omega
      have hqn : q < n := by omega
      have Hq := Lib.hid hq
      clear hq
      obtain ⟨d0, d1, d2⟩ := HM.out.cells hqn
      have g1 := HM.out.free (q * 3 + 1)
      have hS := HS.out
      repeat' (go_not_at_region 14; first | go_values | go_skip | go_guarded | go_step | go_upon)
      have hM2 := HM.out.setNx hqn (-1)
      refine gen_wd (fun W => MK w.heap.size (w.heap.size + 2) w.heap.size (w.heap.size + 3) (w.heap.size + 1) n (.slice as0 ns cs) (.slice ak nk ck) (.slice av nv cv) (fillN (fun i => l.getD i 0) n) (updN (fillN (fun i => (i : Int) + 1) n) q (-1)) (fillN (fun i => (i : Int) - 1) n) W ∧ Below w.heap.size w W ∧ W.heap.size = w.heap.size + 3) ⟨hM2, HB.out.setCell (by dsimp only; omega) _, by simp [World.setCell]; exact hS⟩ ?_
      clear hM2 d0 d1 d2 g1 hS e0 HM HB HS
      rintro wb ⟨hM, hB, hS⟩
      have hNI : NI n sg (fillN (fun i => l.getD i 0) n) (updN (fillN (fun i => (i : Int) + 1) n) q (-1)) (fillN (fun i => (i : Int) - 1) n) := by
        refine NI.congr (NI.start (ids := fun i => l.getD i 0) (sg := sg) HI.out) (fun i hi => ?_) (fun i hi => ?_) (fun i hi => ?_)
        · simp [fillN, hi]
        · have hq := Hq.out
          by_cases hiq : i = q
          · rw [hiq, updN_same, if_neg (by omega)]
          · rw [updN_ne _ _ hiq]; simp only [fillN, if_pos hi]; rw [if_pos (by omega)]; omega
        · simp [fillN, hi]
      have HNI := Lib.hid hNI
      have Hall : Hid (∀ i, i < n → 0 ≤ fillN (fun i => l.getD i 0) n i) := Lib.hid fun i hi => by simp only [fillN, if_pos hi]; exact (HI.out i hi).1
      clear hNI HI
      generalize fillN (fun i => l.getD i 0) n = id at hM HNI Hall
      generalize updN (fillN (fun i => (i : Int) + 1) n) q (-1) = nx at hM HNI
      generalize fillN (fun i => (i : Int) - 1) n = ls at hM HNI
      have hab := (Below.refl wb.heap.size wb).alloc (Nat.le_refl _) (.cells #[.slice none 0 0] 141)
      have HM := Lib.hid (hM.keep hab)
      have HB := Lib.hid (hB.trans (hab.mono hB.size))
      have hQ : QAt (wb.alloc (.cells #[.slice none 0 0] 141)) wb.heap.size (.slice none 0 0) := Go.heap_alloc_new _ _
      have HQ := Lib.hid hQ
      have e0 := HM.out.slice
      clear hM hB hQ hab
      repeat' (first | go_values | go_skip | go_guarded | go_step | go_upon)
      rw [hS] at HQ
      clear hS e0
      go_loopw [69] (fun s69 wr => ∃ (k : Nat) (v : Value) (ps : List (Nat → Int)), s69 = .int .i64 k ∧ k ≤ n ∧ Hid (MK w.heap.size (w.heap.size + 2) w.heap.size (w.heap.size + 3) (w.heap.size + 1) n (.slice as0 ns cs) (.slice ak nk ck) (.slice av nv cv) id nx ls wr) ∧ Hid (QAt wr (w.heap.size + 3) v) ∧ Hid (OwnR icL 5 w.heap.size 147 wr v ps) ∧ Hid (ps.length ≤ k ∧ ∀ y ∈ ps, PG n H y) ∧ Hid (Below w.heap.size w wr)) (fun s69 _ => n - (intOf s69).toNat)
      case atStart => exact ⟨0, _, [], rfl, Nat.zero_le _, HM, HQ, Lib.hid OwnR.nil, Lib.hid ⟨Nat.le_refl _, fun y hy => by cases hy⟩, HB⟩
      case round =>
        clear HM HQ HB
        obtain ⟨k, v, ps, rfl, hk, HM, HQ, HO, HP, HB⟩ := hrel
        by_cases hkn : k < n
        · repeat' (first | go_values | go_skip | go_guarded | go_step | go_upon)
          refine Calls.mono (vm_look (w0 := w) (sg := sg) (H := H) k wr v ps HM.out HQ.out HO.out (by have := HP.out.1; omega) h2' HNI.out (.inr ⟨k, rfl, hkn, Hall.out k hkn⟩) HH.out HB.out HH4.out) ?_
          rintro _ w3 ⟨rfl, ⟨v', l', r1, r2, r3, r4⟩, r5⟩
          dsimp only
          have M3 := Lib.hid (HM.out.turn r5 HQ.out)
          have Q3 := Lib.hid r1
          have O3 := Lib.hid r2
          have P3 : Hid (l'.length ≤ k + 1 ∧ ∀ y ∈ l', PG n H y) := Lib.hid ⟨by have := HP.out.1; omega, fun y hy => by
            rcases r4 y hy with h | h
            · exact HP.out.2 y h
            · exact h⟩
          have B3 := Lib.hid (HB.out.trans r5.bel)
          clear r1 r2 r3 r4 r5 HM HQ HO HP HB
          repeat' (first | go_values | go_skip | go_guarded | go_step | go_upon)
          go_roundw
          case rel => exact ⟨k + 1, v', l', by go_num, by omega, M3, Q3, O3, P3, B3⟩
          case measure => simp [intOf]; omega
        · obtain rfl : n = k := by omega
          repeat' (first | go_values | go_skip | go_guarded | go_step | go_upon)
          have hg0 : 3 * liveN id n + ps.length ≤ 1100000 := by have := liveN_le id n; have := HP.out.1; omega
          have Hg0 := Lib.hid hg0
          have HP0 : Hid (∀ y ∈ ps, PG n H y) := Lib.hid HP.out.2
          clear hg0 HP Hall
          go_loopg [76] (3 * liveN id n + ps.length) (fun gk _ wr => ∃ (id nx ls : Nat → Int) (v : Value) (ps : List (Nat → Int)), Hid (3 * liveN id n + ps.length ≤ gk) ∧ Hid (3 * liveN id n + ps.length ≤ 1100000) ∧ Hid (NI n sg id nx ls) ∧ Hid (MK w.heap.size (w.heap.size + 2) w.heap.size (w.heap.size + 3) (w.heap.size + 1) n (.slice as0 ns cs) (.slice ak nk ck) (.slice av nv cv) id nx ls wr) ∧ Hid (QAt wr (w.heap.size + 3) v) ∧ Hid (OwnR icL 5 w.heap.size 147 wr v ps) ∧ Hid (∀ y ∈ ps, PG n H y) ∧ Hid (Below w.heap.size w wr))
          case atStart => exact ⟨id, nx, ls, v, ps, Lib.hid (Nat.le_refl _), Hg0, HNI, HM, HQ, HO, HP0, HB⟩
          case round =>
            clear HM HQ HO HB HP0 Hg0 HNI
            obtain ⟨id, nx, ls, v, ps, Hg, Hc, HNI, HM, HQ, HO, HP, HB⟩ := hrel
            obtain ⟨av0, cv0, hv, _, _⟩ := HO.out.form
            obtain ⟨m, hm⟩ : ∃ m, m = ps.length := ⟨_, rfl⟩
            have Hm := Lib.hid hm
            rw [← hm] at hv
            clear hm
            subst hv
            have k0 := HQ.out.cell
            by_cases hm0 : m = 0
            · subst hm0
              have hn0 : 0 < n := by omega
              have HS0 := Lib.hid (show (0 : Int) = -1 ∨ ∃ k : Nat, (0 : Int) = k ∧ k < n ∧ 0 ≤ id k ∧ ([] : List Int).length ≤ k ∧ n - k ≤ n from .inr ⟨0, rfl, hn0, HNI.out.zero hn0, Nat.le_refl _, by omega⟩)
              clear Hg Hc HQ HO HP Hm
              repeat' (first | go_values | go_skip | go_guarded | go_step | go_upon)
              clear k0
              go_loopg [17, 18] n (fun gn s17 s18 wr2 => ∃ (i : Int) (out : List Int), s18 = .int .i64 i ∧ Hid (i = -1 ∨ ∃ k : Nat, i = k ∧ k < n ∧ 0 ≤ id k ∧ out.length ≤ k ∧ n - k ≤ gn) ∧ Hid (out.length ≤ n) ∧ Hid (OwnR intC 1 w.heap.size 3 wr2 s17 out) ∧ Hid (∀ x ∈ out, 0 ≤ x ∧ x < sg) ∧ Hid (MK w.heap.size (w.heap.size + 2) w.heap.size (w.heap.size + 3) (w.heap.size + 1) n (.slice as0 ns cs) (.slice ak nk ck) (.slice av nv cv) id nx ls wr2) ∧ Hid (Below w.heap.size w wr2))
              case atStart => exact ⟨0, [], rfl, HS0, Lib.hid (Nat.zero_le _), Lib.hid OwnR.nil, Lib.hid (fun x hx => by cases hx), HM, HB⟩
              case round =>
                clear HS0 HM HB
                obtain ⟨i, out, rfl, Hi, Hol, HO, Hx, HM, HB⟩ := hrel
                rcases Hi.out with rfl | ⟨k, rfl, hkn, hkv, hok, hgk⟩
                · repeat' (first | go_values | go_skip | go_guarded | go_step | go_upon)
                  go_ret2
                  exact ⟨_, _, rfl, fun _ => ⟨out, HO.out, Hol.out, Hx.out⟩, fun h => by simp at h, HB.out⟩
                · obtain ⟨ao, co, ho, _, _⟩ := HO.out.form
                  subst ho
                  have e0 := HM.out.slice
                  obtain ⟨d0, d1, _⟩ := HM.out.cells hkn
                  have hidk : 0 ≤ id k ∧ id k < sg := by
                    rcases HNI.out.ids k hkn with h | h
                    · omega
                    · exact h
                  have Hnx : Hid (nx k = -1 ∨ ∃ j : Nat, nx k = j ∧ k < j ∧ j < n ∧ 0 ≤ id j) := Lib.hid (by
                    rcases HNI.out.nxt k hkn hkv with h | ⟨j, h1, h2, h3, h4, _⟩
                    · exact .inl h
                    · exact .inr ⟨j, h1, h2, h3, h4⟩)
                  obtain ⟨X, hX⟩ : ∃ X, X = id k := ⟨_, rfl⟩
                  obtain ⟨NX, hNX⟩ : ∃ X, X = nx k := ⟨_, rfl⟩
                  rw [← hX] at hidk d0
                  rw [← hNX] at Hnx d1
                  have HXr := Lib.hid hidk
                  have hk0 : (0 : Int) ≤ k := by omega
                  have Hok := Lib.hid hok
                  have Hgk := Lib.hid hgk
                  have hon : out.length ≤ 262144 := by omega
                  clear hX hNX hidk hok hgk Hi
                  repeat' (first | (at_builtin; refine Hid.out ?_) | go_values | go_skip | go_guarded | go_step | go_upon)
                  refine Lib.hid ?_
                  have hab : Below wr.heap.size wr (wr.alloc (.cells #[.int .i64 X] 3)) := (Below.refl _ _).alloc (Nat.le_refl _) _
                  have hsz := HB.out.size
                  refine wpList_plain rfl fun K hK => ?_
                  refine app_rowW (f := intC) (sz := 1) (B := w.heap.size) (l0 := out) (l1 := [X]) 8 (fun _ => rfl) (fun y _ => intC_one y) Try.underlying32 info_int rfl (.tmp 168) (.tmp 174) rfl rfl (row_newM wr X) (HO.out.keep hab (Nat.le_refl _)) (by simp; omega) (by simp; omega) (by unfold maxLen; simp; omega) ?_
                  intro v3 w3 ho3 hg3
                  refine hK _ _ ?_
                  clear hK K
                  have hne : ∀ q, (Value.slice ao out.length co).ownBlock = some q → w.heap.size ≤ q ∧ ∃ cs fz, wr.heap[q]? = some (.cells cs 3 fz) := fun q hq => ⟨(HO.out.below hq).1, HO.out.typed hq⟩
                  have hB3 : Below w.heap.size w w3 := (HB.out.trans (hab.mono hsz)).trans (grown_below hg3 (by simp; omega) fun q hq => (hne q hq).1)
                  have hM3 : MK w.heap.size (w.heap.size + 2) w.heap.size (w.heap.size + 3) (w.heap.size + 1) n (.slice as0 ns cs) (.slice ak nk ck) (.slice av nv cv) id nx ls w3 := by
                    have hM := HM.out.keep hab
                    have t : ∀ {g : Nat} {cs : Array Value} {ty : TypeId}, wr.heap[g]? = some (.cells cs ty (0, 0)) → ty ≠ 3 → (Value.slice ao out.length co).ownBlock ≠ some g := fun h1 h2 e => by
                      obtain ⟨_, cs', fz', h3⟩ := hne _ e
                      rw [h1] at h3
                      simp at h3
                      exact h2 h3.2.1
                    exact ⟨grown_obj hg3 hM.l (t HM.out.l (by decide)), grown_obj hg3 hM.nd (t HM.out.nd (by decide)), grown_obj hg3 hM.h (t HM.out.h (by decide)), hM.bl, hM.bn, hM.bh, hM.bq⟩
                  obtain ⟨a1', n1', c1', e1⟩ : ∃ a n c, v3 = .slice a n c := by obtain ⟨a, c, e, _⟩ := ho3.form; exact ⟨a, _, c, e⟩
                  subst e1
                  have e0 := hM3.slice
                  have d1 : w3.cell? ⟨w.heap.size + 1, k * 3 + 1, none⟩ = some (.int .i64 NX) := by
                    have h := grown_obj hg3 (HM.out.keep hab).nd (fun e => by
                      obtain ⟨_, cs', fz', h3⟩ := hne _ e
                      rw [HM.out.nd] at h3
                      simp at h3)
                    rw [← d1, cell_of_row w3 _ _ _ _ _ h, cell_of_row wr _ _ _ _ _ HM.out.nd]
                  have O3 := Lib.hid ho3
                  have M3 := Lib.hid hM3
                  have B3 := Lib.hid hB3
                  clear ho3 hg3 hne hB3 hM3 hab hsz HM HB HO
                  repeat' (first | go_values | go_skip | go_guarded | go_step | go_upon)
                  go_roundg (gk - 1)
                  case measure => have := Hgk.out; omega
                  case rel => exact ⟨NX, out ++ [X], rfl, Lib.hid (by
                    rcases Hnx.out with h | ⟨j, h1, h2, h3, h4⟩
                    · exact .inl h
                    · exact .inr ⟨j, h1, h3, h4, by have := Hok.out; simp; omega, by have := Hgk.out; omega⟩), Lib.hid (by have := Hok.out; simp; omega), O3, Lib.hid (fun x hx => by
                    rcases List.mem_append.1 hx with h | h
                    · exact Hx.out x h
                    · simp at h; rw [h]; exact HXr.out), M3, B3⟩
            · have hm1 : 0 < m := by omega
              repeat' (first | go_values | go_skip | go_guarded | go_step | go_upon)
              refine Calls.mono (q_take ps wr _ HQ.out HO.out HM.out.bq (by have := Hc.out; omega) (by rw [← Hm.out]; exact hm1)) ?_
              rintro _ w3 ⟨⟨y, rfl, hy⟩, ⟨v', l', r1, r2, r3, r4⟩, r5⟩
              dsimp only
              have hPy := HP.out y hy
              obtain ⟨p1, p2, p3, p4, p5, p6⟩ := hPy
              obtain ⟨Lf, hL⟩ : ∃ q : Nat, y 1 = (q : Int) := ⟨(y 1).toNat, by omega⟩
              have hLn : Lf < n := by omega
              have hab := (Below.refl w3.heap.size w3).alloc (Nat.le_refl _) (.cells (ic y) 147)
              have HM2 := Lib.hid ((HM.out.turn r5 HQ.out).keep hab)
              have HQ2 := Lib.hid (r1.keep hab)
              have HO2 := Lib.hid (OwnR.keep r2 hab (Nat.le_refl _))
              have HP2 : Hid (∀ y ∈ l', PG n H y) := Lib.hid fun z hz => HP.out z (r4 z hz)
              have HB2 := Lib.hid ((HB.out.trans r5.bel).trans (hab.mono (HB.out.trans r5.bel).size))
              have Hl := Lib.hid r3
              have HX := Lib.hid (PrAt.new w3 y)
              have P6 := Lib.hid p6
              have HL := Lib.hid hL
              have P3 := Lib.hid p3
              have P4 := Lib.hid p4
              have P5 := Lib.hid p5
              clear r1 r2 r3 r4 r5 hy HM HQ HO HP HB hab k0 p1 p2 p3 p4 p5 p6 hL
              repeat' (go_not_at_region 23; first | go_values | go_skip | go_guarded | go_step | go_upon)
              refine gen_wd (fun W => MK w.heap.size (w.heap.size + 2) w.heap.size (w.heap.size + 3) (w.heap.size + 1) n (.slice as0 ns cs) (.slice ak nk ck) (.slice av nv cv) id nx ls W ∧ QAt W (w.heap.size + 3) v' ∧ OwnR icL 5 w.heap.size 147 W v' l' ∧ PrAt W w3.heap.size y ∧ Below w.heap.size w W) ⟨HM2.out, HQ2.out, HO2.out, HX.out, HB2.out⟩ ?_
              clear HM2 HQ2 HO2 HX HB2
              rintro w4 ⟨hM, hQ, hO, hX, hB⟩
              generalize w3.heap.size = gx at hX ⊢
              have HM := Lib.hid hM
              have HQ := Lib.hid hQ
              have HO := Lib.hid hO
              have HX := Lib.hid hX
              have HB := Lib.hid hB
              clear hM hQ hO hX hB
              obtain ⟨t0, t1, t2, t3, t4⟩ := prAt_range HX.out
              have HLf := Lib.hid HL.out
              have hL := HL.out
              rw [hL] at t1
              have e0 := HM.out.slice
              clear HL
              repeat' (go_not_at_region 24; first | go_values | go_skip | go_guarded | go_step | go_upon)
              clear t0 t1 t4 e0
              obtain ⟨c0, c1, _⟩ := HM.out.cells hLn
              have hgn := (Array.getElem?_eq_some_iff.1 HM.out.nd).1
              have hgl := (Array.getElem?_eq_some_iff.1 HM.out.l).1
              have hgx := HX.out.lt
              have q0 : ∀ nq : WB w4, nq.1.cell? ⟨w.heap.size + 2, 0, none⟩ = some (.slice (some ⟨w.heap.size + 1, 0, none⟩) n n) := fun nq => (nq.2.cell hgl).trans HM.out.slice
              have q1 : ∀ nq : WB w4, nq.1.cell? ⟨w.heap.size + 1, Lf * 3, none⟩ = some (.int .i64 (id Lf)) := fun nq => (nq.2.cell hgn).trans c0
              have q2 : ∀ nq : WB w4, nq.1.cell? ⟨w.heap.size + 1, Lf * 3 + 1, none⟩ = some (.int .i64 (nx Lf)) := fun nq => (nq.2.cell hgn).trans c1
              have qa : ∀ nq : WB w4, nq.1.cell? ⟨gx, 2, none⟩ = some (.int .i64 (y 2)) := fun nq => (nq.2.cell hgx).trans t2
              have qb : ∀ nq : WB w4, nq.1.cell? ⟨gx, 3, none⟩ = some (.int .i64 (y 3)) := fun nq => (nq.2.cell hgx).trans t3
              clear c0 c1 t2 t3 hgl hgx
              by_cases hd1 : id Lf = y 2
              rotate_left
              · have hb1 : (id Lf != y 2) = true := by rw [bne_iff_ne]; exact hd1
                refine wp_region_anyC (by kernel_rfl) w4 ?_
                refine tkC 0 rfl ?_
                refine tkC 1 rfl ?_
                refine tkC 2 rfl ?_
                refine tkC 3 rfl ?_
                refine tkC 4 rfl ?_
                refine tkC 5 rfl ?_
                refine tkC 6 rfl ?_
                refine tkC 7 rfl ?_
                refine skC 8 rfl ?_
                refine skC 9 rfl ?_
                refine skC 10 rfl ?_
                refine skC 11 rfl ?_
                refine skC 12 rfl ?_
                refine tkC 13 rfl ?_
                refine tkC 14 rfl ?_
                refine skC 15 rfl ?_
                refine skC 16 rfl ?_
                refine skC 17 rfl ?_
                refine skC 18 rfl ?_
                refine skC 19 rfl ?_
                refine skC 20 rfl ?_
                refine skC 21 rfl ?_
                refine skC 22 rfl ?_
                refine skC 23 rfl ?_
                refine skC 24 rfl ?_
                refine skC 25 rfl ?_
                refine tkC 26 rfl ?_
                refine wpAnyC_done (by kernel_rfl) (CW.of ((Below.refl _ _).drew)) (by go_simp <;> with_reducible rfl) ?_
                clear q0 q1 q2 qa qb
                repeat' (first | go_values | go_skip | go_guarded | go_step | go_upon)
                go_roundg (3 * liveN id n + l'.length)
                case rel => exact ⟨id, nx, ls, v', l', Lib.hid (Nat.le_refl _), Lib.hid (by have := Hc.out; have := Hl.out; omega), HNI, Lib.hid (HM.out.keep (Below.refl _ _).drew), Lib.hid (HQ.out.keep (Below.refl _ _).drew), Lib.hid (OwnR.keep HO.out (Below.refl _ _).drew (Nat.le_refl _)), HP2, Lib.hid (HB.out.trans ((Below.refl _ _).drew))⟩
                case measure => have := Hg.out; have := Hl.out; omega
              have hb1 : (y 2 != y 2) = false := by rw [bne_eq_false_iff_eq]
              rw [hd1] at q1
              have hlive : 0 ≤ id Lf := by rw [hd1]; exact P3.out
              have Hlive := Lib.hid hlive
              have Hd1 := Lib.hid hd1
              rcases HNI.out.nxt Lf hLn hlive with hx | ⟨g, hx, hg1, hg2, hg3, hg4⟩
              · have hb2 : nx Lf < 0 := by omega
                clear hlive hd1
                refine wp_region_anyC (by kernel_rfl) w4 ?_
                refine tkC 0 rfl ?_
                refine tkC 1 rfl ?_
                refine tkC 2 rfl ?_
                refine tkC 3 rfl ?_
                refine tkC 4 rfl ?_
                refine tkC 5 rfl ?_
                refine tkC 6 rfl ?_
                refine tkC 7 rfl ?_
                refine tkC 8 rfl ?_
                refine tkC 9 rfl ?_
                refine tkC 10 rfl ?_
                refine tkC 11 rfl ?_
                refine tkC 12 rfl ?_
                refine tkC 13 rfl ?_
                refine tkC 14 rfl ?_
                refine skC 15 rfl ?_
                refine skC 16 rfl ?_
                refine skC 17 rfl ?_
                refine skC 18 rfl ?_
                refine skC 19 rfl ?_
                refine skC 20 rfl ?_
                refine skC 21 rfl ?_
                refine skC 22 rfl ?_
                refine skC 23 rfl ?_
                refine skC 24 rfl ?_
                refine skC 25 rfl ?_
                refine tkC 26 rfl ?_
                refine wpAnyC_done (by kernel_rfl) (CW.of ((Below.refl _ _).drew)) (by go_simp <;> with_reducible rfl) ?_
                clear q0 q1 q2 qa qb
                repeat' (first | go_values | go_skip | go_guarded | go_step | go_upon)
                go_roundg (3 * liveN id n + l'.length)
                case rel => exact ⟨id, nx, ls, v', l', Lib.hid (Nat.le_refl _), Lib.hid (by have := Hc.out; have := Hl.out; omega), HNI, Lib.hid (HM.out.keep (Below.refl _ _).drew), Lib.hid (HQ.out.keep (Below.refl _ _).drew), Lib.hid (OwnR.keep HO.out (Below.refl _ _).drew (Nat.le_refl _)), HP2, Lib.hid (HB.out.trans ((Below.refl _ _).drew))⟩
                case measure => have := Hg.out; have := Hl.out; omega
              · have c2' := (HM.out.cells hg2).1
                have q3 : ∀ nq : WB w4, nq.1.cell? ⟨w.heap.size + 1, g * 3, none⟩ = some (.int .i64 (id g)) := fun nq => (nq.2.cell hgn).trans c2'
                rw [hx] at q2
                have hb2 : (0 : Int) ≤ g := by omega
                have Hx := Lib.hid hx
                have Hg4 := Lib.hid hg4
                have Hg3 := Lib.hid hg3
                clear c2' hgn hlive hd1 hx hg4 hg3
                by_cases hd2 : id g = y 3
                rotate_left
                · have hb3 : (id g != y 3) = true := by rw [bne_iff_ne]; exact hd2
                  refine wp_region_anyC (by kernel_rfl) w4 ?_
                  refine tkC 0 rfl ?_
                  refine tkC 1 rfl ?_
                  refine tkC 2 rfl ?_
                  refine tkC 3 rfl ?_
                  refine tkC 4 rfl ?_
                  refine tkC 5 rfl ?_
                  refine tkC 6 rfl ?_
                  refine tkC 7 rfl ?_
                  refine tkC 8 rfl ?_
                  refine tkC 9 rfl ?_
                  refine tkC 10 rfl ?_
                  refine tkC 11 rfl ?_
                  refine tkC 12 rfl ?_
                  refine tkC 13 rfl ?_
                  refine tkC 14 rfl ?_
                  refine tkC 15 rfl ?_
                  refine tkC 16 rfl ?_
                  refine tkC 17 rfl ?_
                  refine tkC 18 rfl ?_
                  refine tkC 19 rfl ?_
                  refine tkC 20 rfl ?_
                  refine tkC 21 rfl ?_
                  refine tkC 22 rfl ?_
                  refine tkC 23 rfl ?_
                  refine tkC 24 rfl ?_
                  refine tkC 25 rfl ?_
                  refine tkC 26 rfl ?_
                  refine wpAnyC_done (by kernel_rfl) (CW.of ((Below.refl _ _).drew)) (by go_simp <;> with_reducible rfl) ?_
                  clear q0 q1 q2 q3 qa qb
                  repeat' (first | go_values | go_skip | go_guarded | go_step | go_upon)
                  go_roundg (3 * liveN id n + l'.length)
                  case rel => exact ⟨id, nx, ls, v', l', Lib.hid (Nat.le_refl _), Lib.hid (by have := Hc.out; have := Hl.out; omega), HNI, Lib.hid (HM.out.keep (Below.refl _ _).drew), Lib.hid (HQ.out.keep (Below.refl _ _).drew), Lib.hid (OwnR.keep HO.out (Below.refl _ _).drew (Nat.le_refl _)), HP2, Lib.hid (HB.out.trans ((Below.refl _ _).drew))⟩
                  case measure => have := Hg.out; have := Hl.out; omega
                have hb3 : (y 3 != y 3) = false := by rw [bne_eq_false_iff_eq]
                rw [hd2] at q3
                refine wp_region_anyC (by kernel_rfl) w4 ?_
                refine tkC 0 rfl ?_
                refine tkC 1 rfl ?_
                refine tkC 2 rfl ?_
                refine tkC 3 rfl ?_
                refine tkC 4 rfl ?_
                refine tkC 5 rfl ?_
                refine tkC 6 rfl ?_
                refine tkC 7 rfl ?_
                refine tkC 8 rfl ?_
                refine tkC 9 rfl ?_
                refine tkC 10 rfl ?_
                refine tkC 11 rfl ?_
                refine tkC 12 rfl ?_
                refine tkC 13 rfl ?_
                refine tkC 14 rfl ?_
                refine tkC 15 rfl ?_
                refine tkC 16 rfl ?_
                refine tkC 17 rfl ?_
                refine tkC 18 rfl ?_
                refine tkC 19 rfl ?_
                refine tkC 20 rfl ?_
                refine tkC 21 rfl ?_
                refine tkC 22 rfl ?_
                refine tkC 23 rfl ?_
                refine tkC 24 rfl ?_
                refine tkC 25 rfl ?_
                refine tkC 26 rfl ?_
                refine genCk (fun W => Below w4.heap.size w4 W) (Below.refl _ _).drew ?_
                intro w5 hb5
                refine wpAnyC_done (by kernel_rfl) (CW.of (hb5)) (by go_simp <;> with_reducible rfl) ?_
                have HM5 := Lib.hid (HM.out.keep hb5)
                have HQ5 := Lib.hid (HQ.out.keep hb5)
                have HO5 := Lib.hid (OwnR.keep HO.out hb5 (Nat.le_refl _))
                have HX5 := Lib.hid (HX.out.keep hb5)
                have HB5 := Lib.hid (HB.out.trans (hb5.mono HB.out.size))
                clear q0 q1 q2 q3 qa qb hb5 HM HQ HO HX HB hb1 hb3
                obtain ⟨t0, t1, t2, t3, t4⟩ := prAt_range HX5.out
                clear t0 t1 t2 t3
                by_cases hs4 : sg ≤ y 4
                · repeat' (first | go_values | go_skip | go_guarded | go_step | go_upon)
                  go_ret2
                  refine ⟨_, _, rfl, fun h => by simp at h, fun _ h => ?_, HB5.out⟩
                  obtain ⟨v6, hv6, e6⟩ := P6.out
                  have := h.2.2.2.2 v6 hv6
                  omega
                have hs4' : y 4 < sg := by omega
                have e0 := HM5.out.slice
                obtain ⟨c0, c1, _⟩ := HM5.out.cells hLn
                rw [Hx.out] at c1
                repeat' (go_not_at_region 28; first | go_values | go_skip | go_guarded | go_step | go_upon)
                clear c0 c1 e0 t4
                have Hgx4 : Hid (∀ W, PrAt W gx y → W.cell? ⟨gx, 4, none⟩ = some (.int .i64 (y 4)) ∧ W.cell? ⟨gx, 1, none⟩ = some (.int .i64 (Lf : Nat))) := Lib.hid fun W h => by
                  obtain ⟨_, t1, _, _, t4⟩ := prAt_range h
                  rw [HLf.out] at t1
                  exact ⟨t4, t1⟩
                obtain ⟨C, hC⟩ : ∃ C : World → Prop, C = fun W => W.cell? ⟨w.heap.size + 2, 0, none⟩ = some (.slice (some ⟨w.heap.size + 1, 0, none⟩) n n) ∧ W.cell? ⟨gx, 4, none⟩ = some (.int .i64 (y 4)) ∧ W.cell? ⟨w.heap.size + 1, g * 3 + 1, none⟩ = some (.int .i64 (nx g)) := ⟨_, rfl⟩
                have Hmk : Hid (∀ W, W.cell? ⟨w.heap.size + 2, 0, none⟩ = some (.slice (some ⟨w.heap.size + 1, 0, none⟩) n n) → W.cell? ⟨gx, 4, none⟩ = some (.int .i64 (y 4)) → W.cell? ⟨w.heap.size + 1, g * 3 + 1, none⟩ = some (.int .i64 (nx g)) → C W) := Lib.hid fun W a b c => by rw [hC]; exact ⟨a, b, c⟩
                have hC' : ∀ W, C W → W.cell? ⟨w.heap.size + 2, 0, none⟩ = some (.slice (some ⟨w.heap.size + 1, 0, none⟩) n n) ∧ W.cell? ⟨gx, 4, none⟩ = some (.int .i64 (y 4)) ∧ W.cell? ⟨w.heap.size + 1, g * 3 + 1, none⟩ = some (.int .i64 (nx g)) := fun W h => by rw [hC] at h; exact h
                have q0 : ∀ nq : GW C, nq.1.cell? ⟨w.heap.size + 2, 0, none⟩ = some (.slice (some ⟨w.heap.size + 1, 0, none⟩) n n) := fun nq => (hC' _ nq.2).1
                have q1 : ∀ nq : GW C, nq.1.cell? ⟨gx, 4, none⟩ = some (.int .i64 (y 4)) := fun nq => (hC' _ nq.2).2.1
                have q2 : ∀ nq : GW C, nq.1.cell? ⟨w.heap.size + 1, g * 3 + 1, none⟩ = some (.int .i64 (nx g)) := fun nq => (hC' _ nq.2).2.2
                clear hC hC'
                refine wp_region_anyM (by kernel_rfl) C ?_
                refine tkC 0 rfl ?_
                refine tkC 1 rfl ?_
                refine tkC 2 rfl ?_
                refine tkC 3 rfl ?_
                refine tkC 4 rfl ?_
                refine tkC 5 rfl ?_
                refine tkC 6 rfl ?_
                refine tkC 7 rfl ?_
                refine tkC 8 rfl ?_
                refine tkC 9 rfl ?_
                refine tkC 10 rfl ?_
                clear q0 q1 q2
                refine genCk (fun W => Below w5.heap.size w5 W) (Below.refl _ _).drew ?_
                intro W0 hb0
                have M0 := Lib.hid (HM5.out.keep hb0)
                have Q0 := Lib.hid (HQ5.out.keep hb0)
                have O0 := Lib.hid (OwnR.keep HO5.out hb0 (Nat.le_refl _))
                have X0 := Lib.hid (HX5.out.keep hb0)
                have B0 := Lib.hid (HB5.out.trans (hb0.mono HB5.out.size))
                clear hb0 HM5 HQ5 HO5 HX5 HB5
                obtain ⟨d0, d1, _⟩ := M0.out.cells hLn
                have f0 := M0.out.free (Lf * 3)
                refine wpAnyC_ready (CG.of (Hmk.out _ M0.out.slice (Hgx4.out _ X0.out).1 (M0.out.cells hg2).2.1)) (rs := [11]) (by kernel_rfl) (by simp) ?_
                refine (AllReadyC.cons rfl (fun K hK => ?_) AllReadyC.nil)
                go_simp
                refine hK _ _ ?_
                clear hK K
                refine genCk (fun W => MK w.heap.size (w.heap.size + 2) w.heap.size (w.heap.size + 3) (w.heap.size + 1) n (.slice as0 ns cs) (.slice ak nk ck) (.slice av nv cv) (updN id Lf (y 4)) nx ls W ∧ QAt W (w.heap.size + 3) v' ∧ OwnR icL 5 w.heap.size 147 W v' l' ∧ PrAt W gx y ∧ Below w.heap.size w W) ⟨M0.out.setId hLn (y 4), M0.out.q Q0.out, M0.out.own O0.out, M0.out.pr X0.out, B0.out.setCell (by dsimp only; omega) _⟩ ?_
                clear M0 Q0 O0 X0 B0 d0 d1 f0
                rintro W1 ⟨hM, hQ, hO, hX, hB⟩
                have M0 := Lib.hid hM
                have Q0 := Lib.hid hQ
                have O0 := Lib.hid hO
                have X0 := Lib.hid hX
                have B0 := Lib.hid hB
                clear hM hQ hO hX hB
                obtain ⟨_, d1, _⟩ := M0.out.cells hLn
                have f1 := M0.out.free (Lf * 3 + 1)
                refine tkC 12 rfl ?_
                refine tkC 13 rfl ?_
                refine wpAnyC_ready (CG.of (Hmk.out _ M0.out.slice (Hgx4.out _ X0.out).1 (M0.out.cells hg2).2.1)) (rs := [14]) (by kernel_rfl) (by simp) ?_
                refine (AllReadyC.cons rfl (fun K hK => ?_) AllReadyC.nil)
                go_simp
                refine hK _ _ ?_
                clear hK K
                refine genCk (fun W => MK w.heap.size (w.heap.size + 2) w.heap.size (w.heap.size + 3) (w.heap.size + 1) n (.slice as0 ns cs) (.slice ak nk ck) (.slice av nv cv) (updN id Lf (y 4)) (updN nx Lf (nx g)) ls W ∧ QAt W (w.heap.size + 3) v' ∧ OwnR icL 5 w.heap.size 147 W v' l' ∧ PrAt W gx y ∧ Below w.heap.size w W) ⟨M0.out.setNx hLn (nx g), M0.out.q Q0.out, M0.out.own O0.out, M0.out.pr X0.out, B0.out.setCell (by dsimp only; omega) _⟩ ?_
                clear M0 Q0 O0 X0 B0 d1 f1
                rintro W2 ⟨hM, hQ, hO, hX, hB⟩
                have M0 := Lib.hid hM
                have Q0 := Lib.hid hQ
                have O0 := Lib.hid hO
                have X0 := Lib.hid hX
                have B0 := Lib.hid hB
                clear hM hQ hO hX hB
                refine wpAnyC_done (by kernel_rfl) (CG.of (Hmk.out _ M0.out.slice (Hgx4.out _ X0.out).1 (by have h := (M0.out.cells hg2).2.1; rw [updN_ne _ _ (by omega)] at h; exact h))) (by go_simp <;> with_reducible rfl) ?_
                clear Hmk
                have e0 := M0.out.slice
                obtain ⟨d0, _, _⟩ := M0.out.cells hg2
                have f0 := M0.out.free (g * 3)
                repeat' (go_not_at_region 30; first | go_values | go_skip | go_guarded | go_step | go_upon)
                obtain ⟨hNI2, hlv2, hlg2, _, hnx2⟩ := HNI.out.merge hLn Hlive.out Hx.out ⟨P5.out, hs4'⟩
                obtain ⟨id2, hid2⟩ : ∃ f, f = updN (updN id Lf (y 4)) g (-1) := ⟨_, rfl⟩
                obtain ⟨nx2, hnx2'⟩ : ∃ f, f = updN nx Lf (nx g) := ⟨_, rfl⟩
                obtain ⟨ls3, hls3⟩ : ∃ f, f = (if 0 ≤ nx g then updN ls (nx g).toNat Lf else ls) := ⟨_, rfl⟩
                have hM2 := M0.out.setId hg2 (-1)
                have hv2 : 0 ≤ id2 Lf := by rw [hid2, updN_ne _ _ (by omega), updN_same]; exact P5.out
                have hn2 : nx2 Lf = nx g := by rw [hnx2', updN_same]
                rw [← hid2, ← hnx2', ← hls3] at hNI2
                rw [← hid2] at hlv2
                rw [← hid2, ← hnx2'] at hM2
                refine gen_wd (fun W => MK w.heap.size (w.heap.size + 2) w.heap.size (w.heap.size + 3) (w.heap.size + 1) n (.slice as0 ns cs) (.slice ak nk ck) (.slice av nv cv) id2 nx2 ls W ∧ QAt W (w.heap.size + 3) v' ∧ OwnR icL 5 w.heap.size 147 W v' l' ∧ PrAt W gx y ∧ Below w.heap.size w W) ⟨hM2, M0.out.q Q0.out, M0.out.own O0.out, M0.out.pr X0.out, B0.out.setCell (by dsimp only; omega) _⟩ ?_
                clear M0 Q0 O0 X0 B0 d0 f0 e0 hM2 hid2 hnx2'
                rintro w6 ⟨hM, hQ, hO, hX, hB⟩
                have HNI2 := Lib.hid hNI2
                have Hlv2 := Lib.hid hlv2
                have Hv2 := Lib.hid hv2
                have Hls3 := Lib.hid hls3
                have Hnx2 := Lib.hid hnx2
                have M6 := Lib.hid hM
                have Q6 := Lib.hid hQ
                have O6 := Lib.hid hO
                have X6 := Lib.hid hX
                have B6 := Lib.hid hB
                obtain ⟨_, c1, _⟩ := hM.cells hLn
                rw [hn2] at c1
                obtain ⟨G, hG⟩ : ∃ G, G = nx g := ⟨_, rfl⟩
                rw [← hG] at c1 Hls3 Hnx2
                have Hn2 := Lib.hid (show nx2 Lf = G by rw [hn2, hG])
                clear hNI2 hlv2 hv2 hls3 hnx2 hM hQ hO hX hB hn2 hG
                repeat' (go_not_at_if 141; first | go_values | go_skip | go_guarded | go_step | go_upon)
                go_cut [] from 76 to 160 (fun W => Hid (MK w.heap.size (w.heap.size + 2) w.heap.size (w.heap.size + 3) (w.heap.size + 1) n (.slice as0 ns cs) (.slice ak nk ck) (.slice av nv cv) id2 nx2 ls3 W ∧ QAt W (w.heap.size + 3) v' ∧ OwnR icL 5 w.heap.size 147 W v' l' ∧ PrAt W gx y ∧ Below w.heap.size w W))
                case first =>
                  as_aux_lemma =>
                  rcases Hnx2.out with rfl | ⟨hg3, hg4⟩
                  · have hl := Hls3.out
                    rw [if_neg (by decide)] at hl
                    subst hl
                    repeat' (first | go_values | go_skip | go_guarded | go_step | go_upon)
                    go_meet
                    case rel => exact Lib.hid ⟨M6.out, Q6.out, O6.out, X6.out, B6.out⟩
                  · obtain ⟨j, rfl⟩ : ∃ j : Nat, G = j := ⟨G.toNat, by omega⟩
                    have hl := Hls3.out
                    rw [if_pos (by omega), show ((j : Nat) : Int).toNat = j from rfl] at hl
                    subst hl
                    have hjn : j < n := by omega
                    have hj0 : (0 : Int) ≤ j := by omega
                    clear Hls3 c1
                    repeat' (go_not_at_region 31; first | go_values | go_skip | go_guarded | go_step | go_upon)
                    obtain ⟨C, hC⟩ : ∃ C : World → Prop, C = fun W => W.cell? ⟨w.heap.size + 2, 0, none⟩ = some (.slice (some ⟨w.heap.size + 1, 0, none⟩) n n) ∧ W.cell? ⟨gx, 1, none⟩ = some (.int .i64 (Lf : Nat)) ∧ W.cell? ⟨w.heap.size + 1, Lf * 3 + 1, none⟩ = some (.int .i64 (j : Nat)) := ⟨_, rfl⟩
                    have Hmk : Hid (∀ W, W.cell? ⟨w.heap.size + 2, 0, none⟩ = some (.slice (some ⟨w.heap.size + 1, 0, none⟩) n n) → W.cell? ⟨gx, 1, none⟩ = some (.int .i64 (Lf : Nat)) → W.cell? ⟨w.heap.size + 1, Lf * 3 + 1, none⟩ = some (.int .i64 (j : Nat)) → C W) := Lib.hid fun W a b c => by rw [hC]; exact ⟨a, b, c⟩
                    have hC' : ∀ W, C W → W.cell? ⟨w.heap.size + 2, 0, none⟩ = some (.slice (some ⟨w.heap.size + 1, 0, none⟩) n n) ∧ W.cell? ⟨gx, 1, none⟩ = some (.int .i64 (Lf : Nat)) ∧ W.cell? ⟨w.heap.size + 1, Lf * 3 + 1, none⟩ = some (.int .i64 (j : Nat)) := fun W h => by rw [hC] at h; exact h
                    have q0 : ∀ nq : GW C, nq.1.cell? ⟨w.heap.size + 2, 0, none⟩ = some (.slice (some ⟨w.heap.size + 1, 0, none⟩) n n) := fun nq => (hC' _ nq.2).1
                    have q1 : ∀ nq : GW C, nq.1.cell? ⟨gx, 1, none⟩ = some (.int .i64 (Lf : Nat)) := fun nq => (hC' _ nq.2).2.1
                    have q2 : ∀ nq : GW C, nq.1.cell? ⟨w.heap.size + 1, Lf * 3 + 1, none⟩ = some (.int .i64 (j : Nat)) := fun nq => (hC' _ nq.2).2.2
                    clear hC hC'
                    refine wp_region_anyM (by kernel_rfl) C ?_
                    refine tkC 0 rfl ?_
                    refine tkC 1 rfl ?_
                    refine tkC 2 rfl ?_
                    refine tkC 3 rfl ?_
                    refine tkC 4 rfl ?_
                    refine tkC 5 rfl ?_
                    refine tkC 6 rfl ?_
                    refine tkC 7 rfl ?_
                    refine tkC 8 rfl ?_
                    clear q0 q1 q2
                    refine genCk (fun W => Below w6.heap.size w6 W) (Below.refl _ _).drew ?_
                    intro W0 hb0
                    have M0 := Lib.hid (M6.out.keep hb0)
                    have Q0 := Lib.hid (Q6.out.keep hb0)
                    have O0 := Lib.hid (OwnR.keep O6.out hb0 (Nat.le_refl _))
                    have X0 := Lib.hid (X6.out.keep hb0)
                    have B0 := Lib.hid (B6.out.trans (hb0.mono B6.out.size))
                    clear hb0 M6 Q6 O6 X6 B6
                    obtain ⟨_, d1, d2⟩ := M0.out.cells hjn
                    have f2 := M0.out.free (j * 3 + 2)
                    refine wpAnyC_ready (CG.of (Hmk.out _ M0.out.slice (Hgx4.out _ X0.out).2 (by have h := (M0.out.cells hLn).2.1; rw [Hn2.out] at h; exact h))) (rs := [9]) (by kernel_rfl) (by simp) ?_
                    refine (AllReadyC.cons rfl (fun K hK => ?_) AllReadyC.nil)
                    go_simp
                    refine hK _ _ ?_
                    clear hK K
                    refine genCk (fun W => MK w.heap.size (w.heap.size + 2) w.heap.size (w.heap.size + 3) (w.heap.size + 1) n (.slice as0 ns cs) (.slice ak nk ck) (.slice av nv cv) id2 nx2 (updN ls j Lf) W ∧ QAt W (w.heap.size + 3) v' ∧ OwnR icL 5 w.heap.size 147 W v' l' ∧ PrAt W gx y ∧ Below w.heap.size w W) ⟨M0.out.setLs hjn Lf, M0.out.q Q0.out, M0.out.own O0.out, M0.out.pr X0.out, B0.out.setCell (by dsimp only; omega) _⟩ ?_
                    clear M0 Q0 O0 X0 B0 d1 d2 f2
                    rintro W1 ⟨hM, hQ, hO, hX, hB⟩
                    have M0 := Lib.hid hM
                    have Q0 := Lib.hid hQ
                    have O0 := Lib.hid hO
                    have X0 := Lib.hid hX
                    have B0 := Lib.hid hB
                    clear hM hQ hO hX hB
                    refine wpAnyC_done (by kernel_rfl) (CG.of (Hmk.out _ M0.out.slice (Hgx4.out _ X0.out).2 (by have h := (M0.out.cells hLn).2.1; rw [Hn2.out] at h; exact h))) (by go_simp <;> with_reducible rfl) ?_
                    repeat' (first | go_values | go_skip | go_guarded | go_step | go_upon)
                    go_meet
                    case rel => exact Lib.hid ⟨M0.out, Q0.out, O0.out, X0.out, B0.out⟩
                case rest =>
                  as_aux_lemma =>
                  obtain ⟨hM, hQ, hO, hX, hB⟩ := hcut.out
                  have M7 := Lib.hid hM
                  have Q7 := Lib.hid hQ
                  have O7 := Lib.hid hO
                  have B7 := Lib.hid hB
                  obtain ⟨_, t1⟩ := Hgx4.out _ hX
                  clear hcut hM hQ hO hX hB c1 M6 Q6 O6 X6 B6 Hls3 Hn2
                  repeat' (first | go_values | go_skip | go_guarded | go_step | go_upon)
                  refine Calls.mono (vm_look (w0 := w) (sg := sg) (H := H) Lf wc v' l' M7.out Q7.out O7.out (by have := Hc.out; have := Hl.out; omega) h2' HNI2.out (.inr ⟨Lf, rfl, hLn, Hv2.out⟩) HH.out B7.out HH4.out) ?_
                  rintro _ w8 ⟨rfl, ⟨v8, l8, r1, r2, r3, r4⟩, r5⟩
                  dsimp only
                  have M8 := Lib.hid (M7.out.turn r5 Q7.out)
                  have Q8 := Lib.hid r1
                  have O8 := Lib.hid r2
                  have L8 := Lib.hid r3
                  have P8 : Hid (∀ y ∈ l8, PG n H y) := Lib.hid fun z hz => by
                    rcases r4 z hz with h | h
                    · exact HP2.out z h
                    · exact h
                  have B8 := Lib.hid (B7.out.trans r5.bel)
                  obtain ⟨_, _, c2⟩ := M8.out.cells hLn
                  have Hi8 : Hid (ls3 Lf = -1 ∨ ∃ k : Nat, ls3 Lf = k ∧ k < n ∧ 0 ≤ id2 k) := Lib.hid (by
                    rcases HNI2.out.lst Lf hLn Hv2.out with h | ⟨j, h1, h2, h3, _⟩
                    · exact .inl h
                    · exact .inr ⟨j, h1, by omega, h3⟩)
                  obtain ⟨IX, hIX⟩ : ∃ X, X = ls3 Lf := ⟨_, rfl⟩
                  rw [← hIX] at c2 Hi8
                  clear t1 r1 r2 r3 r4 r5 M7 Q7 O7 B7 hIX
                  repeat' (first | go_values | go_skip | go_guarded | go_step | go_upon)
                  refine Calls.mono (vm_look (w0 := w) (sg := sg) (H := H) IX w8 v8 l8 M8.out Q8.out O8.out (by have := Hc.out; have := Hl.out; have := L8.out; omega) h2' HNI2.out Hi8.out HH.out B8.out HH4.out) ?_
                  rintro _ w9 ⟨rfl, ⟨v9, l9, r1, r2, r3, r4⟩, r5⟩
                  dsimp only
                  have M9 := Lib.hid (M8.out.turn r5 Q8.out)
                  have Q9 := Lib.hid r1
                  have O9 := Lib.hid r2
                  have L9 := Lib.hid r3
                  have P9 : Hid (∀ y ∈ l9, PG n H y) := Lib.hid fun z hz => by
                    rcases r4 z hz with h | h
                    · exact P8.out z h
                    · exact h
                  have B9 := Lib.hid (B8.out.trans r5.bel)
                  clear r1 r2 r3 r4 r5 M8 Q8 O8 B8 P8 c2
                  repeat' (first | go_values | go_skip | go_guarded | go_step | go_upon)
                  go_roundg (3 * liveN id2 n + l9.length)
                  case rel => exact ⟨id2, nx2, ls3, v9, l9, Lib.hid (Nat.le_refl _), Lib.hid (by have := Hc.out; have := Hl.out; have := L8.out; have := L9.out; have := Hlv2.out; omega), HNI2, M9, Q9, O9, P9, B9⟩
                  case measure => have := Hg.out; have := Hl.out; have := L8.out; have := L9.out; have := Hlv2.out; omega
end Go.Proofs.Ytkpdcejnanhgoaa
