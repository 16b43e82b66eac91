/- Walk: what follows of a look, by the reference. Conditions: the ranges and the table lie in memory, the table is not empty. -/
import Derived.Test.YtkhggnlanopgkaaRefGoes5
namespace Go.Proofs.Ytkhggnlanopgkaa
open Go.RowKit
/-- with the table's range so far -/
structure G8 (w0 : World) (p : Prg) (v : PV) (x : Nat → Int) (A N : Int × Int) (g : Nat) (w : World) : Prop where
  gq : GQ w0 p v x A w
  b : SpAt w g N
  lo : w0.heap.size + 1 + 1 + 1 + 1 < g
theorem G8.start {w0 w : World} {p : Prg} {v : PV} {x : Nat → Int} {A : Int × Int} (h : GQ w0 p v x A w) (n : Int) : G8 w0 p v x A (n, n) w.heap.size (w.alloc (.cells #[.int .i64 n, .int .i64 n] 97)).drew :=
  ⟨h.step ((Below.refl _ _).alloc (Nat.le_refl _) _).drew, SpAt.new w (n, n), h.t.lt⟩
theorem G8.put0 {w0 w : World} {p : Prg} {v : PV} {x : Nat → Int} {A N : Int × Int} {g : Nat} (h : G8 w0 p v x A N g w) (n : Int) : G8 w0 p v x A (n, N.2) g (w.setCell ⟨g, 0, none⟩ (.int .i64 n)) :=
  ⟨h.gq.oth h.lo, h.b.put0 n, h.lo⟩
theorem G8.put1 {w0 w : World} {p : Prg} {v : PV} {x : Nat → Int} {A N : Int × Int} {g : Nat} (h : G8 w0 p v x A N g w) (n : Int) : G8 w0 p v x A (N.1, n) g (w.setCell ⟨g, 1, none⟩ (.int .i64 n)) :=
  ⟨h.gq.oth h.lo, h.b.put1 n, h.lo⟩
theorem mm_step {l : List Int} {k : Nat} {lo hi x : Int} (h1 : lo = mnTo l k) (h2 : hi = mxTo l k) (hx : x = l.getD k 0) : min lo x = mnTo l (k + 1) ∧ max hi x = mxTo l (k + 1) := by
  rw [mnTo_succ, mxTo_succ, h1, h2, hx]; exact ⟨rfl, rfl⟩
set_option maxRecDepth 100000 in
set_option maxHeartbeats 4000000 in
theorem ref_goes8 (p : Prg) (v : PV) (a b c d : Int) (vr : Value) (r : Rg) (w : World) (H : PrgAt w v p) (hr : RowOf spC 2 w vr r) (hr8 : r.length = 8) (ha : 0 ≤ a ∧ a ≤ 7) (hd : 0 ≤ d ∧ d < (p.tabs.length : Int)) (dl : List Int) (hdl : dl = (p.tabs.getD d.toNat (0, [])).2) (hdn : 1 ≤ dl.length ∧ dl.length ≤ 400000) (A : Int × Int) (hA : A = rget r a.toNat) :
    Calls Try.prog 40 #[pgV p v, .agg #[.int .i64 8, .int .i64 a, .int .i64 b, .int .i64 c, .int .i64 d], vr] w fun e w' => e = .returned (.tuple #[.bool true, spV (spanD dl), .bool false, spV A]) ∧ Below w.heap.size w w' := by
  obtain ⟨ar, cr, rfl, hcr, hmr, hcell⟩ := hr.open spC_len
  rw [hr8] at hcr hcell ⊢
  rcases hcell with h0 | ⟨br, or', rfl, hbr, hcell⟩
  · omega
  obtain ⟨ts, hts, htl, htr⟩ := H.tabs
  obtain ⟨at', ct, hvt, hct, hmt, hcellt⟩ := hts.open (f := tbC) (sz := 2) (fun _ => rfl)
  obtain ⟨vc, vt, vx, vs, vk, vv⟩ := v
  dsimp only at hvt
  subst hvt
  obtain ⟨ka, hka⟩ : ∃ k : Nat, a = (k : Int) := ⟨a.toNat, by omega⟩
  subst hka
  have hka8 : ka < 8 := by omega
  rw [Int.toNat_natCast] at hA
  obtain ⟨ea0, ea1⟩ := sp_cells hcell ka (by omega)
  rw [← hA] at ea0 ea1
  obtain ⟨kt, hkt⟩ : ∃ k : Nat, d = (k : Int) := ⟨d.toNat, by omega⟩
  subst hkt
  have hktl : kt < p.tabs.length := by omega
  have hkts : kt < ts.length := by omega
  rw [Int.toNat_natCast, List.getD_eq_getElem?_getD, List.getElem?_eq_getElem hktl] at hdl
  have hti : ts[kt]? = some ts[kt] := List.getElem?_eq_getElem hkts
  obtain ⟨-, -, hrow⟩ := htr kt _ _ hti (List.getElem?_eq_getElem hktl)
  have hdl' : dl = (p.tabs[kt]).2 := hdl
  rw [← hdl'] at hrow
  rcases hcellt with h0 | ⟨bt, ot, hat, hbt, hclt⟩
  · omega
  subst hat
  obtain ⟨t0, t1⟩ := tab_cells hclt hti
  generalize ts[kt] = tt at hrow t0 t1 hti
  obtain ⟨q', vd⟩ := tt
  dsimp only at hrow t0 t1
  obtain ⟨ad, cd, rfl, hcd, hmd, hcelld⟩ := hrow.open intC_len
  rcases hcelld with h0 | ⟨bd, od, rfl, hbd, hcld⟩
  · omega
  obtain ⟨n, hn⟩ : ∃ n, n = dl.length := ⟨_, rfl⟩
  have Hd : Hid (∀ w', Below w.heap.size w w' → ∀ k, k < n → w'.cell? ⟨bd, od + k, none⟩ = some (.int .i64 (dl.getD k 0))) := Lib.hid fun w' hb k hk => by
    rw [hb.cell (show bd < w.heap.size from hbd)]; exact int_cell hcld k (by rw [← hn]; exact hk)
  have hsp : spanD dl = (mnTo dl n, mxTo dl n) := by rw [hn]; rfl
  rw [hsp]
  obtain ⟨L, hL⟩ : ∃ L, L = mnTo dl n := ⟨_, rfl⟩
  obtain ⟨M, hM⟩ : ∃ M, M = mxTo dl n := ⟨_, rfl⟩
  rw [← hL, ← hM]
  have HL := Lib.hid hL
  have HM := Lib.hid hM
  clear hL hM
  rw [← hn] at hdn hcd t1
  have hn1 : 1 ≤ n := hdn.1
  have hn4 : (n : Int) ≤ 400000 := by omega
  obtain ⟨nt, hnt⟩ : ∃ m, m = ts.length := ⟨_, rfl⟩
  rw [← hnt] at hkts ⊢
  clear hcell hr hr8 ha hA hd hdl hdl' htl hts htr hti hrow hclt hcld hsp hn hktl hct hmt hmd H hnt hdn
  have hb4 : Below w.heap.size w ((((w.alloc (.cells (pgC p ⟨vc, .slice (some ⟨bt, ot, none⟩) nt ct, vx, vs, vk, vv⟩) 30)).alloc (.cells #[.int .i64 8, .int .i64 (ka : Int), .int .i64 b, .int .i64 c, .int .i64 (kt : Int)] 39)).alloc (.cells #[.int .i64 0, .int .i64 0] 97)).alloc (.cells #[.int .i64 0, .int .i64 0] 97)) := ((((Below.refl _ _).alloc (Nat.le_refl _) _).alloc (by simp) _).alloc (by simp; omega) _).alloc (by simp; omega) _
  have f0 := ea0
  have f1 := ea1
  rw [← hb4.cell (show br < w.heap.size from hbr)] at f0 f1
  have hb5 := hb4.alloc (by simp; omega) (.cells #[.int .i64 A.1, .int .i64 A.2] 97)
  have f2 := t1
  rw [← hb5.cell (show bt < w.heap.size from hbt)] at f2
  go_enter Try.func40, Try.ntmps40
  repeat' (first | go_values | go_skip | go_guarded | go_step | go_upon)
  refine gen_world (GQ w p ⟨vc, .slice (some ⟨bt, ot, none⟩) nt ct, vx, vs, vk, vv⟩ (mk5 8 (ka : Int) b c (kt : Int)) A) (GQ.start w p _ (mk5 8 (ka : Int) b c (kt : Int)) A) ?_
  clear ea0 ea1 f0 f1 f2 t0 t1 hb4 hb5
  intro wa hG
  have HG := Lib.hid hG
  have d0 := Hd.out wa hG.sq.bel 0 hn1
  rw [Nat.add_zero] at d0
  have hn0 : 0 < n := hn1
  have hbd' : bd < wa.heap.size := Nat.lt_of_lt_of_le hbd hG.sq.bel.size
  have e0 : (wa.alloc (.cells #[.int .i64 0, .int .i64 0] 97)).drew.cell? ⟨bd, od, none⟩ = some (.int .i64 (dl.getD 0 0)) := by
    have hb := ((hG.sq.bel.alloc hG.sq.bel.size (.cells #[.int .i64 0, .int .i64 0] 97)).drew)
    have := Hd.out _ hb 0 hn1
    rwa [Nat.add_zero] at this
  clear hG
  obtain ⟨y0, hy0⟩ : ∃ y, y = dl.getD 0 0 := ⟨_, rfl⟩
  rw [← hy0] at d0 e0
  have Hy0 := Lib.hid hy0
  clear hy0
  go_region
  have H8 := Lib.hid (G8.start HG.out y0)
  obtain ⟨g, hg⟩ : ∃ g, g = wa.heap.size := ⟨_, rfl⟩
  rw [← hg] at H8 ⊢
  obtain ⟨wb, hwb⟩ : ∃ wb, wb = (wa.alloc (.cells #[.int .i64 y0, .int .i64 y0] 97)).drew := ⟨_, rfl⟩
  rw [← hwb] at H8 ⊢
  clear hwb hg d0 e0 hbd' HG
  repeat' (first | go_values | go_skip | go_guarded | go_step | go_upon)
  go_loopw [18, 151] (fun _ s_ wr => ∃ (k : Nat) (lo hi : Int), s_ = .int .i64 k ∧ k ≤ n ∧ Hid (lo = mnTo dl k) ∧ Hid (hi = mxTo dl k) ∧ Hid (G8 w p ⟨vc, .slice (some ⟨bt, ot, none⟩) nt ct, vx, vs, vk, vv⟩ (mk5 8 (ka : Int) b c (kt : Int)) A (lo, hi) g wr)) (fun _ s_ _ => n - (intOf s_).toNat)
  case atStart => exact ⟨0, y0, y0, rfl, Nat.zero_le _, Hy0, Hy0, H8⟩
  case round =>
    clear H8 Hy0
    obtain ⟨k, lo, hi, rfl, hk, Hlo, Hhi, HG⟩ := hrel
    obtain ⟨c0, c1⟩ := HG.out.b.two
    have n0 := HG.out.b.free 0
    have n1 := HG.out.b.free 1
    by_cases hlt : k < n
    · have dk := Hd.out wr HG.out.gq.sq.bel k hlt
      obtain ⟨y, hy⟩ : ∃ y, y = dl.getD k 0 := ⟨_, rfl⟩
      have Hmm := Lib.hid (mm_step Hlo.out Hhi.out hy)
      rw [← hy] at dk
      clear hy Hlo Hhi
      dsimp only at c0 c1
      by_cases h1 : y < lo
      · have e1 : min lo y = y := by omega
        by_cases h2 : hi < y
        · have e2 : max hi y = y := by omega
          rw [e1, e2] at Hmm
          clear e1 e2
          repeat' (first | go_values | go_skip | go_guarded | go_step | go_upon)
          go_roundw
          case rel => exact ⟨k + 1, y, y, by go_num, hlt, Lib.hid Hmm.out.1, Lib.hid Hmm.out.2, Lib.hid ((HG.out.put0 y).put1 y)⟩
          case measure => simp [intOf]; omega
        · have e2 : max hi y = hi := by omega
          rw [e1, e2] at Hmm
          clear e1 e2
          repeat' (first | go_values | go_skip | go_guarded | go_step | go_upon)
          go_roundw
          case rel => exact ⟨k + 1, y, hi, by go_num, hlt, Lib.hid Hmm.out.1, Lib.hid Hmm.out.2, Lib.hid (HG.out.put0 y)⟩
          case measure => simp [intOf]; omega
      · have e1 : min lo y = lo := by omega
        by_cases h2 : hi < y
        · have e2 : max hi y = y := by omega
          rw [e1, e2] at Hmm
          clear e1 e2
          repeat' (first | go_values | go_skip | go_guarded | go_step | go_upon)
          go_roundw
          case rel => exact ⟨k + 1, lo, y, by go_num, hlt, Lib.hid Hmm.out.1, Lib.hid Hmm.out.2, Lib.hid (HG.out.put1 y)⟩
          case measure => simp [intOf]; omega
        · have e2 : max hi y = hi := by omega
          rw [e1, e2] at Hmm
          clear e1 e2
          repeat' (first | go_values | go_skip | go_guarded | go_step | go_upon)
          go_roundw
          case rel => exact ⟨k + 1, lo, hi, by go_num, hlt, Lib.hid Hmm.out.1, Lib.hid Hmm.out.2, HG⟩
          case measure => simp [intOf]; omega
    · obtain rfl : k = n := by omega
      have e1 : lo = L := Hlo.out.trans HL.out.symm
      have e2 : hi = M := Hhi.out.trans HM.out.symm
      clear Hlo Hhi HL HM
      subst e1 e2
      obtain ⟨z0, z1⟩ := HG.out.gq.t.two
      have p0 := HG.out.gq.n.free 0
      have p1 := HG.out.gq.n.free 1
      have m0 := HG.out.gq.f.free 0
      have m1 := HG.out.gq.f.free 1
      obtain ⟨x0, x1⟩ := HG.out.gq.n.two
      obtain ⟨u0, u1⟩ := HG.out.gq.f.two
      dsimp only at c0 c1
      repeat' (first | go_values | go_skip | go_guarded | go_step | go_upon)
      go_region
      repeat' (first | go_values | go_skip | go_guarded | go_step | go_upon)
      obtain ⟨k1, k2, k3⟩ := goes_fin HG.out.gq (lo, hi) A
      refine bodyPost_ret (v := .tuple #[.bool true, spV (lo, hi), .bool false, spV A]) (results_goes rfl _ _ (w.heap.size + 1 + 1) (w.heap.size + 1 + 1 + 1) (.bool true) (.bool false) (lo, hi) A rfl rfl rfl rfl k1 k2) rfl ⟨rfl, k3⟩
end Go.Proofs.Ytkhggnlanopgkaa
