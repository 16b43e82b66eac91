/- Walk: one step of the machine (vm.run.step). Conditions: the machine lies in memory. -/
import Derived.Test.YtkpdcejnanhgoaaPk19
import Derived.Test.YtkpdcejnanhgoaaPk21
import Derived.Deep.CutBlock
namespace Go.Proofs.Ytkpdcejnanhgoaa
open Go.RowKit
theorem wp_convW {P : Program} {w : World} {o : Oper} {a : Act} {K : Act → World → Prop} {Q : Exit → Act → World → Prop} {B : Nat} {e : TypeId} {v : Value} {l : List Int} {t d : TypeId} (h1 : P.underlying t = some (.slice e)) (h2 : P.underlying e = some (.int .u8)) (h3 : P.underlying d = some .string)
    (x : Operand) (hop : o.op = Op.convert t d x) (hs : a.eval x = v) (hown : OwnI B e .u8 w v l) (hK : K (a.put o.dst (.string ⟨(toU8s l).toArray⟩)) w) : o.wp P a w K Q := by
  have hrun := conv_own h1 h2 h3 hown
  unfold Oper.wp
  simp [execOp, hop, hs, hrun, Result.andThen]
  exact hK
/-- the machine faults here -/
def Flt (p : Prg) (s : RS) : Prop := ¬ (0 ≤ s.pl ∧ s.pl < p.code.length) ∨ fltB p (codeAt p s.pl.toNat) s.rg = true ∨ ¬ ∀ u ∈ p.hash.vals, ((u % 4294967296 : Nat) : Int) < sgnI p.signs
/-- what a step comes to -/
def StepPost (w0 : World) (g : Nat) (p : Prg) (v : PV) (s : RS) (src put sg tl : List Int) (e : Ending) (w' : World) : Prop :=
  ∃ (en : Int) (c : Bool), e = .returned (.tuple #[.int .i64 en, .bool c]) ∧
    ((c = true ∧ (∃ s', VM w0 g p v s' src put sg tl w' ∧ s.used ≤ s'.used ∧ s'.used ≤ s.fuel) ∧ (en = 0 ∨ en = 1 ∨ (en = 3 ∧ Flt p s))) ∨
      (c = false ∧ ∃ s' src' put' sg' tl', VM w0 g p v s' src' put' sg' tl' w' ∧ VI p s' src' put' sg' tl' ∧ s.used < s'.used ∧ s'.fuel = s.fuel ∧ s'.room = s.room ∧ (0 ≤ s.pl ∧ s.pl < p.code.length) ∧ codeAt p s.pl.toNat 0 ≠ 1 ∧ nxtR p (codeAt p s.pl.toNat) s.rg s'.rg s.pl s'.pl))
theorem VI.use {p : Prg} {s : RS} {src put sg tl : List Int} (h : VI p s src put sg tl) {n : Int} (h0 : 0 ≤ n) (hn : n ≤ s.fuel - s.used) : VI p { s with used := s.used + n, pl := s.pl + 1 } src put sg tl :=
  ⟨h.bsrc, h.bput, h.lsrc, h.lput, h.lsg, h.bsg, h.ltl, h.room, ⟨by have := h.fuel; dsimp only; omega, by have := h.fuel; dsimp only; omega, h.fuel.2.2⟩, h.here, h.mark, h.regs⟩
section
variable {w0 w : World} {g : Nat} {p : Prg} {v : PV} {s : RS} {src put sg tl : List Int}
set_option maxRecDepth 100000 in
set_option maxHeartbeats 1000000 in
theorem vm_pay2 (n : Int) (hn : 0 ≤ n ∧ n ≤ 2000000) (h : VM w0 g p v s src put sg tl w) (hf : 0 ≤ s.used ∧ s.used ≤ s.fuel ∧ s.fuel ≤ 35184372088832) :
    Calls Try.prog 51 #[.pointer (some ⟨g, 0, none⟩), .int .i64 n] w fun e w' => (s.fuel - s.used < n ∧ e = .returned (.bool false) ∧ VM w0 g p v s src put sg tl w' ∧ Else g w w') ∨ (n ≤ s.fuel - s.used ∧ e = .returned (.bool true) ∧ VM w0 g p v { s with used := s.used + n } src put sg tl w' ∧ Else g w w') := by
  have q0 : ∀ nq : WB w, nq.1.cell? ⟨g, 27, none⟩ = some (.int .i64 s.fuel) := fun nq => (h.box.keep nq.2).cell 27
  have q1 : ∀ nq : WB w, nq.1.cell? ⟨g, 28, none⟩ = some (.int .i64 s.used) := fun nq => (h.box.keep nq.2).cell 28
  have H := Lib.hid h
  obtain ⟨f1, f2, f3⟩ := hf
  obtain ⟨n1, n2⟩ := hn
  clear h
  have hw : IntKind.i64.wrap (s.fuel - s.used) = s.fuel - s.used := wi64 (by unfold I64; omega)
  by_cases h1 : s.fuel - s.used < n
  · go_enter Try.func51, Try.ntmps51
    repeat' (go_not_at_region 1; first | go_values | go_skip | go_guarded | go_step | go_upon)
    refine wp_region_anyC (by kernel_rfl) w ?_
    refine tkC 0 rfl ?_
    refine tkC 1 rfl ?_
    refine tkC 2 rfl ?_
    refine tkC 3 rfl ?_
    refine tkC 4 rfl ?_
    refine tkC 5 rfl ?_
    refine tkC 6 rfl ?_
    refine tkC 7 rfl ?_
    refine tkC 8 rfl ?_
    refine tkC 9 rfl ?_
    refine tkC 10 rfl ?_
    refine wpAnyC_done (by kernel_rfl) (CW.of ((Below.refl _ _).drew)) (by go_simp <;> with_reducible rfl) ?_
    clear q0 q1
    repeat' (first | go_values | go_skip | go_guarded | go_step | go_upon)
    go_ret
    exact .inl ⟨h1, rfl, H.out.keep (Below.refl _ _).drew, Else.of_below (Below.refl _ _).drew⟩
  · have h1' : n ≤ s.fuel - s.used := by omega
    go_enter Try.func51, Try.ntmps51
    repeat' (go_not_at_region 1; first | go_values | go_skip | go_guarded | go_step | go_upon)
    refine wp_region_anyC (by kernel_rfl) w ?_
    refine tkC 0 rfl ?_
    refine tkC 1 rfl ?_
    refine tkC 2 rfl ?_
    refine tkC 3 rfl ?_
    refine tkC 4 rfl ?_
    refine tkC 5 rfl ?_
    refine tkC 6 rfl ?_
    refine tkC 7 rfl ?_
    refine tkC 8 rfl ?_
    refine tkC 9 rfl ?_
    refine tkC 10 rfl ?_
    refine genCk (fun W => Below w.heap.size w W) (Below.refl _ _).drew ?_
    intro w1 hb1
    refine wpAnyC_done (by kernel_rfl) (CW.of (hb1)) (by go_simp <;> with_reducible rfl) ?_
    clear q0 q1
    have H1 := Lib.hid (H.out.keep hb1)
    have c1 := H1.out.box.cell 28
    have f := H1.out.box.free 28
    have HE := Lib.hid (Else.of_below (g := g) hb1)
    clear hb1
    repeat' (first | go_values | go_skip | go_guarded | go_step | go_upon)
    go_ret
    exact .inr ⟨h1', rfl, H1.out.set (H1.out.box.set28 (s.used + n)) rfl rfl rfl rfl, HE.out.setCell _ _⟩
set_option maxRecDepth 100000 in
set_option maxHeartbeats 4000000 in
theorem do_1s (x : Nat → Int) (cell : Int) (text : ByteArray) (h : VM w0 g p v s src put sg tl w) (hx : x 0 = 1) : Calls Try.prog 52 #[.pointer (some ⟨g, 0, none⟩), vI x, .int .i64 cell, .string text] w fun e w' => e = .returned (.tuple #[.int .i64 0, .bool true]) ∧ VM w0 g p v s src put sg tl w' := by
  have hi : True := trivial
  obtain ⟨wa, hwa⟩ : ∃ y, y = w.alloc (.cells (ic x) 85) := ⟨_, rfl⟩
  obtain ⟨g5, hg5⟩ : ∃ b, b = w.heap.size := ⟨_, rfl⟩
  obtain ⟨ka, hka, hand⟩ : ∃ k : Nat, k < 8 ∧ bits .and .i64 (x 1) 7 = (k : Int) := ⟨(x 1 % 8).toNat, by omega, by rw [i64_and7]; omega⟩
  have hkx : 0 ≤ x 1 → x 1 < 8 → (x 1).toNat = ka := fun a b => by rw [i64_and7] at hand; omega
  have Hkx := Lib.hid hkx
  have hkaI : (ka : Int) < 8 := by omega
  have HVa : Hid (VM w0 g p v s src put sg tl wa) := Lib.hid (by rw [hwa]; exact h.keep ((Below.refl _ _).alloc (Nat.le_refl _) _))
  have HNa : Hid (InsAt wa g5 x) := Lib.hid (by rw [hwa, hg5]; exact InsAt.new w x)
  have q1 : ∀ nq : WB wa, nq.1.cell? ⟨g5, 1, none⟩ = some (.int .i64 (x 1)) := fun nq => (HNa.out.keep nq.2).cell 1 (by decide)
  have HI := Lib.hid hi
  have Hx0 := Lib.hid hx
  clear h hi hkx hx
  go_enter Try.func52, Try.ntmps52
  repeat' (go_not_at_region 1; first | go_values | go_skip | go_guarded | go_step | go_upon)
  rw [← hwa, ← hg5]
  clear hwa hg5
  refine wp_region_anyC (by kernel_rfl) wa ?_
  refine tkC 0 rfl ?_
  refine tkC 1 rfl ?_
  refine tkC 2 rfl ?_
  refine tkC 3 rfl ?_
  refine tkC 4 rfl ?_
  refine tkC 5 rfl ?_
  refine tkC 6 rfl ?_
  refine tkC 7 rfl ?_
  refine genCk (fun W => Below wa.heap.size wa W) (Below.refl _ _).drew ?_
  intro w1 hb1
  refine wpAnyC_done (by kernel_rfl) (CW.of (hb1)) (by go_simp <;> with_reducible rfl) ?_
  have HV := Lib.hid (HVa.out.keep hb1)
  have HN := Lib.hid (HNa.out.keep hb1)
  clear q1 hb1 HVa HNa hand
  have c0 := HN.out.cell 0 (by decide)
  rw [Hx0.out] at c0
  repeat' (first | go_values | go_skip | go_guarded | go_step | go_upon)
  go_ret2
  exact ⟨rfl, HV.out⟩
set_option maxRecDepth 100000 in
set_option maxHeartbeats 8000000 in
theorem vm_step (h : VM w0 g p v s src put sg tl w) (hi : VI p s src put sg tl) (h64 : P64 p) (hk : p.hash.keys.length ≤ 35184372088832) :
    Calls Try.prog 31 #[.pointer (some ⟨g, 0, none⟩)] w (StepPost w0 g p v s src put sg tl) := by
  have hfu := hi.fuel
  obtain ⟨ac, cc, hvc, hcc, hmc, hcode⟩ := h.prgw.code.open icL_len
  obtain ⟨pl, hpl⟩ : ∃ q, q = s.pl := ⟨_, rfl⟩
  have Hpl := Lib.hid hpl
  have q25 : ∀ nq : WB w, nq.1.cell? ⟨g, 25, none⟩ = some (.int .i64 pl) := fun nq => by rw [hpl]; exact (h.box.keep nq.2).cell 25
  have q4 : ∀ nq : WB w, nq.1.cell? ⟨g, 4, none⟩ = some (.slice ac p.code.length cc) := fun nq => by rw [← hvc]; exact (h.box.keep nq.2).cell 4
  obtain ⟨n, hn⟩ : ∃ n, n = p.code.length := ⟨_, rfl⟩
  have Hn := Lib.hid hn
  rw [← hn] at q4 hcode hcc
  have HV := Lib.hid h
  have HI := Lib.hid hi
  by_cases hat : 0 ≤ pl ∧ pl < n
  rotate_left
  · have hF : Hid (Flt p s) := Lib.hid (.inl (by rw [← Hpl.out, ← Hn.out]; exact hat))
    have hcs : pl < 0 ∨ (0 ≤ pl ∧ (n : Int) ≤ pl) := by omega
    clear h hi hvc hcc hmc hcode hpl hn hat h64 hk hfu
    go_enter Try.func31, Try.ntmps31
    repeat' (go_not_at_region 1; first | go_values | go_skip | go_guarded | go_step | go_upon)
    rcases hcs with hd | ⟨hd, hd'⟩
    · have b1 : decide (pl < 0) = true := decide_eq_true hd
      refine wp_region_anyC (by kernel_rfl) w ?_
      refine tkC 0 rfl ?_
      refine tkC 1 rfl ?_
      refine tkC 2 rfl ?_
      refine tkC 3 rfl ?_
      refine tkC 4 rfl ?_
      refine tkC 5 rfl ?_
      refine skC 6 rfl ?_
      refine skC 7 rfl ?_
      refine skC 8 rfl ?_
      refine skC 9 rfl ?_
      refine skC 10 rfl ?_
      refine skC 11 rfl ?_
      refine skC 12 rfl ?_
      refine skC 13 rfl ?_
      refine skC 14 rfl ?_
      refine skC 15 rfl ?_
      refine skC 16 rfl ?_
      refine tkC 17 rfl ?_
      refine wpAnyC_done (by kernel_rfl) (CW.of ((Below.refl _ _).drew)) (by go_simp <;> with_reducible rfl) ?_
      clear q25 q4
      repeat' (first | go_values | go_skip | go_guarded | go_step | go_upon)
      go_ret2
      exact ⟨3, true, rfl, .inl ⟨rfl, ⟨s, HV.out.keep (Below.refl _ _).drew, Int.le_refl _, HI.out.fuel.2.1⟩, .inr (.inr ⟨rfl, hF.out⟩)⟩⟩
    · have b1 : decide (pl < 0) = false := decide_eq_false (by omega)
      have b2 : decide ((n : Int) ≤ pl) = true := decide_eq_true hd'
      refine wp_region_anyC (by kernel_rfl) w ?_
      refine tkC 0 rfl ?_
      refine tkC 1 rfl ?_
      refine tkC 2 rfl ?_
      refine tkC 3 rfl ?_
      refine tkC 4 rfl ?_
      refine tkC 5 rfl ?_
      refine tkC 6 rfl ?_
      refine tkC 7 rfl ?_
      refine tkC 8 rfl ?_
      refine tkC 9 rfl ?_
      refine tkC 10 rfl ?_
      refine tkC 11 rfl ?_
      refine tkC 12 rfl ?_
      refine tkC 13 rfl ?_
      refine tkC 14 rfl ?_
      refine tkC 15 rfl ?_
      refine tkC 16 rfl ?_
      refine tkC 17 rfl ?_
      refine wpAnyC_done (by kernel_rfl) (CW.of ((Below.refl _ _).drew)) (by go_simp <;> with_reducible rfl) ?_
      clear q25 q4
      repeat' (first | go_values | go_skip | go_guarded | go_step | go_upon)
      go_ret2
      exact ⟨3, true, rfl, .inl ⟨rfl, ⟨s, HV.out.keep (Below.refl _ _).drew, Int.le_refl _, HI.out.fuel.2.1⟩, .inr (.inr ⟨rfl, hF.out⟩)⟩⟩
  obtain ⟨hp0, hp1⟩ := hat
  obtain ⟨k, hk0⟩ : ∃ k : Nat, pl = (k : Int) := ⟨pl.toNat, by omega⟩
  have hkn : k < n := by omega
  obtain ⟨x, hx⟩ : ∃ x, x = codeAt p k := ⟨_, rfl⟩
  have hcx : p.code[k]? = some x := by rw [hx]; unfold codeAt; rw [List.getD_eq_getElem?_getD, List.getElem?_eq_getElem (by omega)]; rfl
  have Hx : Hid (codeAt p s.pl.toNat = x) := Lib.hid (by rw [hx, ← hpl, hk0]; rfl)
  have Hat : Hid (0 ≤ s.pl ∧ s.pl < p.code.length) := Lib.hid (by rw [← hpl, ← hn]; omega)
  have Hx64 : Hid (∀ j, j < 5 → I64 (x j)) := Lib.hid (h64.1 x (List.mem_of_getElem? hcx))
  have H64 := Lib.hid h64
  have Hk := Lib.hid hk
  rcases hcode with h0 | ⟨bc, oc, hac, hbc, hcell⟩
  · omega
  subst hac
  have d0 := hcell k x 0 hcx (by decide)
  have d1 := hcell k x 1 hcx (by decide)
  have d2 := hcell k x 2 hcx (by decide)
  have d3 := hcell k x 3 hcx (by decide)
  have d4 := hcell k x 4 hcx (by decide)
  have e3 : ∀ nq : WB w, nq.1.cell? ⟨bc, oc + k * 5, none⟩ = some (.int .i64 (x 0)) := fun nq => by rw [nq.2.cell hbc]; exact d0
  have e4 : ∀ nq : WB w, nq.1.cell? ⟨bc, oc + k * 5 + 1, none⟩ = some (.int .i64 (x 1)) := fun nq => by rw [nq.2.cell hbc]; exact d1
  have e5 : ∀ nq : WB w, nq.1.cell? ⟨bc, oc + k * 5 + 2, none⟩ = some (.int .i64 (x 2)) := fun nq => by rw [nq.2.cell hbc]; exact d2
  have e6 : ∀ nq : WB w, nq.1.cell? ⟨bc, oc + k * 5 + 3, none⟩ = some (.int .i64 (x 3)) := fun nq => by rw [nq.2.cell hbc]; exact d3
  have e7 : ∀ nq : WB w, nq.1.cell? ⟨bc, oc + k * 5 + 4, none⟩ = some (.int .i64 (x 4)) := fun nq => by rw [nq.2.cell hbc]; exact d4
  subst hk0
  have b1 : decide ((k : Int) < 0) = false := decide_eq_false (by omega)
  have b2 : decide ((n : Int) ≤ (k : Int)) = false := decide_eq_false (by omega)
  have hkn' : (k : Int) < (n : Int) := by omega
  clear h hi hvc hcc hmc hpl hn h64 hk hx hcx hcell d0 d1 d2 d3 d4 hbc
  go_enter Try.func31, Try.ntmps31
  repeat' (go_not_at_region 1; first | go_values | go_skip | go_guarded | go_step | go_upon)
  refine wp_region_anyC (by kernel_rfl) w ?_
  refine tkC 0 rfl ?_
  refine tkC 1 rfl ?_
  refine tkC 2 rfl ?_
  refine tkC 3 rfl ?_
  refine tkC 4 rfl ?_
  refine tkC 5 rfl ?_
  refine tkC 6 rfl ?_
  refine tkC 7 rfl ?_
  refine tkC 8 rfl ?_
  refine tkC 9 rfl ?_
  refine tkC 10 rfl ?_
  refine tkC 11 rfl ?_
  refine tkC 12 rfl ?_
  refine tkC 13 rfl ?_
  refine tkC 14 rfl ?_
  refine tkC 15 rfl ?_
  refine tkC 16 rfl ?_
  refine tkC 17 rfl ?_
  refine genCk (fun W => Below w.heap.size w W) (Below.refl _ _).drew ?_
  intro w1 hb1
  refine wpAnyC_done (by kernel_rfl) (CW.of (hb1)) (by go_simp <;> with_reducible rfl) ?_
  have hb1s : w.heap.size ≤ w1.heap.size := hb1.size
  have r0 : ∀ nq : WB w1, nq.1.cell? ⟨g, 4, none⟩ = some (.slice (some ⟨bc, oc, none⟩) n cc) := fun nq => q4 ⟨nq.1, hb1.trans (nq.2.mono hb1s)⟩
  have r1 : ∀ nq : WB w1, nq.1.cell? ⟨g, 25, none⟩ = some (.int .i64 (k : Int)) := fun nq => q25 ⟨nq.1, hb1.trans (nq.2.mono hb1s)⟩
  have r3 : ∀ nq : WB w1, nq.1.cell? ⟨bc, oc + k * 5, none⟩ = some (.int .i64 (x 0)) := fun nq => e3 ⟨nq.1, hb1.trans (nq.2.mono hb1s)⟩
  have r4 : ∀ nq : WB w1, nq.1.cell? ⟨bc, oc + k * 5 + 1, none⟩ = some (.int .i64 (x 1)) := fun nq => e4 ⟨nq.1, hb1.trans (nq.2.mono hb1s)⟩
  have r5 : ∀ nq : WB w1, nq.1.cell? ⟨bc, oc + k * 5 + 2, none⟩ = some (.int .i64 (x 2)) := fun nq => e5 ⟨nq.1, hb1.trans (nq.2.mono hb1s)⟩
  have r6 : ∀ nq : WB w1, nq.1.cell? ⟨bc, oc + k * 5 + 3, none⟩ = some (.int .i64 (x 3)) := fun nq => e6 ⟨nq.1, hb1.trans (nq.2.mono hb1s)⟩
  have r7 : ∀ nq : WB w1, nq.1.cell? ⟨bc, oc + k * 5 + 4, none⟩ = some (.int .i64 (x 4)) := fun nq => e7 ⟨nq.1, hb1.trans (nq.2.mono hb1s)⟩
  have HV1 := Lib.hid (HV.out.keep hb1)
  clear q25 q4 e3 e4 e5 e6 e7 hb1 hb1s HV b1 b2
  repeat' (go_not_at_region 3; first | go_values | go_skip | go_guarded | go_step | go_upon)
  refine wp_region_anyC (by kernel_rfl) w1 ?_
  refine tkC 0 rfl ?_
  refine tkC 1 rfl ?_
  refine tkC 2 rfl ?_
  refine tkC 3 rfl ?_
  refine tkC 4 rfl ?_
  refine tkC 5 rfl ?_
  refine tkC 6 rfl ?_
  refine tkC 7 rfl ?_
  refine tkC 8 rfl ?_
  refine tkC 9 rfl ?_
  refine tkC 10 rfl ?_
  refine genCk (fun W => Below w1.heap.size w1 W) (Below.refl _ _).drew ?_
  intro w2 hb2
  clear r0 r1 r3 r4 r5 r6 r7
  refine wpAnyC_ready (CW.of (hb2)) (rs := [11]) (by kernel_rfl) (by simp) ?_
  refine (AllReadyC.cons rfl (fun K hK => ?_) AllReadyC.nil)
  go_simp
  refine hK _ _ ?_
  clear hK K
  refine wpAnyC_ready (CW.of (hb2.alloc hb2.size _)) (rs := [12]) (by kernel_rfl) (by simp) ?_
  refine (AllReadyC.cons rfl (fun K hK => ?_) AllReadyC.nil)
  go_simp
  refine hK _ _ ?_
  clear hK K
  refine genCk (fun W => InsAt W w2.heap.size x ∧ Below w1.heap.size w1 W) ⟨InsAt.new w2 x, hb2.alloc hb2.size _⟩ ?_
  generalize w2.heap.size = g4
  clear hb2
  rintro w3 ⟨hN, hb3⟩
  refine wpAnyC_done (by kernel_rfl) (CW.of (hb3)) (by go_simp <;> with_reducible rfl) ?_
  have HV3 := Lib.hid (HV1.out.keep hb3)
  have HN3 := Lib.hid hN
  obtain ⟨z0, z1, z2, z3, z4⟩ : w3.cell? ⟨g4, 0, none⟩ = some (.int .i64 (x 0)) ∧ w3.cell? ⟨g4, 1, none⟩ = some (.int .i64 (x 1)) ∧ w3.cell? ⟨g4, 2, none⟩ = some (.int .i64 (x 2)) ∧ w3.cell? ⟨g4, 3, none⟩ = some (.int .i64 (x 3)) ∧ w3.cell? ⟨g4, 4, none⟩ = some (.int .i64 (x 4)) := ⟨hN.cell 0 (by decide), hN.cell 1 (by decide), hN.cell 2 (by decide), hN.cell 3 (by decide), hN.cell 4 (by decide)⟩
  clear hb3 HV1 hN
  repeat' (first | go_values | go_skip | go_guarded | go_step | go_upon)
  refine Calls.mono (vm_fits _ x w3) ?_
  rintro _ w4 ⟨rfl, hb4⟩
  dsimp only
  have HV4 := Lib.hid (HV3.out.keep hb4)
  have HN4 := Lib.hid (HN3.out.keep hb4)
  clear hb4 HV3 HN3 z0 z1 z2 z3 z4
  have Hflt : Hid (fltB p x s.rg = true → Flt p s) := Lib.hid fun h => .inr (.inl (by rw [Hx.out]; exact h))
  have Hend : Hid (∀ (W : World) (en : Int), VM w0 g p v s src put sg tl W → (en = 0 ∨ en = 1 ∨ (en = 3 ∧ Flt p s)) → StepPost w0 g p v s src put sg tl (.returned (.tuple #[.int .i64 en, .bool true])) W) := Lib.hid fun W en h1 h2 => ⟨en, true, rfl, .inl ⟨rfl, ⟨s, h1, Int.le_refl _, HI.out.fuel.2.1⟩, h2⟩⟩
  have Hrg : Hid (∀ i, i < 8 → I64 (s.rg i)) := Lib.hid HI.out.regs
  by_cases hfit : fitB x = true
  rotate_left
  · have hf : fitB x = false := by simpa using hfit
    have HF : Hid (Flt p s) := Lib.hid (Hflt.out (by unfold fltB; rw [hf]; rfl))
    rw [hf]
    clear hf hfit
    repeat' (first | go_values | go_skip | go_guarded | go_step | go_upon)
    go_ret2
    exact Hend.out _ 3 HV4.out (.inr (.inr ⟨rfl, HF.out⟩))
  rw [hfit]
  have Hfit := Lib.hid hfit
  clear hfit
  have c0 := HN4.out.cell 0 (by decide)
  repeat' (go_not_at_block 0; first | go_values | go_skip | go_guarded | go_step | go_upon)
  clear c0
  go_cut [5, 6, 7] from 46 (fun s5 s6 s7 W => ∃ (cost : Int) (text : List UInt8) (cv : Int), s5 = .int .i64 cost ∧ s6 = .string ⟨text.toArray⟩ ∧ s7 = .int .i64 cv ∧ Hid (1 ≤ cost ∧ cost ≤ 2000000) ∧ Hid (DoPre p s put sg tl x cv text) ∧ Hid (VM w0 g p v s src put sg tl W) ∧ Hid (InsAt W g4 x))
  case first =>
    as_aux_lemma =>
    have c0 := HN4.out.cell 0 (by decide)
    rcases fit_cases x with hx | hx | hx | hx | hx | hx | hx | hx | hx | hx | hx | hx | hx | hx | hx | hx | hx | hx
    · as_aux_lemma =>
      have Hx0 := Lib.hid hx
      clear hx
      have t8 : (x 0 == 8) = false := by rw [Hx0.out]; rfl
      have t12 : (x 0 == 12) = false := by rw [Hx0.out]; rfl
      have t13 : (x 0 == 13) = false := by rw [Hx0.out]; rfl
      have t15 : (x 0 == 15) = false := by rw [Hx0.out]; rfl
      have t17 : (x 0 == 17) = false := by rw [Hx0.out]; rfl
      have t16 : (x 0 == 16) = false := by rw [Hx0.out]; rfl
      repeat' (first | go_values | go_skip | go_guarded | go_step | go_upon)
      go_meet
      case rel => exact ⟨1, [], 0, rfl, rfl, rfl, Lib.hid ⟨by omega, by omega⟩, Lib.hid ⟨Hfit.out, fun h => absurd h (by have := Hx0.out; omega), fun h => absurd h (by have := Hx0.out; omega), fun h => absurd h (by have := Hx0.out; omega), fun h => absurd h (by have := Hx0.out; omega), fun h => absurd h (by have := Hx0.out; omega)⟩, HV4, HN4⟩
    · as_aux_lemma =>
      have Hx0 := Lib.hid hx
      clear hx
      have t8 : (x 0 == 8) = false := by rw [Hx0.out]; rfl
      have t12 : (x 0 == 12) = false := by rw [Hx0.out]; rfl
      have t13 : (x 0 == 13) = false := by rw [Hx0.out]; rfl
      have t15 : (x 0 == 15) = false := by rw [Hx0.out]; rfl
      have t17 : (x 0 == 17) = false := by rw [Hx0.out]; rfl
      have t16 : (x 0 == 16) = false := by rw [Hx0.out]; rfl
      repeat' (first | go_values | go_skip | go_guarded | go_step | go_upon)
      go_meet
      case rel => exact ⟨1, [], 0, rfl, rfl, rfl, Lib.hid ⟨by omega, by omega⟩, Lib.hid ⟨Hfit.out, fun h => absurd h (by have := Hx0.out; omega), fun h => absurd h (by have := Hx0.out; omega), fun h => absurd h (by have := Hx0.out; omega), fun h => absurd h (by have := Hx0.out; omega), fun h => absurd h (by have := Hx0.out; omega)⟩, HV4, HN4⟩
    · as_aux_lemma =>
      have Hx0 := Lib.hid hx
      clear hx
      have t8 : (x 0 == 8) = false := by rw [Hx0.out]; rfl
      have t12 : (x 0 == 12) = false := by rw [Hx0.out]; rfl
      have t13 : (x 0 == 13) = false := by rw [Hx0.out]; rfl
      have t15 : (x 0 == 15) = false := by rw [Hx0.out]; rfl
      have t17 : (x 0 == 17) = false := by rw [Hx0.out]; rfl
      have t16 : (x 0 == 16) = false := by rw [Hx0.out]; rfl
      repeat' (first | go_values | go_skip | go_guarded | go_step | go_upon)
      go_meet
      case rel => exact ⟨1, [], 0, rfl, rfl, rfl, Lib.hid ⟨by omega, by omega⟩, Lib.hid ⟨Hfit.out, fun h => absurd h (by have := Hx0.out; omega), fun h => absurd h (by have := Hx0.out; omega), fun h => absurd h (by have := Hx0.out; omega), fun h => absurd h (by have := Hx0.out; omega), fun h => absurd h (by have := Hx0.out; omega)⟩, HV4, HN4⟩
    · as_aux_lemma =>
      have Hx0 := Lib.hid hx
      clear hx
      have t8 : (x 0 == 8) = false := by rw [Hx0.out]; rfl
      have t12 : (x 0 == 12) = false := by rw [Hx0.out]; rfl
      have t13 : (x 0 == 13) = false := by rw [Hx0.out]; rfl
      have t15 : (x 0 == 15) = false := by rw [Hx0.out]; rfl
      have t17 : (x 0 == 17) = false := by rw [Hx0.out]; rfl
      have t16 : (x 0 == 16) = false := by rw [Hx0.out]; rfl
      repeat' (first | go_values | go_skip | go_guarded | go_step | go_upon)
      go_meet
      case rel => exact ⟨1, [], 0, rfl, rfl, rfl, Lib.hid ⟨by omega, by omega⟩, Lib.hid ⟨Hfit.out, fun h => absurd h (by have := Hx0.out; omega), fun h => absurd h (by have := Hx0.out; omega), fun h => absurd h (by have := Hx0.out; omega), fun h => absurd h (by have := Hx0.out; omega), fun h => absurd h (by have := Hx0.out; omega)⟩, HV4, HN4⟩
    · as_aux_lemma =>
      have Hx0 := Lib.hid hx
      clear hx
      have t8 : (x 0 == 8) = false := by rw [Hx0.out]; rfl
      have t12 : (x 0 == 12) = false := by rw [Hx0.out]; rfl
      have t13 : (x 0 == 13) = false := by rw [Hx0.out]; rfl
      have t15 : (x 0 == 15) = false := by rw [Hx0.out]; rfl
      have t17 : (x 0 == 17) = false := by rw [Hx0.out]; rfl
      have t16 : (x 0 == 16) = false := by rw [Hx0.out]; rfl
      repeat' (first | go_values | go_skip | go_guarded | go_step | go_upon)
      go_meet
      case rel => exact ⟨1, [], 0, rfl, rfl, rfl, Lib.hid ⟨by omega, by omega⟩, Lib.hid ⟨Hfit.out, fun h => absurd h (by have := Hx0.out; omega), fun h => absurd h (by have := Hx0.out; omega), fun h => absurd h (by have := Hx0.out; omega), fun h => absurd h (by have := Hx0.out; omega), fun h => absurd h (by have := Hx0.out; omega)⟩, HV4, HN4⟩
    · as_aux_lemma =>
      have Hx0 := Lib.hid hx
      clear hx
      have t8 : (x 0 == 8) = false := by rw [Hx0.out]; rfl
      have t12 : (x 0 == 12) = false := by rw [Hx0.out]; rfl
      have t13 : (x 0 == 13) = false := by rw [Hx0.out]; rfl
      have t15 : (x 0 == 15) = false := by rw [Hx0.out]; rfl
      have t17 : (x 0 == 17) = false := by rw [Hx0.out]; rfl
      have t16 : (x 0 == 16) = false := by rw [Hx0.out]; rfl
      repeat' (first | go_values | go_skip | go_guarded | go_step | go_upon)
      go_meet
      case rel => exact ⟨1, [], 0, rfl, rfl, rfl, Lib.hid ⟨by omega, by omega⟩, Lib.hid ⟨Hfit.out, fun h => absurd h (by have := Hx0.out; omega), fun h => absurd h (by have := Hx0.out; omega), fun h => absurd h (by have := Hx0.out; omega), fun h => absurd h (by have := Hx0.out; omega), fun h => absurd h (by have := Hx0.out; omega)⟩, HV4, HN4⟩
    · as_aux_lemma =>
      have Hx0 := Lib.hid hx
      clear hx
      have t8 : (x 0 == 8) = false := by rw [Hx0.out]; rfl
      have t12 : (x 0 == 12) = false := by rw [Hx0.out]; rfl
      have t13 : (x 0 == 13) = false := by rw [Hx0.out]; rfl
      have t15 : (x 0 == 15) = false := by rw [Hx0.out]; rfl
      have t17 : (x 0 == 17) = false := by rw [Hx0.out]; rfl
      have t16 : (x 0 == 16) = false := by rw [Hx0.out]; rfl
      repeat' (first | go_values | go_skip | go_guarded | go_step | go_upon)
      go_meet
      case rel => exact ⟨1, [], 0, rfl, rfl, rfl, Lib.hid ⟨by omega, by omega⟩, Lib.hid ⟨Hfit.out, fun h => absurd h (by have := Hx0.out; omega), fun h => absurd h (by have := Hx0.out; omega), fun h => absurd h (by have := Hx0.out; omega), fun h => absurd h (by have := Hx0.out; omega), fun h => absurd h (by have := Hx0.out; omega)⟩, HV4, HN4⟩
    · as_aux_lemma =>
      have Hx0 := Lib.hid hx
      clear hx
      have t8 : (x 0 == 8) = true := by rw [Hx0.out]; rfl
      have t12 : (x 0 == 12) = false := by rw [Hx0.out]; rfl
      have t13 : (x 0 == 13) = false := by rw [Hx0.out]; rfl
      have t15 : (x 0 == 15) = false := by rw [Hx0.out]; rfl
      have t17 : (x 0 == 17) = false := by rw [Hx0.out]; rfl
      have t16 : (x 0 == 16) = false := by rw [Hx0.out]; rfl
      have hx1 := fit_a Hfit.out (by have := Hx0.out; omega)
      have hx2 := fit_b Hfit.out (by have := Hx0.out; omega)
      obtain ⟨z1, z2, z3, z4⟩ : w4.cell? ⟨g4, 1, none⟩ = some (.int .i64 (x 1)) ∧ w4.cell? ⟨g4, 2, none⟩ = some (.int .i64 (x 2)) ∧ w4.cell? ⟨g4, 3, none⟩ = some (.int .i64 (x 3)) ∧ w4.cell? ⟨g4, 4, none⟩ = some (.int .i64 (x 4)) := ⟨HN4.out.cell 1 (by decide), HN4.out.cell 2 (by decide), HN4.out.cell 3 (by decide), HN4.out.cell 4 (by decide)⟩
      have HC := Lib.hid (vm_cell2 x HV4.out hx1 hx2)
      obtain ⟨B, hB⟩ : ∃ B, B = cellB p x s.rg := ⟨_, rfl⟩
      rw [← hB] at HC
      have HB := Lib.hid hB
      clear hB hx1 hx2
      repeat' (first | go_values | go_skip | go_guarded | go_step | go_upon)
      refine Calls.mono (HC.out) ?_
      rintro _ w5 ⟨cv, rfl, hcv, hv5⟩
      dsimp only
      have Hcv := Lib.hid hcv
      have HV5 := Lib.hid hv5.1
      have HN5 := Lib.hid (HN4.out.keep hv5.2)
      clear hcv hv5 z1 z2 z3 z4 c0 HC HV4 HN4
      cases B with
      | false =>
        have HF : Hid (Flt p s) := Lib.hid (Hflt.out (by
          have h0 := Hx0.out
          unfold fltB
          rw [Hfit.out, if_pos h0, ← HB.out]; rfl))
        repeat' (first | go_values | go_skip | go_guarded | go_step | go_upon)
        go_ret2
        exact Hend.out _ 3 HV5.out (.inr (.inr ⟨rfl, HF.out⟩))
      | true =>
        have Hx4 : Hid (0 ≤ x 4 ∧ x 4 < p.tabs.length) := Lib.hid (by
          have hb := HB.out
          unfold cellB at hb
          have hb := hb.symm
          rw [Bool.and_eq_true, decide_eq_true_eq] at hb
          exact hb.1)
        repeat' (first | go_values | go_skip | go_guarded | go_step | go_upon)
        go_meet
        case rel => exact ⟨1, [], cv, rfl, rfl, rfl, Lib.hid ⟨by omega, by omega⟩, Lib.hid ⟨Hfit.out, fun _ => ⟨Hx4.out, Hcv.out rfl⟩, fun h => absurd h (by have := Hx0.out; omega), fun h => absurd h (by have := Hx0.out; omega), fun h => absurd h (by have := Hx0.out; omega), fun h => absurd h (by have := Hx0.out; omega)⟩, HV5, HN5⟩
    · as_aux_lemma =>
      have Hx0 := Lib.hid hx
      clear hx
      have t8 : (x 0 == 8) = false := by rw [Hx0.out]; rfl
      have t12 : (x 0 == 12) = false := by rw [Hx0.out]; rfl
      have t13 : (x 0 == 13) = false := by rw [Hx0.out]; rfl
      have t15 : (x 0 == 15) = false := by rw [Hx0.out]; rfl
      have t17 : (x 0 == 17) = false := by rw [Hx0.out]; rfl
      have t16 : (x 0 == 16) = false := by rw [Hx0.out]; rfl
      repeat' (first | go_values | go_skip | go_guarded | go_step | go_upon)
      go_meet
      case rel => exact ⟨1, [], 0, rfl, rfl, rfl, Lib.hid ⟨by omega, by omega⟩, Lib.hid ⟨Hfit.out, fun h => absurd h (by have := Hx0.out; omega), fun h => absurd h (by have := Hx0.out; omega), fun h => absurd h (by have := Hx0.out; omega), fun h => absurd h (by have := Hx0.out; omega), fun h => absurd h (by have := Hx0.out; omega)⟩, HV4, HN4⟩
    · as_aux_lemma =>
      have Hx0 := Lib.hid hx
      clear hx
      have t8 : (x 0 == 8) = false := by rw [Hx0.out]; rfl
      have t12 : (x 0 == 12) = false := by rw [Hx0.out]; rfl
      have t13 : (x 0 == 13) = false := by rw [Hx0.out]; rfl
      have t15 : (x 0 == 15) = false := by rw [Hx0.out]; rfl
      have t17 : (x 0 == 17) = false := by rw [Hx0.out]; rfl
      have t16 : (x 0 == 16) = false := by rw [Hx0.out]; rfl
      repeat' (first | go_values | go_skip | go_guarded | go_step | go_upon)
      go_meet
      case rel => exact ⟨1, [], 0, rfl, rfl, rfl, Lib.hid ⟨by omega, by omega⟩, Lib.hid ⟨Hfit.out, fun h => absurd h (by have := Hx0.out; omega), fun h => absurd h (by have := Hx0.out; omega), fun h => absurd h (by have := Hx0.out; omega), fun h => absurd h (by have := Hx0.out; omega), fun h => absurd h (by have := Hx0.out; omega)⟩, HV4, HN4⟩
    · as_aux_lemma =>
      have Hx0 := Lib.hid hx
      clear hx
      have t8 : (x 0 == 8) = false := by rw [Hx0.out]; rfl
      have t12 : (x 0 == 12) = false := by rw [Hx0.out]; rfl
      have t13 : (x 0 == 13) = false := by rw [Hx0.out]; rfl
      have t15 : (x 0 == 15) = false := by rw [Hx0.out]; rfl
      have t17 : (x 0 == 17) = false := by rw [Hx0.out]; rfl
      have t16 : (x 0 == 16) = false := by rw [Hx0.out]; rfl
      repeat' (first | go_values | go_skip | go_guarded | go_step | go_upon)
      go_meet
      case rel => exact ⟨1, [], 0, rfl, rfl, rfl, Lib.hid ⟨by omega, by omega⟩, Lib.hid ⟨Hfit.out, fun h => absurd h (by have := Hx0.out; omega), fun h => absurd h (by have := Hx0.out; omega), fun h => absurd h (by have := Hx0.out; omega), fun h => absurd h (by have := Hx0.out; omega), fun h => absurd h (by have := Hx0.out; omega)⟩, HV4, HN4⟩
    · as_aux_lemma =>
      have Hx0 := Lib.hid hx
      clear hx
      have t8 : (x 0 == 8) = false := by rw [Hx0.out]; rfl
      have t12 : (x 0 == 12) = true := by rw [Hx0.out]; rfl
      have t13 : (x 0 == 13) = false := by rw [Hx0.out]; rfl
      have t15 : (x 0 == 15) = false := by rw [Hx0.out]; rfl
      have t17 : (x 0 == 17) = false := by rw [Hx0.out]; rfl
      have t16 : (x 0 == 16) = false := by rw [Hx0.out]; rfl
      have hx1 := fit_a Hfit.out (by have := Hx0.out; omega)
      obtain ⟨i1, e1⟩ : ∃ k : Nat, x 1 = (k : Int) := ⟨(x 1).toNat, by omega⟩
      have hi1 : i1 < 8 := by omega
      have hi1I : (i1 : Int) < 8 := by omega
      have He1 : Hid ((x 1).toNat = i1) := Lib.hid (by omega)
      obtain ⟨r, hr⟩ : ∃ r, r = s.rg i1 := ⟨_, rfl⟩
      have Hr := Lib.hid hr
      have q1 : ∀ nq : WB w4, nq.1.cell? ⟨g4, 1, none⟩ = some (.int .i64 (i1 : Int)) := fun nq => by rw [← e1]; exact (HN4.out.keep nq.2).cell 1 (by decide)
      have q2 : ∀ nq : WB w4, nq.1.cell? ⟨g, 10 + i1, none⟩ = some (.int .i64 r) := fun nq => by rw [hr]; exact (HV4.out.box.keep nq.2).reg hi1
      have HB := Lib.hid fun w => vm_isByte r w
      obtain ⟨B, hB⟩ : ∃ B, B = decide (0 ≤ r ∧ r < 256) := ⟨_, rfl⟩
      rw [← hB] at HB
      have HBe := Lib.hid hB
      obtain ⟨al, cl, hvl⟩ := HV4.out.oput.form
      have Hvl := Lib.hid hvl
      clear hvl hr hB e1 hx1
      repeat' (go_not_at_region 16; first | go_values | go_skip | go_guarded | go_step | go_upon)
      refine wp_region_anyC (by kernel_rfl) w4 ?_
      refine tkC 0 rfl ?_
      refine tkC 1 rfl ?_
      refine tkC 2 rfl ?_
      refine tkC 3 rfl ?_
      refine tkC 4 rfl ?_
      refine tkC 5 rfl ?_
      refine tkC 6 rfl ?_
      refine wpAnyC_takeK (i := 7) (v := _) rfl (by kernel_rfl) (by kernel_rfl) (by kernel_rfl) (fun _ _ _ h => h) (Or.inl ⟨by rfl, fun w ⟨nq, hw⟩ => by (subst hw; go_simp; first | exact ⟨rfl, HB.out _⟩ | exact HB.out _)⟩) (by go_simp <;> with_reducible rfl) ?_
      refine tkC 8 rfl ?_
      refine genCk (fun W => Below w4.heap.size w4 W) (Below.refl _ _).drew ?_
      intro w5 hb5
      refine wpAnyC_done (by kernel_rfl) (CW.of (hb5)) (by go_simp <;> with_reducible rfl) ?_
      have HV5 := Lib.hid (HV4.out.keep hb5)
      have HN5 := Lib.hid (HN4.out.keep hb5)
      clear q1 q2 hb5 HV4 HN4 c0 HB
      cases B with
      | false =>
        have HF : Hid (Flt p s) := Lib.hid (Hflt.out (by
          have h0 := Hx0.out
          have hb := of_decide_eq_false HBe.out.symm
          unfold fltB
          rw [Hfit.out, if_neg (by omega), if_pos h0, He1.out, ← Hr.out, decide_eq_false hb]; rfl))
        repeat' (first | go_values | go_skip | go_guarded | go_step | go_upon)
        go_ret2
        exact Hend.out _ 3 HV5.out (.inr (.inr ⟨rfl, HF.out⟩))
      | true =>
        have c22 : w5.cell? ⟨g, 22, none⟩ = some (.slice al put.length cl) := by rw [← Hvl.out]; exact HV5.out.box.cell 22
        by_cases hl : 262144 ≤ put.length
        · have hl' : (262144 : Int) ≤ put.length := by omega
          repeat' (first | go_values | go_skip | go_guarded | go_step | go_upon)
          go_ret2
          exact Hend.out _ 1 HV5.out (.inr (.inl rfl))
        · have hl' : ¬ (262144 : Int) ≤ put.length := by omega
          repeat' (first | go_values | go_skip | go_guarded | go_step | go_upon)
          go_meet
          case rel => exact ⟨1, [], 0, rfl, rfl, rfl, Lib.hid ⟨by omega, by omega⟩, Lib.hid ⟨Hfit.out, fun h => absurd h (by have := Hx0.out; omega), fun _ => ⟨by rw [He1.out, ← Hr.out]; exact of_decide_eq_true HBe.out.symm, by omega⟩, fun h => absurd h (by have := Hx0.out; omega), fun h => absurd h (by have := Hx0.out; omega), fun h => absurd h (by have := Hx0.out; omega)⟩, HV5, HN5⟩
    · as_aux_lemma =>
      have Hx0 := Lib.hid hx
      clear hx
      have t8 : (x 0 == 8) = false := by rw [Hx0.out]; rfl
      have t12 : (x 0 == 12) = false := by rw [Hx0.out]; rfl
      have t13 : (x 0 == 13) = true := by rw [Hx0.out]; rfl
      have t15 : (x 0 == 15) = false := by rw [Hx0.out]; rfl
      have t17 : (x 0 == 17) = false := by rw [Hx0.out]; rfl
      have t16 : (x 0 == 16) = false := by rw [Hx0.out]; rfl
      have hx1 := fit_a Hfit.out (by have := Hx0.out; omega)
      have hx2 := fit_b Hfit.out (by have := Hx0.out; omega)
      obtain ⟨i1, e1⟩ : ∃ k : Nat, x 1 = (k : Int) := ⟨(x 1).toNat, by omega⟩
      obtain ⟨i2, e2⟩ : ∃ k : Nat, x 2 = (k : Int) := ⟨(x 2).toNat, by omega⟩
      have hi1 : i1 < 8 := by omega
      have hi2 : i2 < 8 := by omega
      have hi1I : (i1 : Int) < 8 := by omega
      have hi2I : (i2 : Int) < 8 := by omega
      have He1 : Hid ((x 1).toNat = i1) := Lib.hid (by omega)
      have He2 : Hid ((x 2).toNat = i2) := Lib.hid (by omega)
      have Hg2 : Hid (x 2 = (i2 : Int)) := Lib.hid e2
      obtain ⟨r, hr⟩ : ∃ r, r = s.rg i1 := ⟨_, rfl⟩
      have hrI : I64 r := by rw [hr]; exact Hrg.out i1 hi1
      have Hr := Lib.hid hr
      obtain ⟨ax, cx, hvx, hcx, hmx, hcellx⟩ := HV4.out.prgw.texts.open (f := strC) (sz := 1) (fun _ => rfl)
      obtain ⟨m, hm⟩ : ∃ m, m = p.texts.length := ⟨_, rfl⟩
      rw [← hm] at hvx hcellx hcx
      have Hvx := Lib.hid hvx
      have Hm := Lib.hid hm
      have Hcx := Lib.hid hcellx
      have hmI : (m : Int) ≤ 9223372036854775807 := by unfold maxLen at hmx; omega
      have q1 : ∀ nq : WB w4, nq.1.cell? ⟨g4, 1, none⟩ = some (.int .i64 (i1 : Int)) := fun nq => by rw [← e1]; exact (HN4.out.keep nq.2).cell 1 (by decide)
      have q2 : ∀ nq : WB w4, nq.1.cell? ⟨g, 10 + i1, none⟩ = some (.int .i64 r) := fun nq => by rw [hr]; exact (HV4.out.box.keep nq.2).reg hi1
      have HFl : Hid (¬ (0 ≤ r ∧ r / 2 < m) ∨ (r % 2 ≠ 0 ∧ ¬ (0 ≤ s.rg i2 ∧ s.rg i2 < 256)) → Flt p s) := Lib.hid fun hb => Hflt.out (by
        have h0 := Hx0.out
        unfold fltB
        rw [Hfit.out, if_neg (by omega), if_neg (by omega), if_pos h0, He1.out, He2.out, ← Hr.out, ← Hm.out]
        rcases hb with hb | ⟨hb, hb'⟩
        · rw [decide_eq_false hb]; rfl
        · rw [decide_eq_false hb, decide_eq_false hb', Bool.or_false, Bool.and_false]; rfl)
      clear hx1 hx2 e1 e2 hr hvx hm hcellx hcx hmx
      repeat' (go_not_at_region 21; first | go_values | go_skip | go_guarded | go_step | go_upon)
      refine wp_region_anyC (by kernel_rfl) w4 ?_
      refine tkC 0 rfl ?_
      refine tkC 1 rfl ?_
      refine tkC 2 rfl ?_
      refine tkC 3 rfl ?_
      refine tkC 4 rfl ?_
      refine tkC 5 rfl ?_
      refine tkC 6 rfl ?_
      refine tkC 7 rfl ?_
      refine genCk (fun W => Below w4.heap.size w4 W) (Below.refl _ _).drew ?_
      intro w5 hb5
      refine wpAnyC_done (by kernel_rfl) (CW.of (hb5)) (by go_simp <;> with_reducible rfl) ?_
      have HV5 := Lib.hid (HV4.out.keep hb5)
      have HN5 := Lib.hid (HN4.out.keep hb5)
      have Hb45 := Lib.hid hb5
      clear q1 q2 hb5 c0
      obtain ⟨r2, hr2⟩ : ∃ r, r = s.rg i2 := ⟨_, rfl⟩
      have Hr2 := Lib.hid hr2
      rw [← hr2] at HFl
      have q1 : ∀ nq : WB w5, nq.1.cell? ⟨g, 6, none⟩ = some (.slice ax m cx) := fun nq => by rw [← Hvx.out]; exact (HV5.out.box.keep nq.2).cell 6
      have q2 : ∀ nq : WB w5, nq.1.cell? ⟨g4, 2, none⟩ = some (.int .i64 (i2 : Int)) := fun nq => by rw [← Hg2.out]; exact (HN5.out.keep nq.2).cell 2 (by decide)
      have q3 : ∀ nq : WB w5, nq.1.cell? ⟨g, 10 + i2, none⟩ = some (.int .i64 r2) := fun nq => by rw [hr2]; exact (HV5.out.box.keep nq.2).reg hi2
      clear hr2 HV4 HN4
      by_cases hr0 : r < 0
      · have b1 : decide (r < 0) = true := decide_eq_true hr0
        have HF : Hid (Flt p s) := Lib.hid (HFl.out (.inl (by omega)))
        repeat' (go_not_at_region 22; first | go_values | go_skip | go_guarded | go_step | go_upon)
        refine wp_region_anyC (by kernel_rfl) w5 ?_
        refine tkC 0 rfl ?_
        refine tkC 1 rfl ?_
        refine tkC 2 rfl ?_
        refine skC 3 rfl ?_
        refine skC 4 rfl ?_
        refine skC 5 rfl ?_
        refine skC 6 rfl ?_
        refine skC 7 rfl ?_
        refine skC 8 rfl ?_
        refine skC 9 rfl ?_
        refine skC 10 rfl ?_
        refine skC 11 rfl ?_
        refine tkC 12 rfl ?_
        refine tkC 13 rfl ?_
        refine skC 14 rfl ?_
        refine skC 15 rfl ?_
        refine skC 16 rfl ?_
        refine skC 17 rfl ?_
        refine skC 18 rfl ?_
        refine skC 19 rfl ?_
        refine skC 20 rfl ?_
        refine skC 21 rfl ?_
        refine skC 22 rfl ?_
        refine skC 23 rfl ?_
        refine skC 24 rfl ?_
        refine skC 25 rfl ?_
        refine skC 26 rfl ?_
        refine skC 27 rfl ?_
        refine tkC 28 rfl ?_
        refine wpAnyC_done (by kernel_rfl) (CW.of ((Below.refl _ _).drew)) (by go_simp <;> with_reducible rfl) ?_
        clear q1 q2 q3
        repeat' (first | go_values | go_skip | go_guarded | go_step | go_upon)
        go_ret2
        exact Hend.out _ 3 (HV5.out.keep (Below.refl _ _).drew) (.inr (.inr ⟨rfl, HF.out⟩))
      obtain ⟨n2, hn2⟩ : ∃ n : Nat, r = (n : Int) := ⟨r.toNat, by omega⟩
      subst hn2
      have b1 : decide ((n2 : Int) < 0) = false := decide_eq_false hr0
      obtain ⟨q, hq⟩ : ∃ q, q = n2 / 2 := ⟨_, rfl⟩
      have hwq : IntKind.i64.wrap ((n2 : Int) / 2) = (q : Int) := by
        have : ((n2 : Int) / 2) = (q : Int) := by omega
        rw [this]; exact wi64 (by unfold I64 at hrI ⊢; omega)
      have Hq := Lib.hid hq
      have HTL : Hid (∀ l ∈ p.texts, l.length ≤ 140737488351232) := Lib.hid HV5.out.prgw.tl
      clear hq
      by_cases hqm : m ≤ q
      · have b2 : decide ((m : Int) ≤ (q : Int)) = true := decide_eq_true (by omega)
        have HF : Hid (Flt p s) := Lib.hid (HFl.out (.inl (by have := Hq.out; omega)))
        repeat' (go_not_at_region 22; first | go_values | go_skip | go_guarded | go_step | go_upon)
        refine wp_region_anyC (by kernel_rfl) w5 ?_
        refine tkC 0 rfl ?_
        refine tkC 1 rfl ?_
        refine tkC 2 rfl ?_
        refine tkC 3 rfl ?_
        refine tkC 4 rfl ?_
        refine tkC 5 rfl ?_
        refine tkC 6 rfl ?_
        refine tkC 7 rfl ?_
        refine tkC 8 rfl ?_
        refine tkC 9 rfl ?_
        refine tkC 10 rfl ?_
        refine tkC 11 rfl ?_
        refine tkC 12 rfl ?_
        refine tkC 13 rfl ?_
        refine skC 14 rfl ?_
        refine skC 15 rfl ?_
        refine skC 16 rfl ?_
        refine skC 17 rfl ?_
        refine skC 18 rfl ?_
        refine skC 19 rfl ?_
        refine skC 20 rfl ?_
        refine skC 21 rfl ?_
        refine skC 22 rfl ?_
        refine skC 23 rfl ?_
        refine skC 24 rfl ?_
        refine skC 25 rfl ?_
        refine skC 26 rfl ?_
        refine skC 27 rfl ?_
        refine tkC 28 rfl ?_
        refine wpAnyC_done (by kernel_rfl) (CW.of ((Below.refl _ _).drew)) (by go_simp <;> with_reducible rfl) ?_
        clear q1 q2 q3
        repeat' (first | go_values | go_skip | go_guarded | go_step | go_upon)
        go_ret2
        exact Hend.out _ 3 (HV5.out.keep (Below.refl _ _).drew) (.inr (.inr ⟨rfl, HF.out⟩))
      have b2 : decide ((m : Int) ≤ (q : Int)) = false := decide_eq_false (by omega)
      have hqm' : (q : Int) < (m : Int) := by omega
      have hqx : q < p.texts.length := by rw [← Hm.out]; omega
      rcases Hcx.out with h0 | ⟨bx, ox, hax, hbx, hcl⟩
      · omega
      subst hax
      obtain ⟨T, hT⟩ : ∃ T, T = p.texts[q] := ⟨_, rfl⟩
      have hTl : T.length ≤ 140737488351232 := by rw [hT]; exact HTL.out _ (List.getElem_mem hqx)
      have HcT : Hid (∀ W, Below w4.heap.size w4 W → W.cell? ⟨bx, ox + q, none⟩ = some (.string ⟨T.toArray⟩)) := Lib.hid fun W hW => by
        rw [hW.cell hbx]
        have h := hcl q p.texts[q] 0 (List.getElem?_eq_getElem hqx) (by decide)
        rw [← hT] at h
        simpa [strC] using h
      have hpl := HI.out.lput
      clear hcl hT hqx HTL Hcx
      by_cases hpar : n2 % 2 = 0
      · have m1 : ((n2 : Int) % 2 == 1) = false := beq_false_of_ne (by omega)
        have m2 : ((n2 : Int).tmod 2 == 1) = false := by rw [Int.tmod_eq_emod_of_nonneg (by omega)]; exact m1
        repeat' (go_not_at_region 22; first | go_values | go_skip | go_guarded | go_step | go_upon)
        refine wp_region_anyC (by kernel_rfl) w5 ?_
        refine tkC 0 rfl ?_
        refine tkC 1 rfl ?_
        refine tkC 2 rfl ?_
        refine tkC 3 rfl ?_
        refine tkC 4 rfl ?_
        refine tkC 5 rfl ?_
        refine tkC 6 rfl ?_
        refine tkC 7 rfl ?_
        refine tkC 8 rfl ?_
        refine tkC 9 rfl ?_
        refine tkC 10 rfl ?_
        refine tkC 11 rfl ?_
        refine tkC 12 rfl ?_
        refine tkC 13 rfl ?_
        refine tkC 14 rfl ?_
        refine tkC 15 rfl ?_
        refine tkC 16 rfl ?_
        refine tkC 17 rfl ?_
        refine skC 18 rfl ?_
        refine skC 19 rfl ?_
        refine skC 20 rfl ?_
        refine skC 21 rfl ?_
        refine skC 22 rfl ?_
        refine skC 23 rfl ?_
        refine skC 24 rfl ?_
        refine skC 25 rfl ?_
        refine skC 26 rfl ?_
        refine tkC 27 rfl ?_
        refine tkC 28 rfl ?_
        refine genCk (fun W => Below w5.heap.size w5 W) (Below.refl _ _).drew ?_
        intro w6 hb6
        refine wpAnyC_done (by kernel_rfl) (CW.of (hb6)) (by go_simp <;> with_reducible rfl) ?_
        have HV6 := Lib.hid (HV5.out.keep hb6)
        have HN6 := Lib.hid (HN5.out.keep hb6)
        have c6 : w6.cell? ⟨g, 6, none⟩ = some (.slice (some ⟨bx, ox, none⟩) m cx) := by rw [← Hvx.out]; exact HV6.out.box.cell 6
        have ct := HcT.out w6 (Hb45.out.trans (hb6.mono Hb45.out.size))
        obtain ⟨al, cl, hvl⟩ := HV6.out.oput.form
        have c22 : w6.cell? ⟨g, 22, none⟩ = some (.slice al put.length cl) := by rw [← hvl]; exact HV6.out.box.cell 22
        clear q1 q2 q3 hb6 HV5 HN5 hvl HcT
        by_cases hbig : 262144 < put.length + T.length
        · have hbig' : (262144 : Int) < (put.length : Int) + (T.length : Int) := by omega
          repeat' (first | go_values | go_skip | go_guarded | go_step | go_upon)
          go_ret2
          exact Hend.out _ 1 HV6.out (.inr (.inl rfl))
        · have hbig' : ¬ (262144 : Int) < (put.length : Int) + (T.length : Int) := by omega
          repeat' (first | go_values | go_skip | go_guarded | go_step | go_upon)
          go_meet
          case rel => exact ⟨1 + (T.length : Int), T, 0, rfl, rfl, rfl, Lib.hid ⟨by omega, by omega⟩, Lib.hid ⟨Hfit.out, fun h => absurd h (by have := Hx0.out; omega), fun h => absurd h (by have := Hx0.out; omega), fun _ => by omega, fun h => absurd h (by have := Hx0.out; omega), fun h => absurd h (by have := Hx0.out; omega)⟩, HV6, HN6⟩
      · have m1 : ((n2 : Int) % 2 == 1) = true := by rw [beq_iff_eq]; omega
        have m2 : ((n2 : Int).tmod 2 == 1) = true := by rw [Int.tmod_eq_emod_of_nonneg (by omega)]; exact m1
        have HBy := Lib.hid fun w => vm_isByte r2 w
        obtain ⟨B, hB⟩ : ∃ B, B = decide (0 ≤ r2 ∧ r2 < 256) := ⟨_, rfl⟩
        rw [← hB] at HBy
        have HB := Lib.hid hB
        clear hB
        repeat' (go_not_at_region 22; first | go_values | go_skip | go_guarded | go_step | go_upon)
        refine wp_region_anyC (by kernel_rfl) w5 ?_
        refine tkC 0 rfl ?_
        refine tkC 1 rfl ?_
        refine tkC 2 rfl ?_
        refine tkC 3 rfl ?_
        refine tkC 4 rfl ?_
        refine tkC 5 rfl ?_
        refine tkC 6 rfl ?_
        refine tkC 7 rfl ?_
        refine tkC 8 rfl ?_
        refine tkC 9 rfl ?_
        refine tkC 10 rfl ?_
        refine tkC 11 rfl ?_
        refine tkC 12 rfl ?_
        refine tkC 13 rfl ?_
        refine tkC 14 rfl ?_
        refine tkC 15 rfl ?_
        refine tkC 16 rfl ?_
        refine tkC 17 rfl ?_
        refine tkC 18 rfl ?_
        refine tkC 19 rfl ?_
        refine tkC 20 rfl ?_
        refine tkC 21 rfl ?_
        refine tkC 22 rfl ?_
        refine tkC 23 rfl ?_
        refine tkC 24 rfl ?_
        refine wpAnyC_takeK (i := 25) (v := _) rfl (by kernel_rfl) (by kernel_rfl) (by kernel_rfl) (fun _ _ _ h => h) (Or.inl ⟨by rfl, fun w ⟨nq, hw⟩ => by (subst hw; go_simp; first | exact ⟨rfl, HBy.out _⟩ | exact HBy.out _)⟩) (by go_simp <;> with_reducible rfl) ?_
        refine tkC 26 rfl ?_
        refine tkC 27 rfl ?_
        refine tkC 28 rfl ?_
        refine genCk (fun W => Below w5.heap.size w5 W) (Below.refl _ _).drew ?_
        intro w6 hb6
        refine wpAnyC_done (by kernel_rfl) (CW.of (hb6)) (by go_simp <;> with_reducible rfl) ?_
        have HV6 := Lib.hid (HV5.out.keep hb6)
        have HN6 := Lib.hid (HN5.out.keep hb6)
        have Hb46 := Lib.hid (Hb45.out.trans (hb6.mono Hb45.out.size))
        clear q1 q2 q3 hb6 HV5 HN5 HBy
        cases B with
        | false =>
          have HF : Hid (Flt p s) := Lib.hid (HFl.out (.inr ⟨by omega, of_decide_eq_false HB.out.symm⟩))
          repeat' (first | go_values | go_skip | go_guarded | go_step | go_upon)
          go_ret2
          exact Hend.out _ 3 HV6.out (.inr (.inr ⟨rfl, HF.out⟩))
        | true =>
          have Hby := Lib.hid (of_decide_eq_true HB.out.symm)
          have c6 : w6.cell? ⟨g, 6, none⟩ = some (.slice (some ⟨bx, ox, none⟩) m cx) := by rw [← Hvx.out]; exact HV6.out.box.cell 6
          have ct := HcT.out w6 Hb46.out
          clear HcT
          repeat' (go_not_at_region 26; first | go_values | go_skip | go_guarded | go_step | go_upon)
          have s1 : ∀ nq : WB w6, nq.1.cell? ⟨g4, 2, none⟩ = some (.int .i64 (i2 : Int)) := fun nq => by rw [← Hg2.out]; exact (HN6.out.keep nq.2).cell 2 (by decide)
          have s2 : ∀ nq : WB w6, nq.1.cell? ⟨g, 10 + i2, none⟩ = some (.int .i64 r2) := fun nq => by rw [Hr2.out]; exact (HV6.out.box.keep nq.2).reg hi2
          have hwb : IntKind.u8.wrap r2 = r2 := IntWalk.u8_in r2 (by have := Hby.out; omega)
          clear c6 ct m1 m2 b1 b2
          refine wp_region_anyC (by kernel_rfl) w6 ?_
          refine tkC 0 rfl ?_
          refine tkC 1 rfl ?_
          refine tkC 2 rfl ?_
          refine tkC 3 rfl ?_
          refine tkC 4 rfl ?_
          refine tkC 5 rfl ?_
          refine tkC 6 rfl ?_
          refine tkC 7 rfl ?_
          refine tkC 8 rfl ?_
          refine genCk (fun W => Below w6.heap.size w6 W) (Below.refl _ _).drew ?_
          intro W0 hb0
          clear s1 s2
          refine wpAnyC_ready (CW.of (hb0)) (rs := [9]) (by kernel_rfl) (by simp) ?_
          refine (AllReadyC.cons rfl (fun K hK => ?_) AllReadyC.nil)
          go_simp
          refine hK _ _ ?_
          clear hK K
          refine genCk (fun W => Below w6.heap.size w6 W ∧ OwnI 0 5 .u8 W (.slice (some ⟨W0.heap.size, 0, none⟩) 1 1) [r2]) ⟨hb0.alloc hb0.size _, OwnI.lit (B := 0) W0 [r2] (Nat.zero_le _) 1 rfl (by unfold maxLen; omega)⟩ ?_
          rintro W1 ⟨hb1, ho1⟩
          clear hb0
          refine wpAnyC_ready (CW.of (hb1)) (rs := [10]) (by kernel_rfl) (by simp) ?_
          refine (AllReadyC.cons rfl (fun K hK => ?_) AllReadyC.nil)
          refine step_of rfl (wp_convW Try.underlying87 Try.underlying5 Try.underlying9 (.tmp 133) rfl rfl ho1 ?_)
          refine hK _ _ ?_
          clear hK K
          have hlim : ¬ 9223372036854775807 < T.length + 1 := by omega
          refine tkC 11 rfl ?_
          refine tkC 12 rfl ?_
          refine wpAnyC_done (by kernel_rfl) (CW.of (hb1)) (by go_simp <;> with_reducible rfl) ?_
          clear hlim
          have hT2 : (⟨T.toArray⟩ : ByteArray) ++ ⟨#[u8 r2.toNat]⟩ = ⟨(T ++ [u8 r2.toNat]).toArray⟩ := by
            apply ByteArray.ext; simp
          rw [hT2]
          obtain ⟨T2, hT2'⟩ : ∃ T2, T2 = T ++ [u8 r2.toNat] := ⟨_, rfl⟩
          have hT2l : T2.length = T.length + 1 := by rw [hT2']; simp
          have hT2b : T2.length ≤ 140737488351233 := by omega
          rw [← hT2']
          have HV7 := Lib.hid (HV6.out.keep hb1)
          have HN7 := Lib.hid (HN6.out.keep hb1)
          obtain ⟨al, cl, hvl⟩ := HV7.out.oput.form
          have c22 : W1.cell? ⟨g, 22, none⟩ = some (.slice al put.length cl) := by rw [← hvl]; exact HV7.out.box.cell 22
          clear hT2 hT2' hT2l hvl hb1 ho1 HV6 HN6
          by_cases hbig : 262144 < put.length + T2.length
          · have hbig' : (262144 : Int) < (put.length : Int) + (T2.length : Int) := by omega
            repeat' (first | go_values | go_skip | go_guarded | go_step | go_upon)
            go_ret2
            exact Hend.out _ 1 HV7.out (.inr (.inl rfl))
          · have hbig' : ¬ (262144 : Int) < (put.length : Int) + (T2.length : Int) := by omega
            repeat' (first | go_values | go_skip | go_guarded | go_step | go_upon)
            go_meet
            case rel => exact ⟨1 + (T2.length : Int), T2, 0, rfl, rfl, rfl, Lib.hid ⟨by omega, by omega⟩, Lib.hid ⟨Hfit.out, fun h => absurd h (by have := Hx0.out; omega), fun h => absurd h (by have := Hx0.out; omega), fun _ => by omega, fun h => absurd h (by have := Hx0.out; omega), fun h => absurd h (by have := Hx0.out; omega)⟩, HV7, HN7⟩
    · as_aux_lemma =>
      have Hx0 := Lib.hid hx
      clear hx
      have t8 : (x 0 == 8) = false := by rw [Hx0.out]; rfl
      have t12 : (x 0 == 12) = false := by rw [Hx0.out]; rfl
      have t13 : (x 0 == 13) = false := by rw [Hx0.out]; rfl
      have t15 : (x 0 == 15) = false := by rw [Hx0.out]; rfl
      have t17 : (x 0 == 17) = false := by rw [Hx0.out]; rfl
      have t16 : (x 0 == 16) = false := by rw [Hx0.out]; rfl
      repeat' (first | go_values | go_skip | go_guarded | go_step | go_upon)
      go_meet
      case rel => exact ⟨1, [], 0, rfl, rfl, rfl, Lib.hid ⟨by omega, by omega⟩, Lib.hid ⟨Hfit.out, fun h => absurd h (by have := Hx0.out; omega), fun h => absurd h (by have := Hx0.out; omega), fun h => absurd h (by have := Hx0.out; omega), fun h => absurd h (by have := Hx0.out; omega), fun h => absurd h (by have := Hx0.out; omega)⟩, HV4, HN4⟩
    · as_aux_lemma =>
      have Hx0 := Lib.hid hx
      clear hx
      have t8 : (x 0 == 8) = false := by rw [Hx0.out]; rfl
      have t12 : (x 0 == 12) = false := by rw [Hx0.out]; rfl
      have t13 : (x 0 == 13) = false := by rw [Hx0.out]; rfl
      have t15 : (x 0 == 15) = true := by rw [Hx0.out]; rfl
      have t17 : (x 0 == 17) = false := by rw [Hx0.out]; rfl
      have t16 : (x 0 == 16) = false := by rw [Hx0.out]; rfl
      have hx1 := fit_a Hfit.out (by have := Hx0.out; omega)
      obtain ⟨i1, e1⟩ : ∃ k : Nat, x 1 = (k : Int) := ⟨(x 1).toNat, by omega⟩
      have hi1 : i1 < 8 := by omega
      have hi1I : (i1 : Int) < 8 := by omega
      have He1 : Hid ((x 1).toNat = i1) := Lib.hid (by omega)
      obtain ⟨r, hr⟩ : ∃ r, r = s.rg i1 := ⟨_, rfl⟩
      have Hr := Lib.hid hr
      have q1 : ∀ nq : WB w4, nq.1.cell? ⟨g4, 1, none⟩ = some (.int .i64 (i1 : Int)) := fun nq => by rw [← e1]; exact (HN4.out.keep nq.2).cell 1 (by decide)
      have q2 : ∀ nq : WB w4, nq.1.cell? ⟨g, 10 + i1, none⟩ = some (.int .i64 r) := fun nq => by rw [hr]; exact (HV4.out.box.keep nq.2).reg hi1
      have q3 : ∀ nq : WB w4, nq.1.cell? ⟨g, 3, none⟩ = some (.int .i64 p.signs) := fun nq => (HV4.out.box.keep nq.2).cell 3
      obtain ⟨al, cl, hvl⟩ := HV4.out.osg.form
      have Hvl := Lib.hid hvl
      have HFl : Hid (¬ (0 ≤ r ∧ r < min p.signs 65536) → Flt p s) := Lib.hid fun hb => Hflt.out (by
        have h0 := Hx0.out
        unfold fltB
        rw [Hfit.out, if_neg (by omega), if_neg (by omega), if_neg (by omega), if_pos h0, He1.out, ← Hr.out, decide_eq_false hb]; rfl)
      obtain ⟨M, hM⟩ : ∃ M, M = min p.signs 65536 := ⟨_, rfl⟩
      have hMi : (if 65536 < p.signs then (65536 : Int) else p.signs) = M := by rw [hM]; split <;> omega
      rw [← hM] at HFl
      have HM := Lib.hid hM
      clear hvl hr e1 hx1 hM
      by_cases hr0 : r < 0
      · have b1 : decide (r < 0) = true := decide_eq_true hr0
        have HF : Hid (Flt p s) := Lib.hid (HFl.out (by omega))
        repeat' (go_not_at_region 31; first | go_values | go_skip | go_guarded | go_step | go_upon)
        refine wp_region_anyC (by kernel_rfl) w4 ?_
        refine tkC 0 rfl ?_
        refine tkC 1 rfl ?_
        refine tkC 2 rfl ?_
        refine tkC 3 rfl ?_
        refine tkC 4 rfl ?_
        refine tkC 5 rfl ?_
        refine tkC 6 rfl ?_
        refine tkC 7 rfl ?_
        refine tkC 8 rfl ?_
        refine skC 9 rfl ?_
        refine skC 10 rfl ?_
        refine skC 11 rfl ?_
        refine skC 12 rfl ?_
        refine skC 13 rfl ?_
        refine skC 14 rfl ?_
        refine skC 15 rfl ?_
        refine skC 16 rfl ?_
        refine skC 17 rfl ?_
        refine skC 18 rfl ?_
        refine skC 19 rfl ?_
        refine skC 20 rfl ?_
        refine skC 21 rfl ?_
        refine skC 22 rfl ?_
        refine tkC 23 rfl ?_
        refine wpAnyC_done (by kernel_rfl) (CW.of ((Below.refl _ _).drew)) (by go_simp <;> with_reducible rfl) ?_
        clear q1 q2 q3
        repeat' (first | go_values | go_skip | go_guarded | go_step | go_upon)
        go_ret2
        exact Hend.out _ 3 (HV4.out.keep (Below.refl _ _).drew) (.inr (.inr ⟨rfl, HF.out⟩))
      have b1 : decide (r < 0) = false := decide_eq_false hr0
      by_cases hr1 : M ≤ r
      · have b2 : decide (M ≤ r) = true := decide_eq_true hr1
        have HF : Hid (Flt p s) := Lib.hid (HFl.out (by omega))
        repeat' (go_not_at_region 31; first | go_values | go_skip | go_guarded | go_step | go_upon)
        refine wp_region_anyC (by kernel_rfl) w4 ?_
        refine tkC 0 rfl ?_
        refine tkC 1 rfl ?_
        refine tkC 2 rfl ?_
        refine tkC 3 rfl ?_
        refine tkC 4 rfl ?_
        refine tkC 5 rfl ?_
        refine tkC 6 rfl ?_
        refine tkC 7 rfl ?_
        refine tkC 8 rfl ?_
        refine tkC 9 rfl ?_
        refine tkC 10 rfl ?_
        refine tkC 11 rfl ?_
        refine tkC 12 rfl ?_
        refine tkC 13 rfl ?_
        refine tkC 14 rfl ?_
        refine tkC 15 rfl ?_
        refine tkC 16 rfl ?_
        refine tkC 17 rfl ?_
        refine tkC 18 rfl ?_
        refine tkC 19 rfl ?_
        refine tkC 20 rfl ?_
        refine tkC 21 rfl ?_
        refine tkC 22 rfl ?_
        refine tkC 23 rfl ?_
        refine wpAnyC_done (by kernel_rfl) (CW.of ((Below.refl _ _).drew)) (by go_simp <;> with_reducible rfl) ?_
        clear q1 q2 q3
        repeat' (first | go_values | go_skip | go_guarded | go_step | go_upon)
        go_ret2
        exact Hend.out _ 3 (HV4.out.keep (Below.refl _ _).drew) (.inr (.inr ⟨rfl, HF.out⟩))
      have b2 : decide (M ≤ r) = false := decide_eq_false hr1
      repeat' (go_not_at_region 31; first | go_values | go_skip | go_guarded | go_step | go_upon)
      refine wp_region_anyC (by kernel_rfl) w4 ?_
      refine tkC 0 rfl ?_
      refine tkC 1 rfl ?_
      refine tkC 2 rfl ?_
      refine tkC 3 rfl ?_
      refine tkC 4 rfl ?_
      refine tkC 5 rfl ?_
      refine tkC 6 rfl ?_
      refine tkC 7 rfl ?_
      refine tkC 8 rfl ?_
      refine tkC 9 rfl ?_
      refine tkC 10 rfl ?_
      refine tkC 11 rfl ?_
      refine tkC 12 rfl ?_
      refine tkC 13 rfl ?_
      refine tkC 14 rfl ?_
      refine tkC 15 rfl ?_
      refine tkC 16 rfl ?_
      refine tkC 17 rfl ?_
      refine tkC 18 rfl ?_
      refine tkC 19 rfl ?_
      refine tkC 20 rfl ?_
      refine tkC 21 rfl ?_
      refine tkC 22 rfl ?_
      refine tkC 23 rfl ?_
      refine genCk (fun W => Below w4.heap.size w4 W) (Below.refl _ _).drew ?_
      intro w5 hb5
      refine wpAnyC_done (by kernel_rfl) (CW.of (hb5)) (by go_simp <;> with_reducible rfl) ?_
      have HV5 := Lib.hid (HV4.out.keep hb5)
      have HN5 := Lib.hid (HN4.out.keep hb5)
      clear q1 q2 q3 hb5 HV4 HN4 c0 b1 b2 hMi
      have c23 : w5.cell? ⟨g, 23, none⟩ = some (.slice al sg.length cl) := by rw [← Hvl.out]; exact HV5.out.box.cell 23
      by_cases hl : 262144 ≤ sg.length
      · have hl' : (262144 : Int) ≤ sg.length := by omega
        repeat' (first | go_values | go_skip | go_guarded | go_step | go_upon)
        go_ret2
        exact Hend.out _ 1 HV5.out (.inr (.inl rfl))
      · have hl' : ¬ (262144 : Int) ≤ sg.length := by omega
        repeat' (first | go_values | go_skip | go_guarded | go_step | go_upon)
        go_meet
        case rel => exact ⟨1, [], 0, rfl, rfl, rfl, Lib.hid ⟨by omega, by omega⟩, Lib.hid ⟨Hfit.out, fun h => absurd h (by have := Hx0.out; omega), fun h => absurd h (by have := Hx0.out; omega), fun h => absurd h (by have := Hx0.out; omega), fun _ => ⟨by rw [He1.out, ← Hr.out, ← HM.out]; omega, by omega⟩, fun h => absurd h (by have := Hx0.out; omega)⟩, HV5, HN5⟩
    · as_aux_lemma =>
      have Hx0 := Lib.hid hx
      clear hx
      have t8 : (x 0 == 8) = false := by rw [Hx0.out]; rfl
      have t12 : (x 0 == 12) = false := by rw [Hx0.out]; rfl
      have t13 : (x 0 == 13) = false := by rw [Hx0.out]; rfl
      have t15 : (x 0 == 15) = false := by rw [Hx0.out]; rfl
      have t17 : (x 0 == 17) = false := by rw [Hx0.out]; rfl
      have t16 : (x 0 == 16) = true := by rw [Hx0.out]; rfl
      obtain ⟨al, cl, hvl⟩ := HV4.out.osg.form
      have c23 : w4.cell? ⟨g, 23, none⟩ = some (.slice al sg.length cl) := by rw [← hvl]; exact HV4.out.box.cell 23
      have hl := HI.out.lsg
      clear hvl
      repeat' (first | go_values | go_skip | go_guarded | go_step | go_upon)
      refine Calls.mono (heap_Cost sg.length hl _) ?_
      rintro _ w5 ⟨rfl, rfl⟩
      dsimp only
      repeat' (first | go_values | go_skip | go_guarded | go_step | go_upon)
      go_meet
      case rel => exact ⟨1 + 4 * (sg.length : Int), [], 0, rfl, rfl, rfl, Lib.hid ⟨by omega, by omega⟩, Lib.hid ⟨Hfit.out, fun h => absurd h (by have := Hx0.out; omega), fun h => absurd h (by have := Hx0.out; omega), fun h => absurd h (by have := Hx0.out; omega), fun h => absurd h (by have := Hx0.out; omega), fun h => absurd h (by have := Hx0.out; omega)⟩, HV4, HN4⟩
    · as_aux_lemma =>
      have Hx0 := Lib.hid hx
      clear hx
      have t8 : (x 0 == 8) = false := by rw [Hx0.out]; rfl
      have t12 : (x 0 == 12) = false := by rw [Hx0.out]; rfl
      have t13 : (x 0 == 13) = false := by rw [Hx0.out]; rfl
      have t15 : (x 0 == 15) = false := by rw [Hx0.out]; rfl
      have t17 : (x 0 == 17) = true := by rw [Hx0.out]; rfl
      have t16 : (x 0 == 16) = false := by rw [Hx0.out]; rfl
      obtain ⟨al, cl, hvl⟩ := HV4.out.otl.form
      have q24 : ∀ nq : WB w4, nq.1.cell? ⟨g, 24, none⟩ = some (.slice al tl.length cl) := fun nq => by rw [← hvl]; exact (HV4.out.box.keep nq.2).cell 24
      have q26 : ∀ nq : WB w4, nq.1.cell? ⟨g, 26, none⟩ = some (.int .i64 s.room) := fun nq => (HV4.out.box.keep nq.2).cell 26
      clear hvl
      by_cases hr : s.room ≤ tl.length
      · have b1 : decide (s.room ≤ (tl.length : Int)) = true := decide_eq_true hr
        repeat' (go_not_at_region 36; first | go_values | go_skip | go_guarded | go_step | go_upon)
        refine wp_region_anyC (by kernel_rfl) w4 ?_
        refine tkC 0 rfl ?_
        refine tkC 1 rfl ?_
        refine tkC 2 rfl ?_
        refine tkC 3 rfl ?_
        refine tkC 4 rfl ?_
        refine tkC 5 rfl ?_
        refine tkC 6 rfl ?_
        refine tkC 7 rfl ?_
        refine tkC 8 rfl ?_
        refine tkC 9 rfl ?_
        refine wpAnyC_done (by kernel_rfl) (CW.of ((Below.refl _ _).drew)) (by go_simp <;> with_reducible rfl) ?_
        clear q24 q26
        repeat' (first | go_values | go_skip | go_guarded | go_step | go_upon)
        go_ret2
        exact Hend.out _ 1 (HV4.out.keep (Below.refl _ _).drew) (.inr (.inl rfl))
      · have b1 : decide (s.room ≤ (tl.length : Int)) = false := decide_eq_false hr
        have Hr := Lib.hid hr
        repeat' (go_not_at_region 36; first | go_values | go_skip | go_guarded | go_step | go_upon)
        refine wp_region_anyC (by kernel_rfl) w4 ?_
        refine tkC 0 rfl ?_
        refine tkC 1 rfl ?_
        refine tkC 2 rfl ?_
        refine tkC 3 rfl ?_
        refine tkC 4 rfl ?_
        refine tkC 5 rfl ?_
        refine tkC 6 rfl ?_
        refine tkC 7 rfl ?_
        refine tkC 8 rfl ?_
        refine tkC 9 rfl ?_
        refine wpAnyC_done (by kernel_rfl) (CW.of ((Below.refl _ _).drew)) (by go_simp <;> with_reducible rfl) ?_
        clear q24 q26
        repeat' (first | go_values | go_skip | go_guarded | go_step | go_upon)
        go_meet
        case rel => exact ⟨1, [], 0, rfl, rfl, rfl, Lib.hid ⟨by omega, by omega⟩, Lib.hid ⟨Hfit.out, fun h => absurd h (by have := Hx0.out; omega), fun h => absurd h (by have := Hx0.out; omega), fun h => absurd h (by have := Hx0.out; omega), fun h => absurd h (by have := Hx0.out; omega), fun _ => by have := Hr.out; omega⟩, Lib.hid (HV4.out.keep (Below.refl _ _).drew), Lib.hid (HN4.out.keep (Below.refl _ _).drew)⟩
    · exact absurd (fit_o Hfit.out) hx
  case rest =>
    as_aux_lemma =>
    obtain ⟨cost, text, cv, rfl, rfl, rfl, Hc, HD, HV5, HN5⟩ := hcut
    clear HV4 HN4
    have hcc := Hc.out
    repeat' (first | go_values | go_skip | go_guarded | go_step | go_upon)
    refine Calls.mono (vm_pay2 cost (by omega) HV5.out HI.out.fuel) ?_
    rintro _ w6 hpay
    rcases hpay with ⟨h1, rfl, hv, he⟩ | ⟨h1, rfl, hv, he⟩
    · dsimp only
      have HV6 := Lib.hid hv
      clear hv he HV5 HN5 HD hcc
      repeat' (first | go_values | go_skip | go_guarded | go_step | go_upon)
      go_ret2
      exact Hend.out _ 1 HV6.out (.inr (.inl rfl))
    · dsimp only
      have hne : g4 ≠ g := by
        have := HV5.out.box
        exact ty_ne this HN5.out (by decide)
      have HN6 : Hid (InsAt w6 g4 x) := Lib.hid (he.row HN5.out hne)
      have HV6 := Lib.hid hv
      have c25 : w6.cell? ⟨g, 25, none⟩ = some (.int .i64 (k : Int)) := by rw [Hpl.out]; exact hv.box.cell 25
      have f25 := hv.box.free 25
      have hkl : (k : Int) < 9223372036854775807 := by
        have := Hat.out
        have h2 := HV5.out.prgw.code.slice
        obtain ⟨_, cap, _, h3, h4⟩ := h2
        unfold maxLen at h4
        have := Hpl.out
        omega
      clear hv he HV5 HN5
      repeat' (go_not_at_region 43; first | go_values | go_skip | go_guarded | go_step | go_upon)
      refine gen_wd (fun W => VM w0 g p v { s with used := s.used + cost, pl := s.pl + 1 } src put sg tl W ∧ InsAt W g4 x) ⟨by
        rw [Hpl.out]
        exact HV6.out.set (HV6.out.box.set25 (s.pl + 1)) rfl rfl rfl rfl, HN6.out.other hne⟩ ?_
      clear HV6 HN6 c25 f25
      rintro w7 ⟨hv, hn7⟩
      have HI7 := Lib.hid (HI.out.use (n := cost) (by omega) h1)
      obtain ⟨z0, z1, z2, z3, z4⟩ : w7.cell? ⟨g4, 0, none⟩ = some (.int .i64 (x 0)) ∧ w7.cell? ⟨g4, 1, none⟩ = some (.int .i64 (x 1)) ∧ w7.cell? ⟨g4, 2, none⟩ = some (.int .i64 (x 2)) ∧ w7.cell? ⟨g4, 3, none⟩ = some (.int .i64 (x 3)) ∧ w7.cell? ⟨g4, 4, none⟩ = some (.int .i64 (x 4)) := ⟨hn7.cell 0 (by decide), hn7.cell 1 (by decide), hn7.cell 2 (by decide), hn7.cell 3 (by decide), hn7.cell 4 (by decide)⟩
      have hD7 : DoPre p { s with used := s.used + cost, pl := s.pl + 1 } put sg tl x cv text := ⟨HD.out.fit, HD.out.look, HD.out.copy, HD.out.text, HD.out.sign, HD.out.emit⟩
      have HC : Hid (Calls Try.prog 52 #[.pointer (some ⟨g, 0, none⟩), vI x, .int .i64 cv, .string ⟨text.toArray⟩] w7 (StepPost w0 g p v s src put sg tl)) := Lib.hid (by
        have hfu := HI.out.fuel
        by_cases hx1 : x 0 = 1
        · refine Calls.mono (do_1s x cv _ hv hx1) ?_
          rintro e w8 ⟨rfl, hv8⟩
          exact ⟨0, true, rfl, .inl ⟨rfl, ⟨_, hv8, by dsimp only; omega, by dsimp only; omega⟩, .inl rfl⟩⟩
        · refine Calls.mono (vm_do x cv text hv HI7.out hD7 H64.out Hx64.out Hk.out) ?_
          rintro e w8 ⟨en, c, rfl, hc⟩
          refine ⟨en, c, rfl, ?_⟩
          rcases hc with ⟨rfl, hv8, h3⟩ | ⟨rfl, s', src', put', sg', tl', hv8, hi8, u1, u2, u3, hn8⟩
          · refine .inl ⟨rfl, ⟨_, hv8, by dsimp only; omega, by dsimp only; omega⟩, ?_⟩
            rcases h3 with ⟨h3, _⟩ | ⟨_, ⟨h3, h4⟩ | h3⟩
            · exact absurd h3 hx1
            · exact .inr (.inr ⟨h3, .inr (.inr h4)⟩)
            · exact .inr (.inl h3)
          · refine .inr ⟨rfl, s', src', put', sg', tl', hv8, hi8, by rw [u1]; dsimp only; omega, u2, u3, Hat.out, by rw [Hx.out]; exact hx1, ?_⟩
            rw [Hx.out]
            dsimp only at hn8
            rwa [Int.add_sub_cancel] at hn8)
      clear hv hn7 hD7 HD HI7 hcc
      repeat' (first | go_values | go_skip | go_guarded | go_step | go_upon)
      refine Calls.mono HC.out ?_
      rintro _ w8 ⟨en, c, rfl, hp⟩
      dsimp only
      have HP := Lib.hid hp
      clear hp HC z0 z1 z2 z3 z4
      repeat' (first | go_values | go_skip | go_guarded | go_step | go_upon)
      go_ret2
      exact ⟨en, c, rfl, HP.out⟩
end
end Go.Proofs.Ytkpdcejnanhgoaa
