/- Walk: the signs are merged and told (vm.run.join). Conditions: the machine lies in memory. -/
import Derived.Test.YtkpdcejnanhgoaaPk19
import Derived.Test.YtkpdcejnanhgoaaPk20
import Derived.Test.YtkpdcejnanhgoaaPk18
namespace Go.Proofs.Ytkpdcejnanhgoaa
open Go.RowKit
set_option maxRecDepth 100000 in
set_option maxHeartbeats 4000000 in
theorem vm_join {w0 w : World} {g : Nat} {p : Prg} {v : PV} {s : RS} {src put sg tl : List Int} (h : VM w0 g p v s src put sg tl w) (hi : VI p s src put sg tl) (hk : p.hash.keys.length ≤ 35184372088832) :
    Calls Try.prog 70 #[.pointer (some ⟨g, 0, none⟩)] w fun e w' => ∃ (en : Int) (c : Bool), e = .returned (.tuple #[.int .i64 en, .bool c]) ∧
      ((c = true ∧ (en = 3 ∧ (¬ ∀ u ∈ p.hash.vals, ((u % 4294967296 : Nat) : Int) < sgnI p.signs) ∨ en = 1) ∧ VM w0 g p v s src put sg tl w') ∨
        (c = false ∧ ∃ u tl', VM w0 g p v { s with vl := u, vg := .slice none 0 0 } src put [] tl' w' ∧ (tl'.length : Int) ≤ s.room)) := by
  have HV := Lib.hid h
  have HM := Lib.hid fun (sv : Int) (W : World) (hW : Below w.heap.size w W) => vm_Merge v.vs v.vk v.vv s.vg p.hash sv sg W (h.prgw.keep hW).hash hk ((own_kR (h.osg.keep hW (Nat.le_refl _))).row)
  have q3 : ∀ nq : WB w, nq.1.cell? ⟨g, 3, none⟩ = some (.int .i64 p.signs) := fun nq => (h.box.keep nq.2).cell 3
  have q7 : ∀ nq : WB w, nq.1.cell? ⟨g, 7, none⟩ = some v.vs := fun nq => (h.box.keep nq.2).cell 7
  have q8 : ∀ nq : WB w, nq.1.cell? ⟨g, 8, none⟩ = some v.vk := fun nq => (h.box.keep nq.2).cell 8
  have q9 : ∀ nq : WB w, nq.1.cell? ⟨g, 9, none⟩ = some v.vv := fun nq => (h.box.keep nq.2).cell 9
  have q23 : ∀ nq : WB w, nq.1.cell? ⟨g, 23, none⟩ = some s.vg := fun nq => (h.box.keep nq.2).cell 23
  have hl := hi.ltl
  obtain ⟨hr0, hr1⟩ := hi.room
  have Hbs : Hid (∀ SG, SG = sgnI p.signs → ¬ (0 ≤ SG ∧ SG ≤ 65536 ∧ sg.length ≤ 262144 ∧ (∀ x ∈ sg, 0 ≤ x ∧ x < SG) ∧ ∀ u ∈ p.hash.vals, ((u % 4294967296 : Nat) : Int) < SG) → ¬ ∀ u ∈ p.hash.vals, ((u % 4294967296 : Nat) : Int) < sgnI p.signs) := Lib.hid fun SG e h1 h2 => by
    subst e
    refine h1 ⟨by unfold sgnI; omega, by unfold sgnI; omega, hi.lsg, fun x hx => ?_, h2⟩
    have := hi.bsg x hx
    unfold sgnI; omega
  have hsl := hi.lsg
  clear h hi hk
  go_enter Try.func70, Try.ntmps70
  repeat' (go_not_at_region 1; first | go_values | go_skip | go_guarded | go_step | go_upon)
  refine wp_region_anyC (by kernel_rfl) w ?_
  refine tkC 0 rfl ?_
  refine tkC 1 rfl ?_
  refine tkC 2 rfl ?_
  refine tkC 3 rfl ?_
  refine tkC 4 rfl ?_
  refine tkC 5 rfl ?_
  refine tkC 6 rfl ?_
  refine tkC 7 rfl ?_
  refine tkC 8 rfl ?_
  refine tkC 9 rfl ?_
  refine tkC 10 rfl ?_
  refine tkC 11 rfl ?_
  refine tkC 12 rfl ?_
  refine tkC 13 rfl ?_
  refine tkC 14 rfl ?_
  refine tkC 15 rfl ?_
  refine genCk (fun W => Below w.heap.size w W) (Below.refl _ _).drew ?_
  intro w1 hb1
  clear q3 q7 q8 q9 q23
  refine wpAnyC_ready (CW.of (hb1)) (rs := [16]) (by kernel_rfl) (by simp) ?_
  refine (AllReadyC.cons rfl (fun K hK => ?_) AllReadyC.nil)
  go_simp
  refine Calls.mono (HM.out _ w1 hb1) ?_
  rintro _ w2 ⟨u, c, rfl, hc1, hc2, hb2⟩
  dsimp only
  refine hK _ _ ?_
  clear hK K
  generalize hSG : (if 65536 < (if p.signs < 0 then 0 else p.signs) then (65536 : Int) else (if p.signs < 0 then 0 else p.signs)) = SG at hc1 hc2 ⊢
  have hSG' : SG = sgnI p.signs := by
    rw [← hSG]; unfold sgnI
    split <;> (try split at *) <;> omega
  have Hc2 : Hid (c = false → ¬ ∀ u ∈ p.hash.vals, ((u % 4294967296 : Nat) : Int) < sgnI p.signs) := Lib.hid fun h => Hbs.out SG hSG' (hc2 h)
  have Hc1 : Hid (c = true → ∃ out, OwnR intC 1 w1.heap.size 3 w2 u out ∧ out.length ≤ sg.length) := Lib.hid fun h => by
    obtain ⟨out, h1, h2, _⟩ := hc1 h
    exact ⟨out, h1, h2⟩
  have hb3 : Below w.heap.size w w2 := hb1.trans (hb2.mono hb1.size)
  have HV2 := Lib.hid (HV.out.keep hb3)
  clear hSG hSG' hc1 hc2 hb1 hb2 HM HV Hbs
  refine tkC 17 rfl ?_
  refine tkC 18 rfl ?_
  refine tkC 19 rfl ?_
  refine tkC 20 rfl ?_
  refine tkC 21 rfl ?_
  refine wpAnyC_done (by kernel_rfl) (CW.of (hb3)) (by go_simp <;> with_reducible rfl) ?_
  clear hb3
  cases c with
  | false =>
    have hn := Hc2.out rfl
    have Hn := Lib.hid hn
    clear hn Hc1 Hc2
    repeat' (first | go_values | go_skip | go_guarded | go_step | go_upon)
    go_ret2
    exact ⟨3, true, rfl, .inl ⟨rfl, .inl ⟨rfl, Hn.out⟩, HV2.out⟩⟩
  | true =>
    obtain ⟨out, ho1, ho2⟩ := Hc1.out rfl
    obtain ⟨au, cu, hu, _, _⟩ := ho1.form
    subst hu
    have HR : Hid (RowOf (kC .i64) 1 w2 (.slice au out.length cu) out) := Lib.hid ho1.row
    obtain ⟨al, cl, hvl⟩ := HV2.out.otl.form
    have Hvl := Lib.hid hvl
    have q24 : ∀ nq : WB w2, nq.1.cell? ⟨g, 24, none⟩ = some (.slice al tl.length cl) := fun nq => by rw [← hvl]; exact (HV2.out.box.keep nq.2).cell 24
    have q26 : ∀ nq : WB w2, nq.1.cell? ⟨g, 26, none⟩ = some (.int .i64 s.room) := fun nq => (HV2.out.box.keep nq.2).cell 26
    clear Hc1 Hc2 ho1 hvl
    have hw : IntKind.i64.wrap ((tl.length : Int) + (out.length : Int)) = (tl.length : Int) + (out.length : Int) := wi64 (by unfold I64; omega)
    by_cases hbig : s.room < (tl.length : Int) + (out.length : Int)
    · have b1 : decide (s.room < (tl.length : Int) + (out.length : Int)) = true := decide_eq_true hbig
      repeat' (go_not_at_region 4; first | go_values | go_skip | go_guarded | go_step | go_upon)
      refine wp_region_anyC (by kernel_rfl) w2 ?_
      refine tkC 0 rfl ?_
      refine tkC 1 rfl ?_
      refine tkC 2 rfl ?_
      refine tkC 3 rfl ?_
      refine tkC 4 rfl ?_
      refine tkC 5 rfl ?_
      refine tkC 6 rfl ?_
      refine tkC 7 rfl ?_
      refine tkC 8 rfl ?_
      refine tkC 9 rfl ?_
      refine tkC 10 rfl ?_
      refine tkC 11 rfl ?_
      refine tkC 12 rfl ?_
      refine tkC 13 rfl ?_
      refine wpAnyC_done (by kernel_rfl) (CW.of ((Below.refl _ _).drew)) (by go_simp <;> with_reducible rfl) ?_
      clear q24 q26
      repeat' (first | go_values | go_skip | go_guarded | go_step | go_upon)
      go_ret2
      exact ⟨1, true, rfl, .inl ⟨rfl, .inr rfl, HV2.out.keep (Below.refl _ _).drew⟩⟩
    · have b1 : decide (s.room < (tl.length : Int) + (out.length : Int)) = false := decide_eq_false hbig
      repeat' (go_not_at_region 4; first | go_values | go_skip | go_guarded | go_step | go_upon)
      refine wp_region_anyC (by kernel_rfl) w2 ?_
      refine tkC 0 rfl ?_
      refine tkC 1 rfl ?_
      refine tkC 2 rfl ?_
      refine tkC 3 rfl ?_
      refine tkC 4 rfl ?_
      refine tkC 5 rfl ?_
      refine tkC 6 rfl ?_
      refine tkC 7 rfl ?_
      refine tkC 8 rfl ?_
      refine tkC 9 rfl ?_
      refine tkC 10 rfl ?_
      refine tkC 11 rfl ?_
      refine tkC 12 rfl ?_
      refine tkC 13 rfl ?_
      refine genCk (fun W => Below w2.heap.size w2 W) (Below.refl _ _).drew ?_
      intro w3 hb3
      refine wpAnyC_done (by kernel_rfl) (CW.of (hb3)) (by go_simp <;> with_reducible rfl) ?_
      have HV3 := Lib.hid (HV2.out.keep hb3)
      have HR3 := Lib.hid (HR.out.keep hb3)
      clear q24 q26 hb3 HV2 HR b1
      have c24 : w3.cell? ⟨g, 24, none⟩ = some (.slice al tl.length cl) := by rw [← Hvl.out]; exact HV3.out.box.cell 24
      repeat' (first | (at_builtin; refine Hid.out ?_) | go_values | go_skip | go_guarded | go_step | go_upon)
      refine Lib.hid ?_
      refine wpList_plain rfl fun K hK => ?_
      refine app_intD (k := .i64) (B := w0.heap.size) (l0 := tl) (l1 := out) 8 Try.underlying32 info_int rfl (.tmp 48) (.tmp 49) rfl rfl HR3.out (by rw [← Hvl.out]; exact HV3.out.otl) HV3.out.bel.size (by omega) (by unfold maxLen; omega) ?_
      intro v' w4 ho hg hw4
      refine hK _ _ ?_
      clear hK K
      obtain ⟨hbx, hvm⟩ := HV3.out.tellG ho (by rw [Hvl.out]; exact hg) (by rw [Hvl.out]; exact hw4)
      obtain ⟨a5, c5, hv5⟩ := ho.form
      generalize (tl ++ out).length = n5 at hv5
      subst hv5
      have o24 := hbx.cell 24
      have f24 := hbx.free 24
      have o23 := hbx.cell 23
      have f23 := hbx.free 23
      have HVM := Lib.hid hvm.noSigns
      clear ho hg hw4 hbx hvm HV3 HR3 c24
      repeat' (first | go_values | go_skip | go_guarded | go_step | go_upon)
      go_ret2
      exact ⟨0, false, rfl, .inr ⟨rfl, _, tl ++ out, HVM.out, by rw [List.length_append]; omega⟩⟩
end Go.Proofs.Ytkpdcejnanhgoaa
/- Walks: what is paid is done (vm.run.do): a look, a text, turning, joining. Conditions: the machine lies in memory. -/
namespace Go.Proofs.Ytkpdcejnanhgoaa
open Go.RowKit
section
variable {w0 w w' : World} {g : Nat} {p : Prg} {v : PV} {s : RS} {src put sg tl : List Int}
theorem VM.turn (h : VM w0 g p v s src put sg tl w) (hm : RnAt w' g p v { s with vr := s.vp, vp := .slice none 0 0, hr := 0, mrk := updN (updN s.mrk 0 0) 1 0 }) (hb : Below w0.heap.size w0 w') (ho : ∀ k, k ≠ g → w'.heap[k]? = w.heap[k]?) :
    VM w0 g p v { s with vr := s.vp, vp := .slice none 0 0, hr := 0, mrk := updN (updN s.mrk 0 0) 1 0 } put [] sg tl w' := by
  have F : ∀ {e : TypeId} {kd : IntKind} {x : Value} {l : List Int}, e ≠ 92 → OwnI w0.heap.size e kd w x l → OwnI w0.heap.size e kd w' x l := fun {e kd x l} hne ho' =>
    OwnC.block ho' fun q hq => ho q (by
      obtain ⟨cs, fz, hc⟩ := own_typedV ho' hq
      exact ty_ne h.box hc (Ne.symm hne))
  exact ⟨hb, h.prg, hm, h.gb, F (by decide) h.oput, OwnI.nil _ _ _ _, F (by decide) h.osg, F (by decide) h.otl, fun q h1 => by simp [Value.ownBlock] at h1, h.ngl⟩
set_option maxRecDepth 100000 in
set_option maxHeartbeats 4000000 in
theorem do_8 (x : Nat → Int) (cell : Int) (text : ByteArray) (h : VM w0 g p v s src put sg tl w) (hi : VI p s src put sg tl) (hx : x 0 = 8) (h1 : 0 ≤ x 1 ∧ x 1 < 8) (h4 : 0 ≤ x 4 ∧ x 4 < p.tabs.length) (n : Nat) (hn : cell = (n : Int)) (hnl : n < (tabD p x).2.length) (h64 : ∀ d ∈ (tabD p x).2, I64 d) : Calls Try.prog 52 #[.pointer (some ⟨g, 0, none⟩), vI x, .int .i64 cell, .string text] w (DoPost w0 g p v s src put sg tl x) := by
  subst hn
  obtain ⟨kt, hkt⟩ : ∃ k : Nat, x 4 = (k : Int) := ⟨(x 4).toNat, by omega⟩
  have hktl : kt < p.tabs.length := by omega
  have Hkt := Lib.hid hkt
  have htd : tabD p x = p.tabs[kt] := by
    unfold tabD
    rw [hkt, Int.toNat_natCast, List.getD_eq_getElem?_getD, List.getElem?_eq_getElem hktl]; rfl
  have Hd : Hid ((tabD p x).2.getD n 0 ∈ (tabD p x).2) := Lib.hid (getD_mem hnl)
  have HdI := Lib.hid (h64 _ (getD_mem (d := 0) hnl))
  obtain ⟨d, hd⟩ : ∃ d, d = (tabD p x).2.getD n 0 := ⟨_, rfl⟩
  rw [← hd] at Hd HdI
  rw [htd] at hd hnl
  clear hkt h64
  have hkt0 : (0 : Int) ≤ kt := by omega
  have hn0 : (0 : Int) ≤ n := by omega
  have Hhd := Lib.hid hd
  have Hhnl := Lib.hid hnl
  have Hhkt := Lib.hid hktl
  clear hd hnl htd h4
  obtain ⟨wa, hwa⟩ : ∃ y, y = w.alloc (.cells (ic x) 85) := ⟨_, rfl⟩
  obtain ⟨g5, hg5⟩ : ∃ b, b = w.heap.size := ⟨_, rfl⟩
  obtain ⟨ka, hka, hand⟩ : ∃ k : Nat, k < 8 ∧ bits .and .i64 (x 1) 7 = (k : Int) := ⟨(x 1 % 8).toNat, by omega, by rw [i64_and7]; omega⟩
  have hkx : 0 ≤ x 1 → x 1 < 8 → (x 1).toNat = ka := fun a b => by rw [i64_and7] at hand; omega
  have Hkx := Lib.hid hkx
  have hkaI : (ka : Int) < 8 := by omega
  have HVa : Hid (VM w0 g p v s src put sg tl wa) := Lib.hid (by rw [hwa]; exact h.keep ((Below.refl _ _).alloc (Nat.le_refl _) _))
  have HNa : Hid (InsAt wa g5 x) := Lib.hid (by rw [hwa, hg5]; exact InsAt.new w x)
  have q1 : ∀ nq : WB wa, nq.1.cell? ⟨g5, 1, none⟩ = some (.int .i64 (x 1)) := fun nq => (HNa.out.keep nq.2).cell 1 (by decide)
  have HI := Lib.hid hi
  have Hx0 := Lib.hid hx
  clear h hi hkx hx
  go_enter Try.func52, Try.ntmps52
  repeat' (go_not_at_region 1; first | go_values | go_skip | go_guarded | go_step | go_upon)
  rw [← hwa, ← hg5]
  clear hwa hg5
  refine wp_region_anyC (by kernel_rfl) wa ?_
  refine tkC 0 rfl ?_
  refine tkC 1 rfl ?_
  refine tkC 2 rfl ?_
  refine tkC 3 rfl ?_
  refine tkC 4 rfl ?_
  refine tkC 5 rfl ?_
  refine tkC 6 rfl ?_
  refine tkC 7 rfl ?_
  refine genCk (fun W => Below wa.heap.size wa W) (Below.refl _ _).drew ?_
  intro w1 hb1
  refine wpAnyC_done (by kernel_rfl) (CW.of (hb1)) (by go_simp <;> with_reducible rfl) ?_
  have HV := Lib.hid (HVa.out.keep hb1)
  have HN := Lib.hid (HNa.out.keep hb1)
  clear q1 hb1 HVa HNa hand
  have c0 := HN.out.cell 0 (by decide)
  rw [Hx0.out] at c0
  obtain ⟨ts, hts, htl, htr⟩ := HV.out.prgw.tabs
  obtain ⟨at', ct, hvt, hct, hmt, hcellt⟩ := hts.open (f := tbC) (sz := 2) (fun _ => rfl)
  have hkts : kt < ts.length := by have := Hhkt.out; omega
  have hti : ts[kt]? = some ts[kt] := List.getElem?_eq_getElem hkts
  obtain ⟨_, _, hrow⟩ := htr kt _ _ hti (List.getElem?_eq_getElem Hhkt.out)
  rcases hcellt with h0 | ⟨bt, ot, hat, hbt, hclt⟩
  · omega
  subst hat
  obtain ⟨_, t1⟩ := tab_cells hclt hti
  obtain ⟨ad, cd, hvd, hcd, hmd, hcelld⟩ := hrow.open intC_len
  rw [hvd] at t1
  rcases hcelld with h0 | ⟨bd, od, had, hbd, hcd'⟩
  · have := Hhnl.out; omega
  subst had
  have t2 := int_cell hcd' n Hhnl.out
  rw [← Hhd.out] at t2
  obtain ⟨dn, hdn⟩ : ∃ m, m = (p.tabs[kt]'Hhkt.out).2.length := ⟨_, rfl⟩
  have hndn : (n : Int) < (dn : Int) := by have := Hhnl.out; omega
  rw [← hdn] at t1
  have hkts' : (kt : Int) < (ts.length : Int) := by omega
  obtain ⟨C, hC⟩ : ∃ C : World → Prop, C = Below w1.heap.size w1 := ⟨_, rfl⟩
  have Hmk : Hid (∀ W, Below w1.heap.size w1 W → C W) := Lib.hid fun W h => by rw [hC]; exact h
  have hC' : ∀ W, C W → Below w1.heap.size w1 W := fun W h => by rw [hC] at h; exact h
  have q1 : ∀ nq : GW C, nq.1.cell? ⟨g, 5, none⟩ = some (.slice (some ⟨bt, ot, none⟩) ts.length ct) := fun nq => by rw [← hvt]; exact (HV.out.box.keep (hC' _ nq.2)).cell 5
  have q2 : ∀ nq : GW C, nq.1.cell? ⟨g5, 4, none⟩ = some (.int .i64 (kt : Int)) := fun nq => by rw [← Hkt.out]; exact (HN.out.keep (hC' _ nq.2)).cell 4 (by decide)
  have q3 : ∀ nq : GW C, nq.1.cell? ⟨bt, ot + kt * 2 + 1, none⟩ = some (.slice (some ⟨bd, od, none⟩) dn cd) := fun nq => by rw [(hC' _ nq.2).cell hbt]; exact t1
  have q4 : ∀ nq : GW C, nq.1.cell? ⟨bd, od + n, none⟩ = some (.int .i64 d) := fun nq => by rw [(hC' _ nq.2).cell hbd]; exact t2
  clear hC hC' hts htl htr hvt hct hmt hti hrow hclt t1 t2 hcd hmd hcd' hdn hvd
  repeat' (go_not_at_region 23; first | go_values | go_skip | go_guarded | go_step | go_upon)
  refine wp_region_anyU (by kernel_rfl) C 15 ?_
  refine tkU 0 rfl ?_
  refine tkU 1 rfl ?_
  refine tkU 2 rfl ?_
  refine tkU 3 rfl ?_
  refine tkU 4 rfl ?_
  refine tkU 5 rfl ?_
  refine tkU 6 rfl ?_
  refine tkU 7 rfl ?_
  refine tkU 8 rfl ?_
  refine tkU 9 rfl ?_
  refine tkU 10 rfl ?_
  refine tkU 11 rfl ?_
  refine tkU 12 rfl ?_
  refine tkU 13 rfl ?_
  clear q1 q2 q3 q4
  refine genUv (fun W => Below w1.heap.size w1 W) ((Below.refl _ _).drew) ?_
  intro W0 hb0
  have HV0 := Lib.hid (HV.out.keep hb0)
  have o := HV0.out.box.reg hka
  have f := HV0.out.box.free (10 + ka)
  refine tkU 14 rfl ?_
  refine wpAnyU_ready (CG.of (Hmk.out _ hb0)) (rs := [15]) (by kernel_rfl) (by simp) ?_
  refine (AllReadyU.cons rfl (fun K hK => ?_) AllReadyU.nil)
  go_simp
  refine hK _ _ ?_
  clear hK K
  refine genUv (fun W => VM w0 g p v { s with rg := updN s.rg ka d } src put sg tl W) (HV0.out.set (HV0.out.box.setReg hka d) rfl rfl rfl rfl) ?_
  clear o f HV0 hb0 HV HN c0 Hmk
  intro W1 hv1
  have HV := Lib.hid hv1
  clear hv1
  refine wpAnyU_done (by kernel_rfl) (by kernel_rfl) (by go_simp <;> with_reducible rfl) ?_
  repeat' (first | go_values | go_skip | go_guarded | go_step | go_upon)
  go_ret2
  refine ⟨0, false, rfl, .inr ⟨rfl, _, src, put, sg, tl, HV.out, HI.out.reg _ HdI.out, rfl, rfl, rfl, ?_⟩⟩
  unfold nxtR
  rw [if_neg (by have := Hx0.out; omega), if_neg (by have := Hx0.out; omega), if_neg (by have := Hx0.out; omega), if_neg (by have := Hx0.out; omega), if_neg (by have := Hx0.out; omega), if_neg (by have := Hx0.out; omega), if_pos Hx0.out, Hkx.out h1.1 h1.2]
  exact ⟨⟨d, Hd.out, rfl⟩, by dsimp only; omega⟩
set_option maxRecDepth 100000 in
set_option maxHeartbeats 4000000 in
theorem do_13 (x : Nat → Int) (cell : Int) (text : List UInt8) (h : VM w0 g p v s src put sg tl w) (hi : VI p s src put sg tl) (hx : x 0 = 13) (hl : put.length + text.length ≤ 262144) : Calls Try.prog 52 #[.pointer (some ⟨g, 0, none⟩), vI x, .int .i64 cell, .string ⟨text.toArray⟩] w (DoPost w0 g p v s src put sg tl x) := by
  obtain ⟨wa, hwa⟩ : ∃ y, y = w.alloc (.cells (ic x) 85) := ⟨_, rfl⟩
  obtain ⟨g5, hg5⟩ : ∃ b, b = w.heap.size := ⟨_, rfl⟩
  obtain ⟨ka, hka, hand⟩ : ∃ k : Nat, k < 8 ∧ bits .and .i64 (x 1) 7 = (k : Int) := ⟨(x 1 % 8).toNat, by omega, by rw [i64_and7]; omega⟩
  have hkx : 0 ≤ x 1 → x 1 < 8 → (x 1).toNat = ka := fun a b => by rw [i64_and7] at hand; omega
  have Hkx := Lib.hid hkx
  have hkaI : (ka : Int) < 8 := by omega
  have HVa : Hid (VM w0 g p v s src put sg tl wa) := Lib.hid (by rw [hwa]; exact h.keep ((Below.refl _ _).alloc (Nat.le_refl _) _))
  have HNa : Hid (InsAt wa g5 x) := Lib.hid (by rw [hwa, hg5]; exact InsAt.new w x)
  have q1 : ∀ nq : WB wa, nq.1.cell? ⟨g5, 1, none⟩ = some (.int .i64 (x 1)) := fun nq => (HNa.out.keep nq.2).cell 1 (by decide)
  have HI := Lib.hid hi
  have Hx0 := Lib.hid hx
  clear h hi hkx hx
  go_enter Try.func52, Try.ntmps52
  repeat' (go_not_at_region 1; first | go_values | go_skip | go_guarded | go_step | go_upon)
  rw [← hwa, ← hg5]
  clear hwa hg5
  refine wp_region_anyC (by kernel_rfl) wa ?_
  refine tkC 0 rfl ?_
  refine tkC 1 rfl ?_
  refine tkC 2 rfl ?_
  refine tkC 3 rfl ?_
  refine tkC 4 rfl ?_
  refine tkC 5 rfl ?_
  refine tkC 6 rfl ?_
  refine tkC 7 rfl ?_
  refine genCk (fun W => Below wa.heap.size wa W) (Below.refl _ _).drew ?_
  intro w1 hb1
  refine wpAnyC_done (by kernel_rfl) (CW.of (hb1)) (by go_simp <;> with_reducible rfl) ?_
  have HV := Lib.hid (HVa.out.keep hb1)
  have HN := Lib.hid (HNa.out.keep hb1)
  clear q1 hb1 HVa HNa hand
  have c0 := HN.out.cell 0 (by decide)
  rw [Hx0.out] at c0
  obtain ⟨al, cl, hvl⟩ := HV.out.oput.form
  have Hvl := Lib.hid hvl
  have c22 : w1.cell? ⟨g, 22, none⟩ = some (.slice al put.length cl) := by rw [← hvl]; exact HV.out.box.cell 22
  clear hvl
  repeat' (first | (at_builtin; refine Hid.out ?_) | go_values | go_skip | go_guarded | go_step | go_upon)
  refine Lib.hid ?_
  refine wpList_plain rfl fun K hK => ?_
  refine app_strD (B := w0.heap.size) (l0 := put) (x := text) Try.underlying87 Try.underlying9 info_u8V (.tmp 190) (.tmp 191) rfl rfl rfl (by rw [← Hvl.out]; exact HV.out.oput) HV.out.bel.size (by omega) ?_
  intro v' W2 ho hg hw
  refine hK _ _ ?_
  clear hK K
  obtain ⟨hbx, hvm⟩ := HV.out.putG ho (by rw [Hvl.out]; exact hg) (by rw [Hvl.out]; exact hw)
  obtain ⟨a5, c5, hv5⟩ := ho.form
  generalize (put ++ text.map fun b => (b.toNat : Int)).length = n5 at hv5
  subst hv5
  have o := hbx.cell 22
  have f := hbx.free 22
  have HVM := Lib.hid hvm
  clear ho hg hw hvm hbx HV HN c0 c22
  repeat' (first | go_values | go_skip | go_guarded | go_step | go_upon)
  go_ret2
  exact ⟨0, false, rfl, .inr ⟨rfl, _, src, _, sg, tl, HVM.out, ⟨HI.out.bsrc, fun y hy => by
    rcases List.mem_append.1 hy with hy | hy
    · exact HI.out.bput y hy
    · obtain ⟨b, _, rfl⟩ := List.mem_map.1 hy
      have := b.toNat_lt; omega, HI.out.lsrc, by simp; omega, HI.out.lsg, HI.out.bsg, HI.out.ltl, HI.out.room, HI.out.fuel, HI.out.here, HI.out.mark, HI.out.regs⟩, rfl, rfl, rfl, nxt_on (by right; right; right; left; exact Hx0.out)⟩⟩
set_option maxRecDepth 100000 in
set_option maxHeartbeats 4000000 in
theorem do_14 (x : Nat → Int) (cell : Int) (text : ByteArray) (h : VM w0 g p v s src put sg tl w) (hi : VI p s src put sg tl) (hx : x 0 = 14) : Calls Try.prog 52 #[.pointer (some ⟨g, 0, none⟩), vI x, .int .i64 cell, .string text] w (DoPost w0 g p v s src put sg tl x) := by
  obtain ⟨wa, hwa⟩ : ∃ y, y = w.alloc (.cells (ic x) 85) := ⟨_, rfl⟩
  obtain ⟨g5, hg5⟩ : ∃ b, b = w.heap.size := ⟨_, rfl⟩
  obtain ⟨ka, hka, hand⟩ : ∃ k : Nat, k < 8 ∧ bits .and .i64 (x 1) 7 = (k : Int) := ⟨(x 1 % 8).toNat, by omega, by rw [i64_and7]; omega⟩
  have hkx : 0 ≤ x 1 → x 1 < 8 → (x 1).toNat = ka := fun a b => by rw [i64_and7] at hand; omega
  have Hkx := Lib.hid hkx
  have hkaI : (ka : Int) < 8 := by omega
  have HVa : Hid (VM w0 g p v s src put sg tl wa) := Lib.hid (by rw [hwa]; exact h.keep ((Below.refl _ _).alloc (Nat.le_refl _) _))
  have HNa : Hid (InsAt wa g5 x) := Lib.hid (by rw [hwa, hg5]; exact InsAt.new w x)
  have q1 : ∀ nq : WB wa, nq.1.cell? ⟨g5, 1, none⟩ = some (.int .i64 (x 1)) := fun nq => (HNa.out.keep nq.2).cell 1 (by decide)
  have HI := Lib.hid hi
  have Hx0 := Lib.hid hx
  clear h hi hkx hx
  go_enter Try.func52, Try.ntmps52
  repeat' (go_not_at_region 1; first | go_values | go_skip | go_guarded | go_step | go_upon)
  rw [← hwa, ← hg5]
  clear hwa hg5
  refine wp_region_anyC (by kernel_rfl) wa ?_
  refine tkC 0 rfl ?_
  refine tkC 1 rfl ?_
  refine tkC 2 rfl ?_
  refine tkC 3 rfl ?_
  refine tkC 4 rfl ?_
  refine tkC 5 rfl ?_
  refine tkC 6 rfl ?_
  refine tkC 7 rfl ?_
  refine genCk (fun W => Below wa.heap.size wa W) (Below.refl _ _).drew ?_
  intro w1 hb1
  refine wpAnyC_done (by kernel_rfl) (CW.of (hb1)) (by go_simp <;> with_reducible rfl) ?_
  have HV := Lib.hid (HVa.out.keep hb1)
  have HN := Lib.hid (HNa.out.keep hb1)
  clear q1 hb1 HVa HNa hand
  have c0 := HN.out.cell 0 (by decide)
  rw [Hx0.out] at c0
  obtain ⟨al, cl, hvl⟩ := HV.out.oput.form
  have Hvl := Lib.hid hvl
  have c22 : w1.cell? ⟨g, 22, none⟩ = some (.slice al put.length cl) := by rw [← hvl]; exact HV.out.box.cell 22
  have c20 := HV.out.box.cell 20
  have c21 := HV.out.box.cell 21
  have c18 := HV.out.box.cell 18
  have c19 := HV.out.box.cell 19
  have f20 := HV.out.box.free 20
  have f21 := HV.out.box.free 21
  have f22 := HV.out.box.free 22
  have f18 := HV.out.box.free 18
  have f19 := HV.out.box.free 19
  clear hvl
  repeat' (first | go_values | go_skip | go_guarded | go_step | go_upon)
  go_ret2
  have hm : RnAt (((((w1.setCell ⟨g, 20, none⟩ (.slice al put.length cl)).setCell ⟨g, 22, none⟩ (.slice none 0 0)).setCell ⟨g, 21, none⟩ (.int .i64 0)).setCell ⟨g, 18, none⟩ (.int .i64 0)).setCell ⟨g, 19, none⟩ (.int .i64 0)) g p v { s with vr := s.vp, vp := .slice none 0 0, hr := 0, mrk := updN (updN s.mrk 0 0) 1 0 } := by
    rw [← Hvl.out]
    exact ((((HV.out.box.set20 s.vp).set22 (.slice none 0 0)).set21 0).setMk (i := 0) (by omega) 0).setMk (i := 1) (by omega) 0
  refine ⟨0, false, rfl, .inr ⟨rfl, _, put, [], sg, tl, HV.out.turn hm (((((HV.out.bel.setCell HV.out.gb _).setCell HV.out.gb _).setCell HV.out.gb _).setCell HV.out.gb _).setCell HV.out.gb _) (fun k hk => by
    rw [Below.heap_setCell _ _ _ _ (by dsimp only; omega), Below.heap_setCell _ _ _ _ (by dsimp only; omega), Below.heap_setCell _ _ _ _ (by dsimp only; omega), Below.heap_setCell _ _ _ _ (by dsimp only; omega), Below.heap_setCell _ _ _ _ (by dsimp only; omega)]), ⟨HI.out.bput, fun y hy => by simp at hy, HI.out.lput, by simp, HI.out.lsg, HI.out.bsg, HI.out.ltl, HI.out.room, HI.out.fuel, ⟨Int.le_refl _, by dsimp only; omega⟩, fun k hk => by
    rcases (by omega : k = 0 ∨ k = 1) with rfl | rfl <;> simp [updN], HI.out.regs⟩, rfl, rfl, rfl, nxt_on (by right; right; right; right; left; exact Hx0.out)⟩⟩
set_option maxRecDepth 100000 in
set_option maxHeartbeats 4000000 in
theorem do_16 (x : Nat → Int) (cell : Int) (text : ByteArray) (h : VM w0 g p v s src put sg tl w) (hi : VI p s src put sg tl) (hx : x 0 = 16) (hk : p.hash.keys.length ≤ 35184372088832) : Calls Try.prog 52 #[.pointer (some ⟨g, 0, none⟩), vI x, .int .i64 cell, .string text] w (DoPost w0 g p v s src put sg tl x) := by
  obtain ⟨wa, hwa⟩ : ∃ y, y = w.alloc (.cells (ic x) 85) := ⟨_, rfl⟩
  obtain ⟨g5, hg5⟩ : ∃ b, b = w.heap.size := ⟨_, rfl⟩
  obtain ⟨ka, hka, hand⟩ : ∃ k : Nat, k < 8 ∧ bits .and .i64 (x 1) 7 = (k : Int) := ⟨(x 1 % 8).toNat, by omega, by rw [i64_and7]; omega⟩
  have hkx : 0 ≤ x 1 → x 1 < 8 → (x 1).toNat = ka := fun a b => by rw [i64_and7] at hand; omega
  have Hkx := Lib.hid hkx
  have hkaI : (ka : Int) < 8 := by omega
  have HVa : Hid (VM w0 g p v s src put sg tl wa) := Lib.hid (by rw [hwa]; exact h.keep ((Below.refl _ _).alloc (Nat.le_refl _) _))
  have HNa : Hid (InsAt wa g5 x) := Lib.hid (by rw [hwa, hg5]; exact InsAt.new w x)
  have q1 : ∀ nq : WB wa, nq.1.cell? ⟨g5, 1, none⟩ = some (.int .i64 (x 1)) := fun nq => (HNa.out.keep nq.2).cell 1 (by decide)
  have HI := Lib.hid hi
  have Hx0 := Lib.hid hx
  clear h hi hkx hx
  go_enter Try.func52, Try.ntmps52
  repeat' (go_not_at_region 1; first | go_values | go_skip | go_guarded | go_step | go_upon)
  rw [← hwa, ← hg5]
  clear hwa hg5
  refine wp_region_anyC (by kernel_rfl) wa ?_
  refine tkC 0 rfl ?_
  refine tkC 1 rfl ?_
  refine tkC 2 rfl ?_
  refine tkC 3 rfl ?_
  refine tkC 4 rfl ?_
  refine tkC 5 rfl ?_
  refine tkC 6 rfl ?_
  refine tkC 7 rfl ?_
  refine genCk (fun W => Below wa.heap.size wa W) (Below.refl _ _).drew ?_
  intro w1 hb1
  refine wpAnyC_done (by kernel_rfl) (CW.of (hb1)) (by go_simp <;> with_reducible rfl) ?_
  have HV := Lib.hid (HVa.out.keep hb1)
  have HN := Lib.hid (HNa.out.keep hb1)
  clear q1 hb1 HVa HNa hand
  have c0 := HN.out.cell 0 (by decide)
  rw [Hx0.out] at c0
  have HJ := Lib.hid (vm_join HV.out HI.out hk)
  clear HN
  repeat' (first | go_values | go_skip | go_guarded | go_step | go_upon)
  refine Calls.mono (HJ.out) ?_
  rintro _ w2 ⟨en, c, rfl, hj⟩
  dsimp only
  have Hj := Lib.hid hj
  clear hj HJ HV
  repeat' (first | go_values | go_skip | go_guarded | go_step | go_upon)
  go_ret2
  refine ⟨en, c, rfl, ?_⟩
  rcases Hj.out with ⟨rfl, h2, h3⟩ | ⟨rfl, u, tl', h2, h3⟩
  · exact .inl ⟨rfl, h3, .inr ⟨Hx0.out, h2⟩⟩
  · exact .inr ⟨rfl, _, src, put, [], tl', h2, ⟨HI.out.bsrc, HI.out.bput, HI.out.lsrc, HI.out.lput, by simp, fun y hy => by simp at hy, h3, HI.out.room, HI.out.fuel, HI.out.here, HI.out.mark, HI.out.regs⟩, rfl, rfl, rfl, nxt_on (by right; right; right; right; right; right; left; exact Hx0.out)⟩
end
end Go.Proofs.Ytkpdcejnanhgoaa
/- Walks: what is paid is done (vm.run.do): tests, the next byte, a look, marks. Conditions: the machine lies in memory. -/
namespace Go.Proofs.Ytkpdcejnanhgoaa
open Go.RowKit
theorem VI.hre {p : Prg} {s : RS} {src put sg tl : List Int} (h : VI p s src put sg tl) {u : Int} (hu : 0 ≤ u ∧ u ≤ 262144) : VI p { s with hr := u } src put sg tl :=
  ⟨h.bsrc, h.bput, h.lsrc, h.lput, h.lsg, h.bsg, h.ltl, h.room, h.fuel, hu, h.mark, h.regs⟩
theorem VI.mrk' {p : Prg} {s : RS} {src put sg tl : List Int} (h : VI p s src put sg tl) (k : Nat) {u : Int} (hu : 0 ≤ u ∧ u ≤ 262144) : VI p { s with mrk := updN s.mrk k u } src put sg tl :=
  ⟨h.bsrc, h.bput, h.lsrc, h.lput, h.lsg, h.bsg, h.ltl, h.room, h.fuel, h.here, fun j hj => by
    show 0 ≤ updN s.mrk k u j ∧ updN s.mrk k u j ≤ 262144
    by_cases e : j = k
    · subst e; rw [updN_same]; exact hu
    · rw [updN_ne _ _ e]; exact h.mark j hj, h.regs⟩
section
variable {w0 w : World} {g : Nat} {p : Prg} {v : PV} {s : RS} {src put sg tl : List Int}
set_option maxRecDepth 100000 in
set_option maxHeartbeats 4000000 in
theorem do_5 (x : Nat → Int) (cell : Int) (text : ByteArray) (h : VM w0 g p v s src put sg tl w) (hi : VI p s src put sg tl) (hx : x 0 = 5) (h1 : 0 ≤ x 1 ∧ x 1 < 8) : Calls Try.prog 52 #[.pointer (some ⟨g, 0, none⟩), vI x, .int .i64 cell, .string text] w (DoPost w0 g p v s src put sg tl x) := by
  obtain ⟨wa, hwa⟩ : ∃ y, y = w.alloc (.cells (ic x) 85) := ⟨_, rfl⟩
  obtain ⟨g5, hg5⟩ : ∃ b, b = w.heap.size := ⟨_, rfl⟩
  obtain ⟨ka, hka, hand⟩ : ∃ k : Nat, k < 8 ∧ bits .and .i64 (x 1) 7 = (k : Int) := ⟨(x 1 % 8).toNat, by omega, by rw [i64_and7]; omega⟩
  have hkx : 0 ≤ x 1 → x 1 < 8 → (x 1).toNat = ka := fun a b => by rw [i64_and7] at hand; omega
  have Hkx := Lib.hid hkx
  have hkaI : (ka : Int) < 8 := by omega
  have HVa : Hid (VM w0 g p v s src put sg tl wa) := Lib.hid (by rw [hwa]; exact h.keep ((Below.refl _ _).alloc (Nat.le_refl _) _))
  have HNa : Hid (InsAt wa g5 x) := Lib.hid (by rw [hwa, hg5]; exact InsAt.new w x)
  have q1 : ∀ nq : WB wa, nq.1.cell? ⟨g5, 1, none⟩ = some (.int .i64 (x 1)) := fun nq => (HNa.out.keep nq.2).cell 1 (by decide)
  have HI := Lib.hid hi
  have Hx0 := Lib.hid hx
  clear h hi hkx hx
  go_enter Try.func52, Try.ntmps52
  repeat' (go_not_at_region 1; first | go_values | go_skip | go_guarded | go_step | go_upon)
  rw [← hwa, ← hg5]
  clear hwa hg5
  refine wp_region_anyC (by kernel_rfl) wa ?_
  refine tkC 0 rfl ?_
  refine tkC 1 rfl ?_
  refine tkC 2 rfl ?_
  refine tkC 3 rfl ?_
  refine tkC 4 rfl ?_
  refine tkC 5 rfl ?_
  refine tkC 6 rfl ?_
  refine tkC 7 rfl ?_
  refine genCk (fun W => Below wa.heap.size wa W) (Below.refl _ _).drew ?_
  intro w1 hb1
  refine wpAnyC_done (by kernel_rfl) (CW.of (hb1)) (by go_simp <;> with_reducible rfl) ?_
  have HV := Lib.hid (HVa.out.keep hb1)
  have HN := Lib.hid (HNa.out.keep hb1)
  clear q1 hb1 HVa HNa hand
  have c0 := HN.out.cell 0 (by decide)
  rw [Hx0.out] at c0
  have s1 : ∀ nq : WB w1, nq.1.cell? ⟨g, 10 + ka, none⟩ = some (.int .i64 (s.rg ka)) := fun nq => (HV.out.box.keep nq.2).reg hka
  have s2 : ∀ nq : WB w1, nq.1.cell? ⟨g5, 2, none⟩ = some (.int .i64 (x 2)) := fun nq => (HN.out.keep nq.2).cell 2 (by decide)
  obtain ⟨r, hr⟩ : ∃ r, r = s.rg ka := ⟨_, rfl⟩
  rw [← hr] at s1
  have Hr := Lib.hid hr
  clear hr
  obtain ⟨b, hb⟩ : ∃ b, b = x 2 := ⟨_, rfl⟩
  rw [← hb] at s2
  have Hb := Lib.hid hb
  clear hb
  by_cases ht : r = b
  · have b1 : (r == b) = true := by rw [beq_iff_eq]; exact ht
    repeat' (go_not_at_region 12; first | go_values | go_skip | go_guarded | go_step | go_upon)
    refine wp_region_anyC (by kernel_rfl) w1 ?_
    refine tkC 0 rfl ?_
    refine tkC 1 rfl ?_
    refine tkC 2 rfl ?_
    refine tkC 3 rfl ?_
    refine tkC 4 rfl ?_
    refine tkC 5 rfl ?_
    refine genCk (fun W => Below w1.heap.size w1 W) (Below.refl _ _).drew ?_
    intro w2 hb2
    refine wpAnyC_done (by kernel_rfl) (CW.of (hb2)) (by go_simp <;> with_reducible rfl) ?_
    have HV2 := Lib.hid (HV.out.keep hb2)
    have HN2 := Lib.hid (HN.out.keep hb2)
    clear s1 s2 hb2 HV HN c0
    have c3 := HN2.out.cell 3 (by decide)
    have o := HV2.out.box.cell 25
    have f := HV2.out.box.free 25
    repeat' (first | go_values | go_skip | go_guarded | go_step | go_upon)
    go_ret2
    refine ⟨0, false, rfl, .inr ⟨rfl, _, src, put, sg, tl, HV2.out.set (HV2.out.box.set25 (x 3)) rfl rfl rfl rfl, HI.out.plc _, rfl, rfl, rfl, ?_⟩⟩
    unfold nxtR
    rw [if_neg (by have := Hx0.out; omega), if_neg (by have := Hx0.out; omega), if_neg (by have := Hx0.out; omega), if_pos Hx0.out, Hkx.out h1.1 h1.2, ← Hr.out, ← Hb.out]
    exact ⟨rfl, by rw [if_pos ht]⟩
  · have b1 : (r == b) = false := beq_false_of_ne ht
    repeat' (go_not_at_region 12; first | go_values | go_skip | go_guarded | go_step | go_upon)
    refine wp_region_anyC (by kernel_rfl) w1 ?_
    refine tkC 0 rfl ?_
    refine tkC 1 rfl ?_
    refine tkC 2 rfl ?_
    refine tkC 3 rfl ?_
    refine tkC 4 rfl ?_
    refine tkC 5 rfl ?_
    refine genCk (fun W => Below w1.heap.size w1 W) (Below.refl _ _).drew ?_
    intro w2 hb2
    refine wpAnyC_done (by kernel_rfl) (CW.of (hb2)) (by go_simp <;> with_reducible rfl) ?_
    have HV2 := Lib.hid (HV.out.keep hb2)
    clear s1 s2 hb2 HV HN c0
    repeat' (first | go_values | go_skip | go_guarded | go_step | go_upon)
    go_ret2
    refine ⟨0, false, rfl, .inr ⟨rfl, _, src, put, sg, tl, HV2.out, HI.out, rfl, rfl, rfl, ?_⟩⟩
    unfold nxtR
    rw [if_neg (by have := Hx0.out; omega), if_neg (by have := Hx0.out; omega), if_neg (by have := Hx0.out; omega), if_pos Hx0.out, Hkx.out h1.1 h1.2, ← Hr.out, ← Hb.out]
    exact ⟨rfl, by rw [if_neg ht]; omega⟩
set_option maxRecDepth 100000 in
set_option maxHeartbeats 4000000 in
theorem do_6 (x : Nat → Int) (cell : Int) (text : ByteArray) (h : VM w0 g p v s src put sg tl w) (hi : VI p s src put sg tl) (hx : x 0 = 6) (h1 : 0 ≤ x 1 ∧ x 1 < 8) : Calls Try.prog 52 #[.pointer (some ⟨g, 0, none⟩), vI x, .int .i64 cell, .string text] w (DoPost w0 g p v s src put sg tl x) := by
  obtain ⟨wa, hwa⟩ : ∃ y, y = w.alloc (.cells (ic x) 85) := ⟨_, rfl⟩
  obtain ⟨g5, hg5⟩ : ∃ b, b = w.heap.size := ⟨_, rfl⟩
  obtain ⟨ka, hka, hand⟩ : ∃ k : Nat, k < 8 ∧ bits .and .i64 (x 1) 7 = (k : Int) := ⟨(x 1 % 8).toNat, by omega, by rw [i64_and7]; omega⟩
  have hkx : 0 ≤ x 1 → x 1 < 8 → (x 1).toNat = ka := fun a b => by rw [i64_and7] at hand; omega
  have Hkx := Lib.hid hkx
  have hkaI : (ka : Int) < 8 := by omega
  have HVa : Hid (VM w0 g p v s src put sg tl wa) := Lib.hid (by rw [hwa]; exact h.keep ((Below.refl _ _).alloc (Nat.le_refl _) _))
  have HNa : Hid (InsAt wa g5 x) := Lib.hid (by rw [hwa, hg5]; exact InsAt.new w x)
  have q1 : ∀ nq : WB wa, nq.1.cell? ⟨g5, 1, none⟩ = some (.int .i64 (x 1)) := fun nq => (HNa.out.keep nq.2).cell 1 (by decide)
  have HI := Lib.hid hi
  have Hx0 := Lib.hid hx
  clear h hi hkx hx
  go_enter Try.func52, Try.ntmps52
  repeat' (go_not_at_region 1; first | go_values | go_skip | go_guarded | go_step | go_upon)
  rw [← hwa, ← hg5]
  clear hwa hg5
  refine wp_region_anyC (by kernel_rfl) wa ?_
  refine tkC 0 rfl ?_
  refine tkC 1 rfl ?_
  refine tkC 2 rfl ?_
  refine tkC 3 rfl ?_
  refine tkC 4 rfl ?_
  refine tkC 5 rfl ?_
  refine tkC 6 rfl ?_
  refine tkC 7 rfl ?_
  refine genCk (fun W => Below wa.heap.size wa W) (Below.refl _ _).drew ?_
  intro w1 hb1
  refine wpAnyC_done (by kernel_rfl) (CW.of (hb1)) (by go_simp <;> with_reducible rfl) ?_
  have HV := Lib.hid (HVa.out.keep hb1)
  have HN := Lib.hid (HNa.out.keep hb1)
  clear q1 hb1 HVa HNa hand
  have c0 := HN.out.cell 0 (by decide)
  rw [Hx0.out] at c0
  have s1 : ∀ nq : WB w1, nq.1.cell? ⟨g, 10 + ka, none⟩ = some (.int .i64 (s.rg ka)) := fun nq => (HV.out.box.keep nq.2).reg hka
  have s2 : ∀ nq : WB w1, nq.1.cell? ⟨g5, 2, none⟩ = some (.int .i64 (x 2)) := fun nq => (HN.out.keep nq.2).cell 2 (by decide)
  obtain ⟨r, hr⟩ : ∃ r, r = s.rg ka := ⟨_, rfl⟩
  rw [← hr] at s1
  have Hr := Lib.hid hr
  clear hr
  obtain ⟨b, hb⟩ : ∃ b, b = x 2 := ⟨_, rfl⟩
  rw [← hb] at s2
  have Hb := Lib.hid hb
  clear hb
  by_cases ht : r < b
  · have b1 : decide (r < b) = true := decide_eq_true ht
    repeat' (go_not_at_region 15; first | go_values | go_skip | go_guarded | go_step | go_upon)
    refine wp_region_anyC (by kernel_rfl) w1 ?_
    refine tkC 0 rfl ?_
    refine tkC 1 rfl ?_
    refine tkC 2 rfl ?_
    refine tkC 3 rfl ?_
    refine tkC 4 rfl ?_
    refine tkC 5 rfl ?_
    refine genCk (fun W => Below w1.heap.size w1 W) (Below.refl _ _).drew ?_
    intro w2 hb2
    refine wpAnyC_done (by kernel_rfl) (CW.of (hb2)) (by go_simp <;> with_reducible rfl) ?_
    have HV2 := Lib.hid (HV.out.keep hb2)
    have HN2 := Lib.hid (HN.out.keep hb2)
    clear s1 s2 hb2 HV HN c0
    have c3 := HN2.out.cell 3 (by decide)
    have o := HV2.out.box.cell 25
    have f := HV2.out.box.free 25
    repeat' (first | go_values | go_skip | go_guarded | go_step | go_upon)
    go_ret2
    refine ⟨0, false, rfl, .inr ⟨rfl, _, src, put, sg, tl, HV2.out.set (HV2.out.box.set25 (x 3)) rfl rfl rfl rfl, HI.out.plc _, rfl, rfl, rfl, ?_⟩⟩
    unfold nxtR
    rw [if_neg (by have := Hx0.out; omega), if_neg (by have := Hx0.out; omega), if_neg (by have := Hx0.out; omega), if_neg (by have := Hx0.out; omega), if_pos Hx0.out, Hkx.out h1.1 h1.2, ← Hr.out, ← Hb.out]
    exact ⟨rfl, by rw [if_pos ht]⟩
  · have b1 : decide (r < b) = false := decide_eq_false ht
    repeat' (go_not_at_region 15; first | go_values | go_skip | go_guarded | go_step | go_upon)
    refine wp_region_anyC (by kernel_rfl) w1 ?_
    refine tkC 0 rfl ?_
    refine tkC 1 rfl ?_
    refine tkC 2 rfl ?_
    refine tkC 3 rfl ?_
    refine tkC 4 rfl ?_
    refine tkC 5 rfl ?_
    refine genCk (fun W => Below w1.heap.size w1 W) (Below.refl _ _).drew ?_
    intro w2 hb2
    refine wpAnyC_done (by kernel_rfl) (CW.of (hb2)) (by go_simp <;> with_reducible rfl) ?_
    have HV2 := Lib.hid (HV.out.keep hb2)
    clear s1 s2 hb2 HV HN c0
    repeat' (first | go_values | go_skip | go_guarded | go_step | go_upon)
    go_ret2
    refine ⟨0, false, rfl, .inr ⟨rfl, _, src, put, sg, tl, HV2.out, HI.out, rfl, rfl, rfl, ?_⟩⟩
    unfold nxtR
    rw [if_neg (by have := Hx0.out; omega), if_neg (by have := Hx0.out; omega), if_neg (by have := Hx0.out; omega), if_neg (by have := Hx0.out; omega), if_pos Hx0.out, Hkx.out h1.1 h1.2, ← Hr.out, ← Hb.out]
    exact ⟨rfl, by rw [if_neg ht]; omega⟩
end
end Go.Proofs.Ytkpdcejnanhgoaa
/- Walks: what is paid is done (vm.run.do): the next byte, a look, marks. Conditions: the machine lies in memory. -/
namespace Go.Proofs.Ytkpdcejnanhgoaa
open Go.RowKit
section
variable {w0 w : World} {g : Nat} {p : Prg} {v : PV} {s : RS} {src put sg tl : List Int}
set_option maxRecDepth 100000 in
set_option maxHeartbeats 4000000 in
theorem do_7 (x : Nat → Int) (cell : Int) (text : ByteArray) (h : VM w0 g p v s src put sg tl w) (hi : VI p s src put sg tl) (hx : x 0 = 7) (h1 : 0 ≤ x 1 ∧ x 1 < 8) : Calls Try.prog 52 #[.pointer (some ⟨g, 0, none⟩), vI x, .int .i64 cell, .string text] w (DoPost w0 g p v s src put sg tl x) := by
  obtain ⟨wa, hwa⟩ : ∃ y, y = w.alloc (.cells (ic x) 85) := ⟨_, rfl⟩
  obtain ⟨g5, hg5⟩ : ∃ b, b = w.heap.size := ⟨_, rfl⟩
  obtain ⟨ka, hka, hand⟩ : ∃ k : Nat, k < 8 ∧ bits .and .i64 (x 1) 7 = (k : Int) := ⟨(x 1 % 8).toNat, by omega, by rw [i64_and7]; omega⟩
  have hkx : 0 ≤ x 1 → x 1 < 8 → (x 1).toNat = ka := fun a b => by rw [i64_and7] at hand; omega
  have Hkx := Lib.hid hkx
  have hkaI : (ka : Int) < 8 := by omega
  have HVa : Hid (VM w0 g p v s src put sg tl wa) := Lib.hid (by rw [hwa]; exact h.keep ((Below.refl _ _).alloc (Nat.le_refl _) _))
  have HNa : Hid (InsAt wa g5 x) := Lib.hid (by rw [hwa, hg5]; exact InsAt.new w x)
  have q1 : ∀ nq : WB wa, nq.1.cell? ⟨g5, 1, none⟩ = some (.int .i64 (x 1)) := fun nq => (HNa.out.keep nq.2).cell 1 (by decide)
  have HI := Lib.hid hi
  have Hx0 := Lib.hid hx
  clear h hi hkx hx
  go_enter Try.func52, Try.ntmps52
  repeat' (go_not_at_region 1; first | go_values | go_skip | go_guarded | go_step | go_upon)
  rw [← hwa, ← hg5]
  clear hwa hg5
  refine wp_region_anyC (by kernel_rfl) wa ?_
  refine tkC 0 rfl ?_
  refine tkC 1 rfl ?_
  refine tkC 2 rfl ?_
  refine tkC 3 rfl ?_
  refine tkC 4 rfl ?_
  refine tkC 5 rfl ?_
  refine tkC 6 rfl ?_
  refine tkC 7 rfl ?_
  refine genCk (fun W => Below wa.heap.size wa W) (Below.refl _ _).drew ?_
  intro w1 hb1
  refine wpAnyC_done (by kernel_rfl) (CW.of (hb1)) (by go_simp <;> with_reducible rfl) ?_
  have HV := Lib.hid (HVa.out.keep hb1)
  have HN := Lib.hid (HNa.out.keep hb1)
  clear q1 hb1 HVa HNa hand
  have c0 := HN.out.cell 0 (by decide)
  rw [Hx0.out] at c0
  obtain ⟨ar, cr, hvr, hcap, hcell⟩ := HV.out.osrc.rd
  have Hvr := Lib.hid hvr
  have s1 : ∀ nq : WB w1, nq.1.cell? ⟨g, 20, none⟩ = some (.slice ar src.length cr) := fun nq => by rw [← hvr]; exact (HV.out.box.keep nq.2).cell 20
  obtain ⟨hr, hhr⟩ : ∃ r, r = s.hr := ⟨_, rfl⟩
  have s2 : ∀ nq : WB w1, nq.1.cell? ⟨g, 21, none⟩ = some (.int .i64 hr) := fun nq => by rw [hhr]; exact (HV.out.box.keep nq.2).cell 21
  have hrb := HI.out.here
  have hsl := HI.out.lsrc
  rw [← hhr] at hrb
  obtain ⟨hr0, hr1⟩ := hrb
  have Hhr := Lib.hid hhr
  have Hcell := Lib.hid hcell
  clear hvr hhr hcap hcell
  by_cases ht : (src.length : Int) ≤ hr
  · have b1 : decide ((src.length : Int) ≤ hr) = true := decide_eq_true ht
    repeat' (go_not_at_region 18; first | go_values | go_skip | go_guarded | go_step | go_upon)
    refine wp_region_anyC (by kernel_rfl) w1 ?_
    refine tkC 0 rfl ?_
    refine tkC 1 rfl ?_
    refine tkC 2 rfl ?_
    refine tkC 3 rfl ?_
    refine tkC 4 rfl ?_
    refine tkC 5 rfl ?_
    refine tkC 6 rfl ?_
    refine tkC 7 rfl ?_
    refine tkC 8 rfl ?_
    refine tkC 9 rfl ?_
    refine genCk (fun W => Below w1.heap.size w1 W) (Below.refl _ _).drew ?_
    intro w2 hb2
    refine wpAnyC_done (by kernel_rfl) (CW.of (hb2)) (by go_simp <;> with_reducible rfl) ?_
    have HV2 := Lib.hid (HV.out.keep hb2)
    have HN2 := Lib.hid (HN.out.keep hb2)
    clear s1 s2 hb2 HV HN c0
    have c3 := HN2.out.cell 3 (by decide)
    have o := HV2.out.box.cell 25
    have f := HV2.out.box.free 25
    repeat' (first | go_values | go_skip | go_guarded | go_step | go_upon)
    go_ret2
    refine ⟨0, false, rfl, .inr ⟨rfl, _, src, put, sg, tl, HV2.out.set (HV2.out.box.set25 (x 3)) rfl rfl rfl rfl, HI.out.plc _, rfl, rfl, rfl, ?_⟩⟩
    unfold nxtR
    rw [if_neg (by have := Hx0.out; omega), if_neg (by have := Hx0.out; omega), if_neg (by have := Hx0.out; omega), if_neg (by have := Hx0.out; omega), if_neg (by have := Hx0.out; omega), if_pos Hx0.out]
    exact .inl ⟨rfl, rfl⟩
  · have b1 : decide ((src.length : Int) ≤ hr) = false := decide_eq_false ht
    obtain ⟨n, hn⟩ : ∃ n : Nat, hr = (n : Int) := ⟨hr.toNat, by omega⟩
    have hns : n < src.length := by omega
    rcases Hcell.out with h0 | ⟨gb, ob, rfl, hgb, hc⟩
    · rw [h0] at hns; simp at hns
    have hcn := hc n hns
    have hbr := HI.out.bsrc _ (getD_mem (d := 0) hns)
    obtain ⟨bt, hbt⟩ : ∃ b, b = src.getD n 0 := ⟨_, rfl⟩
    rw [← hbt] at hcn hbr
    obtain ⟨hbt0, hbt1⟩ := hbr
    subst hn
    have hns' : (n : Int) < (src.length : Int) := by omega
    have hwb : IntKind.i64.wrap bt = bt := wi64 (by unfold I64; omega)
    have HCn := Lib.hid hcn
    clear hc hbt Hcell ht
    repeat' (go_not_at_region 18; first | go_values | go_skip | go_guarded | go_step | go_upon)
    refine wp_region_anyC (by kernel_rfl) w1 ?_
    refine tkC 0 rfl ?_
    refine tkC 1 rfl ?_
    refine tkC 2 rfl ?_
    refine tkC 3 rfl ?_
    refine tkC 4 rfl ?_
    refine tkC 5 rfl ?_
    refine tkC 6 rfl ?_
    refine tkC 7 rfl ?_
    refine tkC 8 rfl ?_
    refine tkC 9 rfl ?_
    refine genCk (fun W => Below w1.heap.size w1 W) (Below.refl _ _).drew ?_
    intro w2 hb2
    refine wpAnyC_done (by kernel_rfl) (CW.of (hb2)) (by go_simp <;> with_reducible rfl) ?_
    have HV2 := Lib.hid (HV.out.keep hb2)
    have HN2 := Lib.hid (HN.out.keep hb2)
    have hc2 : w2.cell? ⟨gb, ob + n, none⟩ = some (.int .u8 bt) := by rw [hb2.cell hgb]; exact HCn.out
    have hgb2 : gb < w2.heap.size := Nat.lt_of_lt_of_le hgb hb2.size
    clear s1 s2 hb2 HV HN c0 HCn hcn hgb
    obtain ⟨C, hC⟩ : ∃ C : World → Prop, C = Below w2.heap.size w2 := ⟨_, rfl⟩
    have Hmk : Hid (∀ W, Below w2.heap.size w2 W → C W) := Lib.hid fun W h => by rw [hC]; exact h
    have hC' : ∀ W, C W → Below w2.heap.size w2 W := fun W h => by rw [hC] at h; exact h
    have q1 : ∀ nq : GW C, nq.1.cell? ⟨g, 20, none⟩ = some (.slice (some ⟨gb, ob, none⟩) src.length cr) := fun nq => by rw [← Hvr.out]; exact (HV2.out.box.keep (hC' _ nq.2)).cell 20
    have q2 : ∀ nq : GW C, nq.1.cell? ⟨g, 21, none⟩ = some (.int .i64 (n : Int)) := fun nq => by rw [Hhr.out]; exact (HV2.out.box.keep (hC' _ nq.2)).cell 21
    have q3 : ∀ nq : GW C, nq.1.cell? ⟨gb, ob + n, none⟩ = some (.int .u8 bt) := fun nq => by rw [(hC' _ nq.2).cell hgb2]; exact hc2
    clear hC hC' hc2
    repeat' (go_not_at_region 20; first | go_values | go_skip | go_guarded | go_step | go_upon)
    refine wp_region_anyU (by kernel_rfl) C 13 ?_
    refine tkU 0 rfl ?_
    refine tkU 1 rfl ?_
    refine tkU 2 rfl ?_
    refine tkU 3 rfl ?_
    refine tkU 4 rfl ?_
    refine tkU 5 rfl ?_
    refine tkU 6 rfl ?_
    refine tkU 7 rfl ?_
    refine tkU 8 rfl ?_
    refine tkU 9 rfl ?_
    refine tkU 10 rfl ?_
    refine tkU 11 rfl ?_
    refine tkU 12 rfl ?_
    clear q1 q2 q3
    refine genUv (fun W => Below w2.heap.size w2 W) ((Below.refl _ _).drew) ?_
    intro W0 hb0
    have HV0 := Lib.hid (HV2.out.keep hb0)
    have o := HV0.out.box.reg hka
    have f := HV0.out.box.free (10 + ka)
    refine wpAnyU_ready (CG.of (Hmk.out _ hb0)) (rs := [13]) (by kernel_rfl) (by simp) ?_
    refine (AllReadyU.cons rfl (fun K hK => ?_) AllReadyU.nil)
    go_simp
    refine hK _ _ ?_
    clear hK K
    refine genUv (fun W => VM w0 g p v { s with rg := updN s.rg ka bt } src put sg tl W) (HV0.out.set (HV0.out.box.setReg hka bt) rfl rfl rfl rfl) ?_
    clear o f HV0 hb0 HV2 HN2 Hmk
    intro W1 hv1
    have HV := Lib.hid hv1
    clear hv1
    refine wpAnyU_done (by kernel_rfl) (by kernel_rfl) (by go_simp <;> with_reducible rfl) ?_
    have c21 : W1.cell? ⟨g, 21, none⟩ = some (.int .i64 (n : Int)) := by rw [Hhr.out]; exact HV.out.box.cell 21
    have f21 := HV.out.box.free 21
    repeat' (first | go_values | go_skip | go_guarded | go_step | go_upon)
    go_ret2
    refine ⟨0, false, rfl, .inr ⟨rfl, _, src, put, sg, tl, HV.out.set (HV.out.box.set21 ((n : Int) + 1)) rfl rfl rfl rfl, (HI.out.reg ka (u := bt) (by unfold I64; omega)).hre (by omega), rfl, rfl, rfl, ?_⟩⟩
    unfold nxtR
    rw [if_neg (by have := Hx0.out; omega), if_neg (by have := Hx0.out; omega), if_neg (by have := Hx0.out; omega), if_neg (by have := Hx0.out; omega), if_neg (by have := Hx0.out; omega), if_pos Hx0.out, Hkx.out h1.1 h1.2]
    exact .inr ⟨bt, hbt0, hbt1, rfl, by dsimp only; omega⟩
set_option maxRecDepth 100000 in
set_option maxHeartbeats 4000000 in
theorem do_9 (x : Nat → Int) (cell : Int) (text : ByteArray) (h : VM w0 g p v s src put sg tl w) (hi : VI p s src put sg tl) (hx : x 0 = 9) (h1 : 0 ≤ x 1 ∧ x 1 < 2) : Calls Try.prog 52 #[.pointer (some ⟨g, 0, none⟩), vI x, .int .i64 cell, .string text] w (DoPost w0 g p v s src put sg tl x) := by
  obtain ⟨i1, e1⟩ : ∃ k : Nat, x 1 = (k : Int) := ⟨(x 1).toNat, by omega⟩
  have hi1 : i1 < 2 := by omega
  have hi1I : (i1 : Int) < 2 := by omega
  have He1 := Lib.hid e1
  clear e1
  obtain ⟨wa, hwa⟩ : ∃ y, y = w.alloc (.cells (ic x) 85) := ⟨_, rfl⟩
  obtain ⟨g5, hg5⟩ : ∃ b, b = w.heap.size := ⟨_, rfl⟩
  obtain ⟨ka, hka, hand⟩ : ∃ k : Nat, k < 8 ∧ bits .and .i64 (x 1) 7 = (k : Int) := ⟨(x 1 % 8).toNat, by omega, by rw [i64_and7]; omega⟩
  have hkx : 0 ≤ x 1 → x 1 < 8 → (x 1).toNat = ka := fun a b => by rw [i64_and7] at hand; omega
  have Hkx := Lib.hid hkx
  have hkaI : (ka : Int) < 8 := by omega
  have HVa : Hid (VM w0 g p v s src put sg tl wa) := Lib.hid (by rw [hwa]; exact h.keep ((Below.refl _ _).alloc (Nat.le_refl _) _))
  have HNa : Hid (InsAt wa g5 x) := Lib.hid (by rw [hwa, hg5]; exact InsAt.new w x)
  have q1 : ∀ nq : WB wa, nq.1.cell? ⟨g5, 1, none⟩ = some (.int .i64 (x 1)) := fun nq => (HNa.out.keep nq.2).cell 1 (by decide)
  have HI := Lib.hid hi
  have Hx0 := Lib.hid hx
  clear h hi hkx hx
  go_enter Try.func52, Try.ntmps52
  repeat' (go_not_at_region 1; first | go_values | go_skip | go_guarded | go_step | go_upon)
  rw [← hwa, ← hg5]
  clear hwa hg5
  refine wp_region_anyC (by kernel_rfl) wa ?_
  refine tkC 0 rfl ?_
  refine tkC 1 rfl ?_
  refine tkC 2 rfl ?_
  refine tkC 3 rfl ?_
  refine tkC 4 rfl ?_
  refine tkC 5 rfl ?_
  refine tkC 6 rfl ?_
  refine tkC 7 rfl ?_
  refine genCk (fun W => Below wa.heap.size wa W) (Below.refl _ _).drew ?_
  intro w1 hb1
  refine wpAnyC_done (by kernel_rfl) (CW.of (hb1)) (by go_simp <;> with_reducible rfl) ?_
  have HV := Lib.hid (HVa.out.keep hb1)
  have HN := Lib.hid (HNa.out.keep hb1)
  clear q1 hb1 HVa HNa hand
  have c0 := HN.out.cell 0 (by decide)
  rw [Hx0.out] at c0
  obtain ⟨C, hC⟩ : ∃ C : World → Prop, C = Below w1.heap.size w1 := ⟨_, rfl⟩
  have Hmk : Hid (∀ W, Below w1.heap.size w1 W → C W) := Lib.hid fun W h => by rw [hC]; exact h
  have hC' : ∀ W, C W → Below w1.heap.size w1 W := fun W h => by rw [hC] at h; exact h
  have q2 : ∀ nq : GW C, nq.1.cell? ⟨g5, 1, none⟩ = some (.int .i64 (i1 : Int)) := fun nq => by rw [← He1.out]; exact (HN.out.keep (hC' _ nq.2)).cell 1 (by decide)
  have q3 : ∀ nq : GW C, nq.1.cell? ⟨g, 21, none⟩ = some (.int .i64 s.hr) := fun nq => (HV.out.box.keep (hC' _ nq.2)).cell 21
  clear hC hC'
  repeat' (go_not_at_region 25; first | go_values | go_skip | go_guarded | go_step | go_upon)
  refine wp_region_anyU (by kernel_rfl) C 10 ?_
  refine tkU 0 rfl ?_
  refine tkU 1 rfl ?_
  refine tkU 2 rfl ?_
  refine tkU 3 rfl ?_
  refine tkU 4 rfl ?_
  refine tkU 5 rfl ?_
  refine tkU 6 rfl ?_
  refine tkP 7 rfl ?_
  refine tkP 8 rfl ?_
  refine tkP 9 rfl ?_
  clear q2 q3
  refine genUv (fun W => Below w1.heap.size w1 W) ((Below.refl _ _).drew) ?_
  intro W0 hb0
  have HV0 := Lib.hid (HV.out.keep hb0)
  have o := HV0.out.box.mark hi1
  have f := HV0.out.box.free (18 + i1)
  refine wpAnyU_ready (CG.of (Hmk.out _ hb0)) (rs := [10]) (by kernel_rfl) (by simp) ?_
  refine (AllReadyU.cons rfl (fun K hK => ?_) AllReadyU.nil)
  go_simp
  refine hK _ _ ?_
  clear hK K
  refine genUv (fun W => VM w0 g p v { s with mrk := updN s.mrk i1 s.hr } src put sg tl W) (HV0.out.set (HV0.out.box.setMk hi1 s.hr) rfl rfl rfl rfl) ?_
  clear o f HV0 hb0 HV HN c0 Hmk
  intro W1 hv1
  have HV := Lib.hid hv1
  clear hv1
  refine wpAnyU_done (by kernel_rfl) (by kernel_rfl) (by go_simp <;> with_reducible rfl) ?_
  repeat' (first | go_values | go_skip | go_guarded | go_step | go_upon)
  go_ret2
  exact ⟨0, false, rfl, .inr ⟨rfl, _, src, put, sg, tl, HV.out, HI.out.mrk' _ HI.out.here, rfl, rfl, rfl, nxt_on (.inl Hx0.out)⟩⟩
set_option maxRecDepth 100000 in
set_option maxHeartbeats 4000000 in
theorem do_10 (x : Nat → Int) (cell : Int) (text : ByteArray) (h : VM w0 g p v s src put sg tl w) (hi : VI p s src put sg tl) (hx : x 0 = 10) (h1 : 0 ≤ x 1 ∧ x 1 < 2) : Calls Try.prog 52 #[.pointer (some ⟨g, 0, none⟩), vI x, .int .i64 cell, .string text] w (DoPost w0 g p v s src put sg tl x) := by
  obtain ⟨i1, e1⟩ : ∃ k : Nat, x 1 = (k : Int) := ⟨(x 1).toNat, by omega⟩
  have hi1 : i1 < 2 := by omega
  have hi1I : (i1 : Int) < 2 := by omega
  have He1 := Lib.hid e1
  clear e1
  obtain ⟨wa, hwa⟩ : ∃ y, y = w.alloc (.cells (ic x) 85) := ⟨_, rfl⟩
  obtain ⟨g5, hg5⟩ : ∃ b, b = w.heap.size := ⟨_, rfl⟩
  obtain ⟨ka, hka, hand⟩ : ∃ k : Nat, k < 8 ∧ bits .and .i64 (x 1) 7 = (k : Int) := ⟨(x 1 % 8).toNat, by omega, by rw [i64_and7]; omega⟩
  have hkx : 0 ≤ x 1 → x 1 < 8 → (x 1).toNat = ka := fun a b => by rw [i64_and7] at hand; omega
  have Hkx := Lib.hid hkx
  have hkaI : (ka : Int) < 8 := by omega
  have HVa : Hid (VM w0 g p v s src put sg tl wa) := Lib.hid (by rw [hwa]; exact h.keep ((Below.refl _ _).alloc (Nat.le_refl _) _))
  have HNa : Hid (InsAt wa g5 x) := Lib.hid (by rw [hwa, hg5]; exact InsAt.new w x)
  have q1 : ∀ nq : WB wa, nq.1.cell? ⟨g5, 1, none⟩ = some (.int .i64 (x 1)) := fun nq => (HNa.out.keep nq.2).cell 1 (by decide)
  have HI := Lib.hid hi
  have Hx0 := Lib.hid hx
  clear h hi hkx hx
  go_enter Try.func52, Try.ntmps52
  repeat' (go_not_at_region 1; first | go_values | go_skip | go_guarded | go_step | go_upon)
  rw [← hwa, ← hg5]
  clear hwa hg5
  refine wp_region_anyC (by kernel_rfl) wa ?_
  refine tkC 0 rfl ?_
  refine tkC 1 rfl ?_
  refine tkC 2 rfl ?_
  refine tkC 3 rfl ?_
  refine tkC 4 rfl ?_
  refine tkC 5 rfl ?_
  refine tkC 6 rfl ?_
  refine tkC 7 rfl ?_
  refine genCk (fun W => Below wa.heap.size wa W) (Below.refl _ _).drew ?_
  intro w1 hb1
  refine wpAnyC_done (by kernel_rfl) (CW.of (hb1)) (by go_simp <;> with_reducible rfl) ?_
  have HV := Lib.hid (HVa.out.keep hb1)
  have HN := Lib.hid (HNa.out.keep hb1)
  clear q1 hb1 HVa HNa hand
  have c0 := HN.out.cell 0 (by decide)
  rw [Hx0.out] at c0
  obtain ⟨C, hC⟩ : ∃ C : World → Prop, C = Below w1.heap.size w1 := ⟨_, rfl⟩
  have Hmk : Hid (∀ W, Below w1.heap.size w1 W → C W) := Lib.hid fun W h => by rw [hC]; exact h
  have hC' : ∀ W, C W → Below w1.heap.size w1 W := fun W h => by rw [hC] at h; exact h
  have q2 : ∀ nq : GW C, nq.1.cell? ⟨g5, 1, none⟩ = some (.int .i64 (i1 : Int)) := fun nq => by rw [← He1.out]; exact (HN.out.keep (hC' _ nq.2)).cell 1 (by decide)
  have q3 : ∀ nq : GW C, nq.1.cell? ⟨g, 18 + i1, none⟩ = some (.int .i64 (s.mrk i1)) := fun nq => (HV.out.box.keep (hC' _ nq.2)).mark hi1
  clear hC hC'
  repeat' (go_not_at_region 27; first | go_values | go_skip | go_guarded | go_step | go_upon)
  refine wp_region_anyU (by kernel_rfl) C 10 ?_
  refine tkU 0 rfl ?_
  refine tkU 1 rfl ?_
  refine tkU 2 rfl ?_
  refine tkU 3 rfl ?_
  refine tkU 4 rfl ?_
  refine tkU 5 rfl ?_
  refine tkU 6 rfl ?_
  refine tkU 7 rfl ?_
  refine tkP 8 rfl ?_
  refine tkP 9 rfl ?_
  clear q2 q3
  refine genUv (fun W => Below w1.heap.size w1 W) ((Below.refl _ _).drew) ?_
  intro W0 hb0
  have HV0 := Lib.hid (HV.out.keep hb0)
  have o := HV0.out.box.cell 21
  have f := HV0.out.box.free 21
  refine wpAnyU_ready (CG.of (Hmk.out _ hb0)) (rs := [10]) (by kernel_rfl) (by simp) ?_
  refine (AllReadyU.cons rfl (fun K hK => ?_) AllReadyU.nil)
  go_simp
  refine hK _ _ ?_
  clear hK K
  refine genUv (fun W => VM w0 g p v { s with hr := s.mrk i1 } src put sg tl W) (HV0.out.set (HV0.out.box.set21 (s.mrk i1)) rfl rfl rfl rfl) ?_
  clear o f HV0 hb0 HV HN c0 Hmk
  intro W1 hv1
  have HV := Lib.hid hv1
  clear hv1
  refine wpAnyU_done (by kernel_rfl) (by kernel_rfl) (by go_simp <;> with_reducible rfl) ?_
  repeat' (first | go_values | go_skip | go_guarded | go_step | go_upon)
  go_ret2
  exact ⟨0, false, rfl, .inr ⟨rfl, _, src, put, sg, tl, HV.out, HI.out.hre (HI.out.mark i1 hi1), rfl, rfl, rfl, nxt_on (.inr (.inl Hx0.out))⟩⟩
set_option maxRecDepth 100000 in
set_option maxHeartbeats 4000000 in
theorem do_11 (x : Nat → Int) (cell : Int) (text : ByteArray) (h : VM w0 g p v s src put sg tl w) (hi : VI p s src put sg tl) (hx : x 0 = 11) (h1 : 0 ≤ x 1 ∧ x 1 < 2) : Calls Try.prog 52 #[.pointer (some ⟨g, 0, none⟩), vI x, .int .i64 cell, .string text] w (DoPost w0 g p v s src put sg tl x) := by
  obtain ⟨i1, e1⟩ : ∃ k : Nat, x 1 = (k : Int) := ⟨(x 1).toNat, by omega⟩
  have hi1 : i1 < 2 := by omega
  have hi1I : (i1 : Int) < 2 := by omega
  have He1 := Lib.hid e1
  clear e1
  obtain ⟨wa, hwa⟩ : ∃ y, y = w.alloc (.cells (ic x) 85) := ⟨_, rfl⟩
  obtain ⟨g5, hg5⟩ : ∃ b, b = w.heap.size := ⟨_, rfl⟩
  obtain ⟨ka, hka, hand⟩ : ∃ k : Nat, k < 8 ∧ bits .and .i64 (x 1) 7 = (k : Int) := ⟨(x 1 % 8).toNat, by omega, by rw [i64_and7]; omega⟩
  have hkx : 0 ≤ x 1 → x 1 < 8 → (x 1).toNat = ka := fun a b => by rw [i64_and7] at hand; omega
  have Hkx := Lib.hid hkx
  have hkaI : (ka : Int) < 8 := by omega
  have HVa : Hid (VM w0 g p v s src put sg tl wa) := Lib.hid (by rw [hwa]; exact h.keep ((Below.refl _ _).alloc (Nat.le_refl _) _))
  have HNa : Hid (InsAt wa g5 x) := Lib.hid (by rw [hwa, hg5]; exact InsAt.new w x)
  have q1 : ∀ nq : WB wa, nq.1.cell? ⟨g5, 1, none⟩ = some (.int .i64 (x 1)) := fun nq => (HNa.out.keep nq.2).cell 1 (by decide)
  have HI := Lib.hid hi
  have Hx0 := Lib.hid hx
  clear h hi hkx hx
  go_enter Try.func52, Try.ntmps52
  repeat' (go_not_at_region 1; first | go_values | go_skip | go_guarded | go_step | go_upon)
  rw [← hwa, ← hg5]
  clear hwa hg5
  refine wp_region_anyC (by kernel_rfl) wa ?_
  refine tkC 0 rfl ?_
  refine tkC 1 rfl ?_
  refine tkC 2 rfl ?_
  refine tkC 3 rfl ?_
  refine tkC 4 rfl ?_
  refine tkC 5 rfl ?_
  refine tkC 6 rfl ?_
  refine tkC 7 rfl ?_
  refine genCk (fun W => Below wa.heap.size wa W) (Below.refl _ _).drew ?_
  intro w1 hb1
  refine wpAnyC_done (by kernel_rfl) (CW.of (hb1)) (by go_simp <;> with_reducible rfl) ?_
  have HV := Lib.hid (HVa.out.keep hb1)
  have HN := Lib.hid (HNa.out.keep hb1)
  clear q1 hb1 HVa HNa hand
  have c0 := HN.out.cell 0 (by decide)
  rw [Hx0.out] at c0
  obtain ⟨r, hr⟩ : ∃ r, r = s.hr := ⟨_, rfl⟩
  obtain ⟨b, hb⟩ : ∃ b, b = s.mrk i1 := ⟨_, rfl⟩
  have s1 : ∀ nq : WB w1, nq.1.cell? ⟨g5, 1, none⟩ = some (.int .i64 (i1 : Int)) := fun nq => by rw [← He1.out]; exact (HN.out.keep nq.2).cell 1 (by decide)
  have s2 : ∀ nq : WB w1, nq.1.cell? ⟨g, 18 + i1, none⟩ = some (.int .i64 b) := fun nq => by rw [hb]; exact (HV.out.box.keep nq.2).mark hi1
  have s3 : ∀ nq : WB w1, nq.1.cell? ⟨g, 21, none⟩ = some (.int .i64 r) := fun nq => by rw [hr]; exact (HV.out.box.keep nq.2).cell 21
  clear hr hb
  have nx : ∀ i' : Int, i' = x 3 ∨ i' = s.pl - 1 + 1 → nxtR p x s.rg s.rg (s.pl - 1) i' := fun i' h => by
    unfold nxtR
    rw [if_neg (by have := Hx0.out; omega), if_neg (by have := Hx0.out; omega), if_neg (by have := Hx0.out; omega), if_neg (by have := Hx0.out; omega), if_neg (by have := Hx0.out; omega), if_neg (by have := Hx0.out; omega), if_neg (by have := Hx0.out; omega), if_pos Hx0.out]
    exact ⟨rfl, h⟩
  have Hnx := Lib.hid nx
  clear nx
  by_cases ht : r = b
  · have b1 : (r == b) = true := by rw [beq_iff_eq]; exact ht
    repeat' (go_not_at_region 29; first | go_values | go_skip | go_guarded | go_step | go_upon)
    refine wp_region_anyC (by kernel_rfl) w1 ?_
    refine tkC 0 rfl ?_
    refine tkC 1 rfl ?_
    refine tkC 2 rfl ?_
    refine tkC 3 rfl ?_
    refine tkC 4 rfl ?_
    refine tkC 5 rfl ?_
    refine tkC 6 rfl ?_
    refine tkC 7 rfl ?_
    refine tkC 8 rfl ?_
    refine tkC 9 rfl ?_
    refine tkC 10 rfl ?_
    refine tkC 11 rfl ?_
    refine genCk (fun W => Below w1.heap.size w1 W) (Below.refl _ _).drew ?_
    intro w2 hb2
    refine wpAnyC_done (by kernel_rfl) (CW.of (hb2)) (by go_simp <;> with_reducible rfl) ?_
    have HV2 := Lib.hid (HV.out.keep hb2)
    have HN2 := Lib.hid (HN.out.keep hb2)
    clear s1 s2 s3 hb2 HV HN c0
    have c3 := HN2.out.cell 3 (by decide)
    have o := HV2.out.box.cell 25
    have f := HV2.out.box.free 25
    repeat' (first | go_values | go_skip | go_guarded | go_step | go_upon)
    go_ret2
    exact ⟨0, false, rfl, .inr ⟨rfl, _, src, put, sg, tl, HV2.out.set (HV2.out.box.set25 (x 3)) rfl rfl rfl rfl, HI.out.plc _, rfl, rfl, rfl, Hnx.out _ (.inl rfl)⟩⟩
  · have b1 : (r == b) = false := beq_false_of_ne ht
    repeat' (go_not_at_region 29; first | go_values | go_skip | go_guarded | go_step | go_upon)
    refine wp_region_anyC (by kernel_rfl) w1 ?_
    refine tkC 0 rfl ?_
    refine tkC 1 rfl ?_
    refine tkC 2 rfl ?_
    refine tkC 3 rfl ?_
    refine tkC 4 rfl ?_
    refine tkC 5 rfl ?_
    refine tkC 6 rfl ?_
    refine tkC 7 rfl ?_
    refine tkC 8 rfl ?_
    refine tkC 9 rfl ?_
    refine tkC 10 rfl ?_
    refine tkC 11 rfl ?_
    refine genCk (fun W => Below w1.heap.size w1 W) (Below.refl _ _).drew ?_
    intro w2 hb2
    refine wpAnyC_done (by kernel_rfl) (CW.of (hb2)) (by go_simp <;> with_reducible rfl) ?_
    have HV2 := Lib.hid (HV.out.keep hb2)
    clear s1 s2 s3 hb2 HV HN c0
    repeat' (first | go_values | go_skip | go_guarded | go_step | go_upon)
    go_ret2
    exact ⟨0, false, rfl, .inr ⟨rfl, _, src, put, sg, tl, HV2.out, HI.out, rfl, rfl, rfl, Hnx.out _ (.inr (by omega))⟩⟩
end
end Go.Proofs.Ytkpdcejnanhgoaa
/- What is paid is done, for any instruction (vm.run.do). Conditions: the machine lies in memory; the instruction does not fault. -/
namespace Go.Proofs.Ytkpdcejnanhgoaa
open Go.RowKit
/-- what has been asked ahead of doing an instruction -/
structure DoPre (p : Prg) (s : RS) (put sg tl : List Int) (x : Nat → Int) (cell : Int) (text : List UInt8) : Prop where
  fit : fitB x = true
  look : x 0 = 8 → (0 ≤ x 4 ∧ x 4 < p.tabs.length) ∧ ∃ n : Nat, cell = n ∧ n < (tabD p x).2.length
  copy : x 0 = 12 → (0 ≤ s.rg (x 1).toNat ∧ s.rg (x 1).toNat < 256) ∧ put.length < 262144
  text : x 0 = 13 → put.length + text.length ≤ 262144
  sign : x 0 = 15 → (0 ≤ s.rg (x 1).toNat ∧ s.rg (x 1).toNat < min p.signs 65536) ∧ sg.length < 262144
  emit : x 0 = 17 → (tl.length : Int) < s.room
theorem fit_a {x : Nat → Int} (h : fitB x = true) (ho : x 0 = 3 ∨ x 0 = 8 ∨ x 0 = 13 ∨ x 0 = 2 ∨ x 0 = 5 ∨ x 0 = 6 ∨ x 0 = 7 ∨ x 0 = 12 ∨ x 0 = 15 ∨ x 0 = 17) : 0 ≤ x 1 ∧ x 1 < 8 := by
  unfold fitB at h
  rw [if_neg (by omega), if_neg (by omega)] at h
  split at h
  · rw [Bool.and_eq_true, decide_eq_true_eq, decide_eq_true_eq] at h; exact h.2
  · rw [if_pos (by omega)] at h; exact of_decide_eq_true h
theorem fit_b {x : Nat → Int} (h : fitB x = true) (ho : x 0 = 3 ∨ x 0 = 8 ∨ x 0 = 13) : 0 ≤ x 2 ∧ x 2 < 8 := by
  unfold fitB at h
  rw [if_neg (by omega), if_neg (by omega), if_pos ho, Bool.and_eq_true, decide_eq_true_eq, decide_eq_true_eq] at h
  exact h.1
theorem fit_m {x : Nat → Int} (h : fitB x = true) (ho : x 0 = 9 ∨ x 0 = 10 ∨ x 0 = 11) : 0 ≤ x 1 ∧ x 1 < 2 := by
  unfold fitB at h
  rw [if_neg (by omega), if_pos ho] at h
  exact of_decide_eq_true h
theorem fit_o {x : Nat → Int} (h : fitB x = true) : 1 ≤ x 0 ∧ x 0 ≤ 17 := by
  rcases Classical.em (1 ≤ x 0 ∧ x 0 ≤ 17) with h' | h'
  · exact h'
  · unfold fitB at h
    rw [if_neg (by omega), if_neg (by omega), if_neg (by omega), if_neg (by omega)] at h
    cases h
theorem tab64 {p : Prg} (h : P64 p) (x : Nat → Int) (hx : 0 ≤ x 4 ∧ x 4 < p.tabs.length) : ∀ d ∈ (tabD p x).2, I64 d := by
  have hk : (x 4).toNat < p.tabs.length := by omega
  unfold tabD
  rw [List.getD_eq_getElem?_getD, List.getElem?_eq_getElem hk]
  exact h.2 _ (List.getElem_mem hk)
theorem vm_do {w0 w : World} {g : Nat} {p : Prg} {v : PV} {s : RS} {src put sg tl : List Int} (x : Nat → Int) (cell : Int) (text : List UInt8) (h : VM w0 g p v s src put sg tl w) (hi : VI p s src put sg tl) (hd : DoPre p s put sg tl x cell text)
    (h64 : P64 p) (hx64 : ∀ j, j < 5 → I64 (x j)) (hk : p.hash.keys.length ≤ 35184372088832) :
    Calls Try.prog 52 #[.pointer (some ⟨g, 0, none⟩), vI x, .int .i64 cell, .string ⟨text.toArray⟩] w (DoPost w0 g p v s src put sg tl x) := by
  have hf := hd.fit
  rcases fit_cases x with hx | hx | hx | hx | hx | hx | hx | hx | hx | hx | hx | hx | hx | hx | hx | hx | hx | hx
  · exact do_1 x cell _ h hi hx
  · exact do_2 x cell _ h hi hx (fit_a hf (by omega)) (hx64 2 (by decide))
  · exact do_3 x cell _ h hi hx (fit_a hf (by omega)) (fit_b hf (by omega))
  · exact do_4 x cell _ h hi hx
  · exact do_5 x cell _ h hi hx (fit_a hf (by omega))
  · exact do_6 x cell _ h hi hx (fit_a hf (by omega))
  · exact do_7 x cell _ h hi hx (fit_a hf (by omega))
  · obtain ⟨h4, n, hn, hnl⟩ := hd.look hx
    exact do_8 x cell _ h hi hx (fit_a hf (by omega)) h4 n hn hnl (tab64 h64 x h4)
  · exact do_9 x cell _ h hi hx (fit_m hf (by omega))
  · exact do_10 x cell _ h hi hx (fit_m hf (by omega))
  · exact do_11 x cell _ h hi hx (fit_m hf (by omega))
  · obtain ⟨h2, h3⟩ := hd.copy hx
    exact do_12 x cell _ h hi hx (fit_a hf (by omega)) h2 h3
  · exact do_13 x cell text h hi hx (hd.text hx)
  · exact do_14 x cell _ h hi hx
  · obtain ⟨h2, h3⟩ := hd.sign hx
    exact do_15 x cell _ h hi hx (fit_a hf (by omega)) h2 h3
  · exact do_16 x cell _ h hi hx hk
  · exact do_17 x cell _ h hi hx (fit_a hf (by omega)) (hd.emit hx)
  · exact absurd (fit_o hf) hx
end Go.Proofs.Ytkpdcejnanhgoaa
/- Plain laws: a program that is OK has numbers that are ints; it is at no fault; what a check tells (P23.3). No conditions; no program. -/
namespace Go.Proofs.Ytkpdcejnanhgoaa
open Go.RowKit
theorem whole_p64 {p : Prg} (h : Whole p) : P64 p := by
  constructor
  · intro x hx j hj
    obtain ⟨i, hi, rfl⟩ := List.getElem_of_mem hx
    have hok := (h.at' (List.getElem?_eq_getElem hi)).1
    generalize p.code[i] = x at hok
    unfold I64
    rcases (by omega : j = 0 ∨ (1 ≤ j ∧ j ≤ 4)) with rfl | hj'
    · have := okI_op hok; omega
    · rcases okI_fld hok j hj' with ⟨y, hy, _, h1, h2⟩ | h0
      · have := mst_le y; omega
      · omega
  · intro t ht d hd
    have hd' := (data_iff p).1 h.data
    have := List.all_eq_true.1 hd'.2.2.2.2.2.1 t ht
    have := List.all_eq_true.1 (tab_open this).2 d hd
    unfold numOk at this
    simp only [Bool.and_eq_true, decide_eq_true_eq] at this
    unfold I64; omega
theorem whole_keys {p : Prg} (h : Whole p) : p.hash.keys.length ≤ 35184372088832 := by
  have := ((data_iff p).1 h.data).2.2.2.2.1
  unfold hokI at this
  simp only [Bool.and_eq_true, decide_eq_true_eq] at this
  omega
theorem whole_small {p : Prg} (h : Whole p) : (0 ≤ p.grow ∧ p.grow ≤ 1048576) ∧ (0 ≤ p.rest ∧ p.rest ≤ 1048576) ∧ (0 ≤ p.extra ∧ p.extra ≤ 1048576) := by
  obtain ⟨h1, h2, h3, _⟩ := (data_iff p).1 h.data
  unfold smallN at h1 h2 h3
  simp only [Bool.and_eq_true, decide_eq_true_eq] at h1 h2 h3
  exact ⟨h1, h2, h3⟩
theorem check_zero {p : Prg} (h : (checkI p).1 = 0) : checkI p = (0, 0) := by
  rcases Classical.em ((shapeI p).1 = 0) with h' | h'
  · unfold checkI at h ⊢
    rw [if_pos h'] at h ⊢
    rcases wrong_cases p (solP p) with e | ⟨k, _, e⟩
    · exact e
    · rw [e] at h; simp at h
  · rw [check_shape h'] at h; exact absurd h h'
theorem check_whole0 {p : Prg} (h : checkI p = (0, 0)) : Whole p := (ok_open h).1
theorem shape_place (p : Prg) : -1 ≤ (shapeI p).2 ∧ ((shapeI p).2 < p.code.length ∨ (shapeI p).2 < 1) := by
  unfold shapeI
  split
  · dsimp only; omega
  split
  · dsimp only; omega
  split
  · rename_i i hi
    have := List.mem_range.1 (List.mem_of_find?_eq_some hi)
    dsimp only; omega
  split
  · rename_i i hi
    have := List.mem_range.1 (List.mem_of_find?_eq_some hi)
    dsimp only; omega
  split
  · dsimp only; omega
  · dsimp only; omega
theorem check_place (p : Prg) : -1 ≤ (checkI p).2 ∧ ((checkI p).2 < p.code.length ∨ (checkI p).2 < 1) := by
  rcases Classical.em ((shapeI p).1 = 0) with h' | h'
  · unfold checkI
    rw [if_pos h']
    rcases wrong_cases p (solP p) with e | ⟨k, hk, e⟩
    · rw [e]; dsimp only; omega
    · rw [e]; dsimp only; omega
  · rw [check_shape h']; exact shape_place p
theorem hash_signs {p : Prg} (h : Whole p) : ∀ u ∈ p.hash.vals, ((u % 4294967296 : Nat) : Int) < sgnI p.signs := by
  obtain ⟨_, _, _, hl, _, _, _, hv⟩ := (data_iff p).1 h.data
  intro u hu
  have := List.all_eq_true.1 hv u hu
  unfold valOk at this
  rw [decide_eq_true_eq] at this
  unfold linOk at hl
  unfold sgnI; omega
end Go.Proofs.Ytkpdcejnanhgoaa
