/- Walks: a class by a letter (kind), the set of one byte (one). Conditions: a text of at most 512 bytes; a place within it. -/
import Derived.Test.YtonkenlkigfeoaaDoorPk27
import Derived.Test.YtonkenlkigfeoaaDoorPk11
import Derived.Test.YtonkenlkigfeoaaDoorPk14
namespace Go.Proofs.YtonkenlkigfeoaaDoor
open Go.RowKit Go.Lib
theorem of_one (c : Nat) (hc : c < 256) : ofL [u8 c] = oneB c := by
 funext b
 unfold ofL oneB; simp only [List.any_cons, List.any_nil, Bool.or_false]; rw [u8_toNat_lt hc]
theorem k_dig (W : World) : Calls Tryd.prog 88 #[.int .u8 48, .int .u8 57] W fun e w' => e = .returned (vS (rngB 48 57)) ∧ Below W.heap.size W w' := set_Range 48 57 (by omega) (by omega) W
theorem k_upp (W : World) : Calls Tryd.prog 88 #[.int .u8 65, .int .u8 90] W fun e w' => e = .returned (vS (rngB 65 90)) ∧ Below W.heap.size W w' := set_Range 65 90 (by omega) (by omega) W
theorem k_low (W : World) : Calls Tryd.prog 88 #[.int .u8 97, .int .u8 122] W fun e w' => e = .returned (vS (rngB 97 122)) ∧ Below W.heap.size W w' := set_Range 97 122 (by omega) (by omega) W
theorem k_spc (W : World) : Calls Tryd.prog 88 #[.int .u8 9, .int .u8 13] W fun e w' => e = .returned (vS (rngB 9 13)) ∧ Below W.heap.size W w' := set_Range 9 13 (by omega) (by omega) W
theorem k_of (c : Nat) (hc : c < 256) (W : World) : Calls Tryd.prog 81 #[.string ⟨#[u8 c]⟩] W fun e w' => e = .returned (vS (oneB c)) ∧ Below W.heap.size W w' := by
 have h := set_Of ⟨#[u8 c]⟩ (by show 1 ≤ _; omega) W; rw [show (⟨#[u8 c]⟩ : ByteArray).data.toList = [u8 c] from rfl, of_one c hc] at h; exact h
theorem k_und (W : World) : Calls Tryd.prog 81 #[.string ⟨#[95]⟩] W fun e w' => e = .returned (vS (oneB 95)) ∧ Below W.heap.size W w' := k_of 95 (by omega) W
theorem k_sp (W : World) : Calls Tryd.prog 81 #[.string ⟨#[32]⟩] W fun e w' => e = .returned (vS (oneB 32)) ∧ Below W.heap.size W w' := k_of 32 (by omega) W
theorem k_ln (W : World) : Calls Tryd.prog 81 #[.string ⟨#[10]⟩] W fun e w' => e = .returned (vS (oneB 10)) ∧ Below W.heap.size W w' := k_of 10 (by omega) W
theorem k_join (p q : Nat → Bool) (W : World) : Calls Tryd.prog 86 #[vS p, vS q] W fun e w' => e = .returned (vS (orB p q)) ∧ Below W.heap.size W w' := set_Join p q W
theorem k_not (p : Nat → Bool) (W : World) : Calls Tryd.prog 80 #[vS p] W fun e w' => e = .returned (vS (notB p)) ∧ Below W.heap.size W w' := set_Not p W
theorem results_set_tmp {fn : Func} {p' q' : Tmp} (h : fn.results = #[.cell p' 30, .tmp q']) (tmps : Array Value) (w : World) (g : Nat) (p : Nat → Bool) (hp : tmps.getD p' undef = .pointer (some ⟨g, 0, none⟩)) (hs : SetAt w g p) :
   (results fn tmps).run Tryd.prog w = .ok (.tuple #[vS p, tmps.getD q' undef]) w := by
 have hp' : tmps[p']?.getD undef = .pointer (some ⟨g, 0, none⟩) := by simpa using hp
 simp [results, h, hp', asAddr, run_loadVar_row w g 30 30 (sc p) (0, 0) _ hs Tryd.underlying30 rfl (by rw [sc_size]; exact info_set)]
/-- what 'kind' tells -/
def KPost (g : Nat) (S : ByteArray) (i d : Nat) (w : World) (x : Option (Nat → Bool)) (e : Ending) (w' : World) : Prop :=
 match x with
 | some p => e = .returned (.tuple #[vS p, .bool true]) ∧ PsAt w' g S (i + 1) d ∧ Else g w w'
 | none => e = .returned (.tuple #[vS (fun _ => false), .bool false]) ∧ PsAt w' g S i d ∧ Else g w w'
theorem KPost.someI {g : Nat} {S : ByteArray} {i d : Nat} {w : World} {x : Option (Nat → Bool)} {e : Ending} {w' : World} {p : Nat → Bool} (hx : x = some p) (h : e = .returned (.tuple #[vS p, .bool true]) ∧ PsAt w' g S (i + 1) d ∧ Else g w w') : KPost g S i d w x e w' := by subst hx; exact h
theorem KPost.noneI {g : Nat} {S : ByteArray} {i d : Nat} {w : World} {x : Option (Nat → Bool)} {e : Ending} {w' : World} (hx : x = none) (h : e = .returned (.tuple #[vS (fun _ => false), .bool false]) ∧ PsAt w' g S i d ∧ Else g w w') : KPost g S i d w x e w' := by subst hx; exact h
/-- the two sets' boxes, the parser, all else as it was -/
structure KW (w : World) (B g b4 : Nat) (S : ByteArray) (i d : Nat) (p : Nat → Bool) (W : World) : Prop where
 s2 : SetAt W B (fun _ => false)
 s4 : SetAt W b4 p
 ps : PsAt W g S i d
 els : Below B w W
 lt : g < B ∧ B < b4
 sz : w.heap.size = B
theorem KW.keep {w W W' : World} {B g b4 : Nat} {S : ByteArray} {i d : Nat} {p : Nat → Bool} (h : KW w B g b4 S i d p W) (hb : Below W.heap.size W W') : KW w B g b4 S i d p W' :=
 ⟨h.s2.keep hb, h.s4.keep hb, h.ps.keep hb, h.els.trans (hb.mono (by have := h.s4.lt; have := h.lt.2; omega)), h.lt, h.sz⟩
theorem KW.put {w W : World} {B g b4 : Nat} {S : ByteArray} {i d : Nat} {p : Nat → Bool} (h : KW w B g b4 S i d p W) (q : Nat → Bool) : KW w B g b4 S i d q (W.setRow b4 (sc q)) :=
 ⟨h.s2.other (by have := h.lt; omega), h.s4.set, by unfold PsAt; rw [setRow_other _ _ _ _ (by have := h.lt; omega)]; exact h.ps, Below.row h.els (by have := h.lt; omega) _, h.lt, h.sz⟩
theorem KW.new {w W : World} {B g : Nat} {S : ByteArray} {i d : Nat} (hs : SetAt W B (fun _ => false)) (hp : PsAt W g S i d) (hb : Below B w W) (hg : g < B) (hz : w.heap.size = B) : KW w B g W.heap.size S i d (fun _ => false) (W.alloc (.cells #[.int .u64 0, .int .u64 0, .int .u64 0, .int .u64 0] 30)) :=
 ⟨hs.keep ((Below.refl _ _).alloc (Nat.le_refl _) _), SetAt.zero W, hp.keep ((Below.refl _ _).alloc (Nat.le_refl _) _), hb.trans (((Below.refl _ W).alloc (Nat.le_refl _) _).mono (Nat.le_of_lt hs.lt)), ⟨hg, hs.lt⟩, hz⟩
theorem KW.done {w W : World} {B g b4 : Nat} {S : ByteArray} {i d j : Nat} {p : Nat → Bool} (h : KW w B g b4 S i d p W) : SetAt ((W.setCell ⟨g, 1, none⟩ (.int .i64 (j : Int))).setRow B (sc p)) B p ∧ PsAt ((W.setCell ⟨g, 1, none⟩ (.int .i64 (j : Int))).setRow B (sc p)) g S j d ∧ Else g w ((W.setCell ⟨g, 1, none⟩ (.int .i64 (j : Int))).setRow B (sc p)) := by
 have hgB := h.lt; have h1 : SetAt (W.setCell ⟨g, 1, none⟩ (.int .i64 (j : Int))) B (fun _ => false) := h.s2.cellOther (by omega); refine ⟨h1.set, by unfold PsAt; rw [setRow_other _ _ _ _ (by omega)]; exact h.ps.set1 j, ?_⟩; have he : Else g w (W.setCell ⟨g, 1, none⟩ (.int .i64 (j : Int))) := (Else.of_below (by rw [h.sz]; exact h.els)).setCell _ _; exact ⟨he.os, he.tape, he.output, by simpa using he.size, fun k hk hne => by rw [setRow_other _ _ _ _ (by have := h.sz; omega)]; exact he.block k hk hne⟩
theorem vS_none : vS (fun _ => false) = .agg #[.int .u64 0, .int .u64 0, .int .u64 0, .int .u64 0] := by unfold vS; simp [W_none]
theorem store_set0 {o : Oper} {a : Act} {w : World} {K : Act → World → Prop} {Q : Exit → Act → World → Prop} {g : Nat} {p : Nat → Bool} (hs : SetAt w g p) (x y : Operand) (ho : o.op = .store 30 x y)
   (hx : a.eval x = .pointer (some ⟨g, 0, none⟩)) (hy : a.eval y = .agg #[.int .u64 0, .int .u64 0, .int .u64 0, .int .u64 0]) (h : K (a.put o.dst undef) (w.setRow g (sc fun _ => false))) : o.wp Tryd.prog a w K Q :=
 store_set1 hs _ x y ho hx (hy.trans vS_none.symm) h
theorem KW.none {w W : World} {B g b4 : Nat} {S : ByteArray} {i d : Nat} {p : Nat → Bool} (h : KW w B g b4 S i d p W) : SetAt (W.setRow B (sc fun _ => false)) B (fun _ => false) ∧ PsAt (W.setRow B (sc fun _ => false)) g S i d ∧ Else g w (W.setRow B (sc fun _ => false)) := by
 have hgB := h.lt; refine ⟨h.s2.set, by unfold PsAt; rw [setRow_other _ _ _ _ (by omega)]; exact h.ps, ?_⟩; have he : Else g w W := Else.of_below (by rw [h.sz]; exact h.els); exact ⟨he.os, he.tape, he.output, by simpa using he.size, fun k hk hne => by rw [setRow_other _ _ _ _ (by have := h.sz; omega)]; exact he.block k hk hne⟩
set_option maxRecDepth 100000 in
theorem or_some : ∀ c : Fin 256, (c.val ≠ 100 ∧ c.val ≠ 68 ∧ c.val ≠ 119 ∧ c.val ≠ 87 ∧ c.val ≠ 115 ∧ c.val ≠ 83) → bits .or .u8 (c.val : Int) 32 ≠ 100 ∧ bits .or .u8 (c.val : Int) 32 ≠ 119 ∧ bits .or .u8 (c.val : Int) 32 ≠ 115 := by decide
set_option maxRecDepth 100000 in
set_option maxHeartbeats 4000000 in
theorem ps_kind (g : Nat) (S : ByteArray) (i d : Nat) (hi : i ≤ 512) (w : World) (h : PsAt w g S i d) :
   Calls Tryd.prog 82 #[.pointer (some ⟨g, 0, none⟩)] w (KPost g S i d w (kndR S.data.toList i)) := by
 obtain ⟨X, hX⟩ : ∃ X, kndR S.data.toList i = X := ⟨_, rfl⟩; rw [hX]; unfold kndR at hX; rw [ba_len] at hX; have HA : Hid (SetAt (w.alloc (.cells #[.int .u64 0, .int .u64 0, .int .u64 0, .int .u64 0] 30)) w.heap.size (fun _ => false) ∧ PsAt (w.alloc (.cells #[.int .u64 0, .int .u64 0, .int .u64 0, .int .u64 0] 30)) g S i d ∧ Below w.heap.size w (w.alloc (.cells #[.int .u64 0, .int .u64 0, .int .u64 0, .int .u64 0] 30)) ∧ g < w.heap.size) :=
   Lib.hid ⟨SetAt.zero w, h.keep ((Below.refl _ _).alloc (Nat.le_refl _) _), (Below.refl _ _).alloc (Nat.le_refl _) _, h.lt⟩
 clear h
 by_cases hlt : i < S.size
 · have hlt' : ¬ (i : Int) ≥ S.size := by omega
   rw [if_pos hlt] at hX; have hx := byte_is S i hlt; have hb := bt_lt S.data.toList i; generalize bt S.data.toList i = x at hx hX hb; have hw : IntKind.i64.wrap ((i : Int) + 1) = ((i + 1 : Nat) : Int) := by rw [wi64 (by unfold I64; omega)]; omega
   obtain ⟨j, hj⟩ : ∃ j, i + 1 = j := ⟨_, rfl⟩; rw [hj] at hw; have HJ := Lib.hid hj; clear hj hi hlt; unfold kndC at hX
   by_cases hn : x = 100
   · rw [if_pos hn] at hX; subst hn; have HX := Lib.hid hX.symm; clear hX hb; have hor : bits .or .u8 (100 : Int) 32 = 100 := by decide
     go_enter Tryd.func82, Tryd.ntmps82; wkk; generalize hB : w.heap.size = B at HA ⊢; refine gen_wd (fun W => SetAt W B (fun _ => false) ∧ PsAt W g S i d ∧ Below B w W ∧ g < B) HA.out ?_; clear HA; rintro w1 ⟨hs, hp, hb, hz⟩; have HS := Lib.hid hs; have HP := Lib.hid hp; have HB := Lib.hid hb; have Hz := Lib.hid hz; have H2 := Lib.hid hB; clear hs hp hb hz hB; have q0 : ∀ nq : WB w1, nq.1.cell? ⟨g, 0, none⟩ = some (.string S) := fun nq => (HP.out.keep nq.2).c0
     have q1 : ∀ nq : WB w1, nq.1.cell? ⟨g, 1, none⟩ = some (.int .i64 (i : Int)) := fun nq => (HP.out.keep nq.2).c1
     refine wp_region_wb (by kernel_rfl) (by kernel_rfl) w1 (Below.refl _ _) ?_
     repeat (go_big_quiet_step ((fail)))
     refine wpQuiet_nil ?_; rintro _ ⟨nq, rfl⟩; have hnq := nq.2; have HK : Hid (KW w B g nq.1.heap.size S i d (fun _ => false) (nq.1.alloc (.cells #[.int .u64 0, .int .u64 0, .int .u64 0, .int .u64 0] 30))) := Lib.hid (KW.new (HS.out.keep hnq) (HP.out.keep hnq) (HB.out.trans (hnq.mono (by have := HS.out.lt; omega))) Hz.out H2.out); clear q0 q1 hnq HS HB HP Hz H2; wkk; generalize nq.1.heap.size = b4 at HK ⊢; refine gen_wd (fun W => KW w B g b4 S i d (fun _ => false) W) HK.out ?_; clear HK; rintro w2 hk; have HW := Lib.hid hk; clear hk
     have q0 : ∀ nq : WB w2, nq.1.cell? ⟨g, 0, none⟩ = some (.string S) := fun nq => (HW.out.keep nq.2).ps.c0
     have q1 : ∀ nq : WB w2, nq.1.cell? ⟨g, 1, none⟩ = some (.int .i64 (i : Int)) := fun nq => (HW.out.keep nq.2).ps.c1
     refine wp_region_wb (by kernel_rfl) (by kernel_rfl) w2 (Below.refl _ _) ?_
     repeat (go_big_quiet_step (fail))
     refine wpQuiet_nil ?_; rintro _ ⟨nr, rfl⟩; have HV := Lib.hid (HW.out.keep nr.2); clear q0 q1 HW; wkk; refine Calls.mono ((k_dig _)) ?_; rintro _ wc ⟨rfl, hbc⟩; dsimp only; have HV := Lib.hid (HV.out.keep hbc); clear hbc; wkka (first | (with_reducible refine store_set1 HV.out.s4 _ _ _ rfl rfl rfl ?_; dsimp only [Act.put])); have HV2 := Lib.hid (HV.out.put (rngB 48 57)); refine gen_wd (fun W => KW w B g b4 S i d (rngB 48 57) W) HV2.out ?_; clear HV HV2; rintro w3 hk; have HW := Lib.hid hk; clear hk; wkk
     have q0 : ∀ nq : WB w3, nq.1.cell? ⟨g, 0, none⟩ = some (.string S) := fun nq => (HW.out.keep nq.2).ps.c0
     have q1 : ∀ nq : WB w3, nq.1.cell? ⟨g, 1, none⟩ = some (.int .i64 (i : Int)) := fun nq => (HW.out.keep nq.2).ps.c1
     refine wp_region_wb (by kernel_rfl) (by kernel_rfl) w3 (Below.refl _ _) ?_
     repeat (go_big_quiet_step (fail))
     refine wpQuiet_nil ?_; rintro _ ⟨nt, rfl⟩; have HV := Lib.hid (HW.out.keep nt.2); clear q0 q1 HW; have c1 := HV.out.ps.c1; have f1 := HV.out.ps.free 1; have HL := Lib.hid (show SetAt (World.setCell nt.1 ⟨g, 1, none⟩ (.int .i64 (j : Int))) b4 (rngB 48 57) from HV.out.s4.cellOther (by have := HV.out.lt; omega)); have HM := Lib.hid (show SetAt (World.setCell nt.1 ⟨g, 1, none⟩ (.int .i64 (j : Int))) B (fun _ => false) from HV.out.s2.cellOther (by have := HV.out.lt; omega)); have HD := Lib.hid (HV.out.done (j := j))
     wkka (first | (fail) | (with_reducible refine load_set1 HL.out _ rfl rfl ?_; dsimp only [Act.put]) | (with_reducible refine store_set1 HM.out _ _ _ rfl rfl rfl ?_; dsimp only [Act.put])); refine bodyPost_ret (results_set_tmp rfl _ _ _ _ rfl HD.out.1) rfl ?_; exact KPost.someI HX.out ⟨rfl, by rw [HJ.out]; exact HD.out.2.1, HD.out.2.2⟩
   rw [if_neg hn] at hX; have n100 := Lib.hid hn; clear hn
   by_cases hn : x = 68
   · rw [if_pos hn] at hX; subst hn; have HX := Lib.hid hX.symm; clear hX hb; have hor : bits .or .u8 (68 : Int) 32 = 100 := by decide
     go_enter Tryd.func82, Tryd.ntmps82; wkk; generalize hB : w.heap.size = B at HA ⊢; refine gen_wd (fun W => SetAt W B (fun _ => false) ∧ PsAt W g S i d ∧ Below B w W ∧ g < B) HA.out ?_; clear HA; rintro w1 ⟨hs, hp, hb, hz⟩; have HS := Lib.hid hs; have HP := Lib.hid hp; have HB := Lib.hid hb; have Hz := Lib.hid hz; have H2 := Lib.hid hB; clear hs hp hb hz hB; have q0 : ∀ nq : WB w1, nq.1.cell? ⟨g, 0, none⟩ = some (.string S) := fun nq => (HP.out.keep nq.2).c0
     have q1 : ∀ nq : WB w1, nq.1.cell? ⟨g, 1, none⟩ = some (.int .i64 (i : Int)) := fun nq => (HP.out.keep nq.2).c1
     refine wp_region_wb (by kernel_rfl) (by kernel_rfl) w1 (Below.refl _ _) ?_
     repeat (go_big_quiet_step ((fail)))
     refine wpQuiet_nil ?_; rintro _ ⟨nq, rfl⟩; have hnq := nq.2; have HK : Hid (KW w B g nq.1.heap.size S i d (fun _ => false) (nq.1.alloc (.cells #[.int .u64 0, .int .u64 0, .int .u64 0, .int .u64 0] 30))) := Lib.hid (KW.new (HS.out.keep hnq) (HP.out.keep hnq) (HB.out.trans (hnq.mono (by have := HS.out.lt; omega))) Hz.out H2.out); clear q0 q1 hnq HS HB HP Hz H2; wkk; generalize nq.1.heap.size = b4 at HK ⊢; refine gen_wd (fun W => KW w B g b4 S i d (fun _ => false) W) HK.out ?_; clear HK; rintro w2 hk; have HW := Lib.hid hk; clear hk
     have q0 : ∀ nq : WB w2, nq.1.cell? ⟨g, 0, none⟩ = some (.string S) := fun nq => (HW.out.keep nq.2).ps.c0
     have q1 : ∀ nq : WB w2, nq.1.cell? ⟨g, 1, none⟩ = some (.int .i64 (i : Int)) := fun nq => (HW.out.keep nq.2).ps.c1
     refine wp_region_wb (by kernel_rfl) (by kernel_rfl) w2 (Below.refl _ _) ?_
     repeat (go_big_quiet_step (fail))
     refine wpQuiet_nil ?_; rintro _ ⟨nr, rfl⟩; have HV := Lib.hid (HW.out.keep nr.2); clear q0 q1 HW; wkk; refine Calls.mono ((k_dig _)) ?_; rintro _ wc ⟨rfl, hbc⟩; dsimp only; have HV := Lib.hid (HV.out.keep hbc); clear hbc; wkka (first | (with_reducible refine store_set1 HV.out.s4 _ _ _ rfl rfl rfl ?_; dsimp only [Act.put])); have HV2 := Lib.hid (HV.out.put (rngB 48 57)); refine gen_wd (fun W => KW w B g b4 S i d (rngB 48 57) W) HV2.out ?_; clear HV HV2; rintro w3 hk; have HW := Lib.hid hk; clear hk; wkk
     have q0 : ∀ nq : WB w3, nq.1.cell? ⟨g, 0, none⟩ = some (.string S) := fun nq => (HW.out.keep nq.2).ps.c0
     have q1 : ∀ nq : WB w3, nq.1.cell? ⟨g, 1, none⟩ = some (.int .i64 (i : Int)) := fun nq => (HW.out.keep nq.2).ps.c1
     refine wp_region_wb (by kernel_rfl) (by kernel_rfl) w3 (Below.refl _ _) ?_
     repeat (go_big_quiet_step (fail))
     refine wpQuiet_nil ?_; rintro _ ⟨nt, rfl⟩; have HV := Lib.hid (HW.out.keep nt.2); clear q0 q1 HW; have HL := Lib.hid HV.out.s4; wkka (first | (with_reducible refine load_set1 HL.out _ rfl rfl ?_; dsimp only [Act.put])); refine Calls.mono ((k_not _ _)) ?_; rintro _ w5 ⟨rfl, hb5⟩; dsimp only; have HV := Lib.hid (HV.out.keep hb5); clear hb5 HL; have H4 := Lib.hid HV.out.s4; have HV := Lib.hid (HV.out.put (notB (rngB 48 57))); have c1 := HV.out.ps.c1; have f1 := HV.out.ps.free 1
     have HL := Lib.hid (show SetAt (World.setCell (w5.setRow b4 (sc (notB (rngB 48 57)))) ⟨g, 1, none⟩ (.int .i64 (j : Int))) b4 (notB (rngB 48 57)) from HV.out.s4.cellOther (by have := HV.out.lt; omega)); have HM := Lib.hid (show SetAt (World.setCell (w5.setRow b4 (sc (notB (rngB 48 57)))) ⟨g, 1, none⟩ (.int .i64 (j : Int))) B (fun _ => false) from HV.out.s2.cellOther (by have := HV.out.lt; omega)); have HD := Lib.hid (HV.out.done (j := j))
     wkka (first | (with_reducible refine store_set1 H4.out _ _ _ rfl rfl rfl ?_; dsimp only [Act.put]) | (with_reducible refine load_set1 HL.out _ rfl rfl ?_; dsimp only [Act.put]) | (with_reducible refine store_set1 HM.out _ _ _ rfl rfl rfl ?_; dsimp only [Act.put])); refine bodyPost_ret (results_set_tmp rfl _ _ _ _ rfl HD.out.1) rfl ?_; exact KPost.someI HX.out ⟨rfl, by rw [HJ.out]; exact HD.out.2.1, HD.out.2.2⟩
   rw [if_neg hn] at hX; have n68 := Lib.hid hn; clear hn
   by_cases hn : x = 119
   · rw [if_pos hn] at hX; subst hn; have HX := Lib.hid hX.symm; clear hX hb; have hor : bits .or .u8 (119 : Int) 32 = 119 := by decide
     go_enter Tryd.func82, Tryd.ntmps82; wkk; generalize hB : w.heap.size = B at HA ⊢; refine gen_wd (fun W => SetAt W B (fun _ => false) ∧ PsAt W g S i d ∧ Below B w W ∧ g < B) HA.out ?_; clear HA; rintro w1 ⟨hs, hp, hb, hz⟩; have HS := Lib.hid hs; have HP := Lib.hid hp; have HB := Lib.hid hb; have Hz := Lib.hid hz; have H2 := Lib.hid hB; clear hs hp hb hz hB; have q0 : ∀ nq : WB w1, nq.1.cell? ⟨g, 0, none⟩ = some (.string S) := fun nq => (HP.out.keep nq.2).c0
     have q1 : ∀ nq : WB w1, nq.1.cell? ⟨g, 1, none⟩ = some (.int .i64 (i : Int)) := fun nq => (HP.out.keep nq.2).c1
     refine wp_region_wb (by kernel_rfl) (by kernel_rfl) w1 (Below.refl _ _) ?_
     repeat (go_big_quiet_step ((fail)))
     refine wpQuiet_nil ?_; rintro _ ⟨nq, rfl⟩; have hnq := nq.2; have HK : Hid (KW w B g nq.1.heap.size S i d (fun _ => false) (nq.1.alloc (.cells #[.int .u64 0, .int .u64 0, .int .u64 0, .int .u64 0] 30))) := Lib.hid (KW.new (HS.out.keep hnq) (HP.out.keep hnq) (HB.out.trans (hnq.mono (by have := HS.out.lt; omega))) Hz.out H2.out); clear q0 q1 hnq HS HB HP Hz H2; wkk; generalize nq.1.heap.size = b4 at HK ⊢; refine gen_wd (fun W => KW w B g b4 S i d (fun _ => false) W) HK.out ?_; clear HK; rintro w2 hk; have HW := Lib.hid hk; clear hk
     have q0 : ∀ nq : WB w2, nq.1.cell? ⟨g, 0, none⟩ = some (.string S) := fun nq => (HW.out.keep nq.2).ps.c0
     have q1 : ∀ nq : WB w2, nq.1.cell? ⟨g, 1, none⟩ = some (.int .i64 (i : Int)) := fun nq => (HW.out.keep nq.2).ps.c1
     refine wp_region_wb (by kernel_rfl) (by kernel_rfl) w2 (Below.refl _ _) ?_
     repeat (go_big_quiet_step (fail))
     refine wpQuiet_nil ?_; rintro _ ⟨nr, rfl⟩; have HV := Lib.hid (HW.out.keep nr.2); clear q0 q1 HW; wkk; refine Calls.mono ((k_dig _)) ?_; rintro _ wc ⟨rfl, hbc⟩; dsimp only; have HV := Lib.hid (HV.out.keep hbc); clear hbc; wkka (first | (with_reducible refine store_set1 HV.out.s4 _ _ _ rfl rfl rfl ?_; dsimp only [Act.put])); refine Calls.mono ((k_upp _)) ?_; rintro _ wc ⟨rfl, hbc⟩; dsimp only; have HV := Lib.hid (HV.out.keep hbc); clear hbc; wkka (first | (with_reducible refine store_set1 HV.out.s4 _ _ _ rfl rfl rfl ?_; dsimp only [Act.put])); refine Calls.mono ((k_join _ _ _)) ?_
     rintro _ wc ⟨rfl, hbc⟩; dsimp only; have HV := Lib.hid (HV.out.keep hbc); clear hbc; wkka (first | (with_reducible refine store_set1 HV.out.s4 _ _ _ rfl rfl rfl ?_; dsimp only [Act.put])); refine Calls.mono ((k_low _)) ?_; rintro _ wc ⟨rfl, hbc⟩; dsimp only; have HV := Lib.hid (HV.out.keep hbc); clear hbc; wkka (first | (with_reducible refine store_set1 HV.out.s4 _ _ _ rfl rfl rfl ?_; dsimp only [Act.put])); refine Calls.mono ((k_und _)) ?_; rintro _ wc ⟨rfl, hbc⟩; dsimp only; have HV := Lib.hid (HV.out.keep hbc); clear hbc
     wkka (first | (with_reducible refine store_set1 HV.out.s4 _ _ _ rfl rfl rfl ?_; dsimp only [Act.put])); refine Calls.mono ((k_join _ _ _)) ?_; rintro _ wc ⟨rfl, hbc⟩; dsimp only; have HV := Lib.hid (HV.out.keep hbc); clear hbc; wkka (first | (with_reducible refine store_set1 HV.out.s4 _ _ _ rfl rfl rfl ?_; dsimp only [Act.put])); refine Calls.mono ((k_join _ _ _)) ?_; rintro _ wc ⟨rfl, hbc⟩; dsimp only; have HV := Lib.hid (HV.out.keep hbc); clear hbc; wkka (first | (with_reducible refine store_set1 HV.out.s4 _ _ _ rfl rfl rfl ?_; dsimp only [Act.put]))
     have HV2 := Lib.hid (HV.out.put (orB (orB (rngB 48 57) (rngB 65 90)) (orB (rngB 97 122) (oneB 95)))); refine gen_wd (fun W => KW w B g b4 S i d (orB (orB (rngB 48 57) (rngB 65 90)) (orB (rngB 97 122) (oneB 95))) W) HV2.out ?_; clear HV HV2; rintro w3 hk; have HW := Lib.hid hk; clear hk; wkk; have q0 : ∀ nq : WB w3, nq.1.cell? ⟨g, 0, none⟩ = some (.string S) := fun nq => (HW.out.keep nq.2).ps.c0
     have q1 : ∀ nq : WB w3, nq.1.cell? ⟨g, 1, none⟩ = some (.int .i64 (i : Int)) := fun nq => (HW.out.keep nq.2).ps.c1
     refine wp_region_wb (by kernel_rfl) (by kernel_rfl) w3 (Below.refl _ _) ?_
     repeat (go_big_quiet_step (fail))
     refine wpQuiet_nil ?_; rintro _ ⟨nt, rfl⟩; have HV := Lib.hid (HW.out.keep nt.2); clear q0 q1 HW; have c1 := HV.out.ps.c1; have f1 := HV.out.ps.free 1; have HL := Lib.hid (show SetAt (World.setCell nt.1 ⟨g, 1, none⟩ (.int .i64 (j : Int))) b4 (orB (orB (rngB 48 57) (rngB 65 90)) (orB (rngB 97 122) (oneB 95))) from HV.out.s4.cellOther (by have := HV.out.lt; omega)); have HM := Lib.hid (show SetAt (World.setCell nt.1 ⟨g, 1, none⟩ (.int .i64 (j : Int))) B (fun _ => false) from HV.out.s2.cellOther (by have := HV.out.lt; omega)); have HD := Lib.hid (HV.out.done (j := j))
     wkka (first | (fail) | (with_reducible refine load_set1 HL.out _ rfl rfl ?_; dsimp only [Act.put]) | (with_reducible refine store_set1 HM.out _ _ _ rfl rfl rfl ?_; dsimp only [Act.put])); refine bodyPost_ret (results_set_tmp rfl _ _ _ _ rfl HD.out.1) rfl ?_; exact KPost.someI HX.out ⟨rfl, by rw [HJ.out]; exact HD.out.2.1, HD.out.2.2⟩
   rw [if_neg hn] at hX; have n119 := Lib.hid hn; clear hn
   by_cases hn : x = 87
   · rw [if_pos hn] at hX; subst hn; have HX := Lib.hid hX.symm; clear hX hb; have hor : bits .or .u8 (87 : Int) 32 = 119 := by decide
     go_enter Tryd.func82, Tryd.ntmps82; wkk; generalize hB : w.heap.size = B at HA ⊢; refine gen_wd (fun W => SetAt W B (fun _ => false) ∧ PsAt W g S i d ∧ Below B w W ∧ g < B) HA.out ?_; clear HA; rintro w1 ⟨hs, hp, hb, hz⟩; have HS := Lib.hid hs; have HP := Lib.hid hp; have HB := Lib.hid hb; have Hz := Lib.hid hz; have H2 := Lib.hid hB; clear hs hp hb hz hB; have q0 : ∀ nq : WB w1, nq.1.cell? ⟨g, 0, none⟩ = some (.string S) := fun nq => (HP.out.keep nq.2).c0
     have q1 : ∀ nq : WB w1, nq.1.cell? ⟨g, 1, none⟩ = some (.int .i64 (i : Int)) := fun nq => (HP.out.keep nq.2).c1
     refine wp_region_wb (by kernel_rfl) (by kernel_rfl) w1 (Below.refl _ _) ?_
     repeat (go_big_quiet_step ((fail)))
     refine wpQuiet_nil ?_; rintro _ ⟨nq, rfl⟩; have hnq := nq.2; have HK : Hid (KW w B g nq.1.heap.size S i d (fun _ => false) (nq.1.alloc (.cells #[.int .u64 0, .int .u64 0, .int .u64 0, .int .u64 0] 30))) := Lib.hid (KW.new (HS.out.keep hnq) (HP.out.keep hnq) (HB.out.trans (hnq.mono (by have := HS.out.lt; omega))) Hz.out H2.out); clear q0 q1 hnq HS HB HP Hz H2; wkk; generalize nq.1.heap.size = b4 at HK ⊢; refine gen_wd (fun W => KW w B g b4 S i d (fun _ => false) W) HK.out ?_; clear HK; rintro w2 hk; have HW := Lib.hid hk; clear hk
     have q0 : ∀ nq : WB w2, nq.1.cell? ⟨g, 0, none⟩ = some (.string S) := fun nq => (HW.out.keep nq.2).ps.c0
     have q1 : ∀ nq : WB w2, nq.1.cell? ⟨g, 1, none⟩ = some (.int .i64 (i : Int)) := fun nq => (HW.out.keep nq.2).ps.c1
     refine wp_region_wb (by kernel_rfl) (by kernel_rfl) w2 (Below.refl _ _) ?_
     repeat (go_big_quiet_step (fail))
     refine wpQuiet_nil ?_; rintro _ ⟨nr, rfl⟩; have HV := Lib.hid (HW.out.keep nr.2); clear q0 q1 HW; wkk; refine Calls.mono ((k_dig _)) ?_; rintro _ wc ⟨rfl, hbc⟩; dsimp only; have HV := Lib.hid (HV.out.keep hbc); clear hbc; wkka (first | (with_reducible refine store_set1 HV.out.s4 _ _ _ rfl rfl rfl ?_; dsimp only [Act.put])); refine Calls.mono ((k_upp _)) ?_; rintro _ wc ⟨rfl, hbc⟩; dsimp only; have HV := Lib.hid (HV.out.keep hbc); clear hbc; wkka (first | (with_reducible refine store_set1 HV.out.s4 _ _ _ rfl rfl rfl ?_; dsimp only [Act.put])); refine Calls.mono ((k_join _ _ _)) ?_
     rintro _ wc ⟨rfl, hbc⟩; dsimp only; have HV := Lib.hid (HV.out.keep hbc); clear hbc; wkka (first | (with_reducible refine store_set1 HV.out.s4 _ _ _ rfl rfl rfl ?_; dsimp only [Act.put])); refine Calls.mono ((k_low _)) ?_; rintro _ wc ⟨rfl, hbc⟩; dsimp only; have HV := Lib.hid (HV.out.keep hbc); clear hbc; wkka (first | (with_reducible refine store_set1 HV.out.s4 _ _ _ rfl rfl rfl ?_; dsimp only [Act.put])); refine Calls.mono ((k_und _)) ?_; rintro _ wc ⟨rfl, hbc⟩; dsimp only; have HV := Lib.hid (HV.out.keep hbc); clear hbc
     wkka (first | (with_reducible refine store_set1 HV.out.s4 _ _ _ rfl rfl rfl ?_; dsimp only [Act.put])); refine Calls.mono ((k_join _ _ _)) ?_; rintro _ wc ⟨rfl, hbc⟩; dsimp only; have HV := Lib.hid (HV.out.keep hbc); clear hbc; wkka (first | (with_reducible refine store_set1 HV.out.s4 _ _ _ rfl rfl rfl ?_; dsimp only [Act.put])); refine Calls.mono ((k_join _ _ _)) ?_; rintro _ wc ⟨rfl, hbc⟩; dsimp only; have HV := Lib.hid (HV.out.keep hbc); clear hbc; wkka (first | (with_reducible refine store_set1 HV.out.s4 _ _ _ rfl rfl rfl ?_; dsimp only [Act.put]))
     have HV2 := Lib.hid (HV.out.put (orB (orB (rngB 48 57) (rngB 65 90)) (orB (rngB 97 122) (oneB 95)))); refine gen_wd (fun W => KW w B g b4 S i d (orB (orB (rngB 48 57) (rngB 65 90)) (orB (rngB 97 122) (oneB 95))) W) HV2.out ?_; clear HV HV2; rintro w3 hk; have HW := Lib.hid hk; clear hk; wkk; have q0 : ∀ nq : WB w3, nq.1.cell? ⟨g, 0, none⟩ = some (.string S) := fun nq => (HW.out.keep nq.2).ps.c0
     have q1 : ∀ nq : WB w3, nq.1.cell? ⟨g, 1, none⟩ = some (.int .i64 (i : Int)) := fun nq => (HW.out.keep nq.2).ps.c1
     refine wp_region_wb (by kernel_rfl) (by kernel_rfl) w3 (Below.refl _ _) ?_
     repeat (go_big_quiet_step (fail))
     refine wpQuiet_nil ?_; rintro _ ⟨nt, rfl⟩; have HV := Lib.hid (HW.out.keep nt.2); clear q0 q1 HW; have HL := Lib.hid HV.out.s4; wkka (first | (with_reducible refine load_set1 HL.out _ rfl rfl ?_; dsimp only [Act.put])); refine Calls.mono ((k_not _ _)) ?_; rintro _ w5 ⟨rfl, hb5⟩; dsimp only; have HV := Lib.hid (HV.out.keep hb5); clear hb5 HL; have H4 := Lib.hid HV.out.s4; have HV := Lib.hid (HV.out.put (notB (orB (orB (rngB 48 57) (rngB 65 90)) (orB (rngB 97 122) (oneB 95))))); have c1 := HV.out.ps.c1; have f1 := HV.out.ps.free 1
     have HL := Lib.hid (show SetAt (World.setCell (w5.setRow b4 (sc (notB (orB (orB (rngB 48 57) (rngB 65 90)) (orB (rngB 97 122) (oneB 95)))))) ⟨g, 1, none⟩ (.int .i64 (j : Int))) b4 (notB (orB (orB (rngB 48 57) (rngB 65 90)) (orB (rngB 97 122) (oneB 95)))) from HV.out.s4.cellOther (by have := HV.out.lt; omega)); have HM := Lib.hid (show SetAt (World.setCell (w5.setRow b4 (sc (notB (orB (orB (rngB 48 57) (rngB 65 90)) (orB (rngB 97 122) (oneB 95)))))) ⟨g, 1, none⟩ (.int .i64 (j : Int))) B (fun _ => false) from HV.out.s2.cellOther (by have := HV.out.lt; omega))
     have HD := Lib.hid (HV.out.done (j := j)); wkka (first | (with_reducible refine store_set1 H4.out _ _ _ rfl rfl rfl ?_; dsimp only [Act.put]) | (with_reducible refine load_set1 HL.out _ rfl rfl ?_; dsimp only [Act.put]) | (with_reducible refine store_set1 HM.out _ _ _ rfl rfl rfl ?_; dsimp only [Act.put])); refine bodyPost_ret (results_set_tmp rfl _ _ _ _ rfl HD.out.1) rfl ?_; exact KPost.someI HX.out ⟨rfl, by rw [HJ.out]; exact HD.out.2.1, HD.out.2.2⟩
   rw [if_neg hn] at hX; have n87 := Lib.hid hn; clear hn
   by_cases hn : x = 115
   · rw [if_pos hn] at hX; subst hn; have HX := Lib.hid hX.symm; clear hX hb; have hor : bits .or .u8 (115 : Int) 32 = 115 := by decide
     go_enter Tryd.func82, Tryd.ntmps82; wkk; generalize hB : w.heap.size = B at HA ⊢; refine gen_wd (fun W => SetAt W B (fun _ => false) ∧ PsAt W g S i d ∧ Below B w W ∧ g < B) HA.out ?_; clear HA; rintro w1 ⟨hs, hp, hb, hz⟩; have HS := Lib.hid hs; have HP := Lib.hid hp; have HB := Lib.hid hb; have Hz := Lib.hid hz; have H2 := Lib.hid hB; clear hs hp hb hz hB; have q0 : ∀ nq : WB w1, nq.1.cell? ⟨g, 0, none⟩ = some (.string S) := fun nq => (HP.out.keep nq.2).c0
     have q1 : ∀ nq : WB w1, nq.1.cell? ⟨g, 1, none⟩ = some (.int .i64 (i : Int)) := fun nq => (HP.out.keep nq.2).c1
     refine wp_region_wb (by kernel_rfl) (by kernel_rfl) w1 (Below.refl _ _) ?_
     repeat (go_big_quiet_step ((fail)))
     refine wpQuiet_nil ?_; rintro _ ⟨nq, rfl⟩; have hnq := nq.2; have HK : Hid (KW w B g nq.1.heap.size S i d (fun _ => false) (nq.1.alloc (.cells #[.int .u64 0, .int .u64 0, .int .u64 0, .int .u64 0] 30))) := Lib.hid (KW.new (HS.out.keep hnq) (HP.out.keep hnq) (HB.out.trans (hnq.mono (by have := HS.out.lt; omega))) Hz.out H2.out); clear q0 q1 hnq HS HB HP Hz H2; wkk; generalize nq.1.heap.size = b4 at HK ⊢; refine gen_wd (fun W => KW w B g b4 S i d (fun _ => false) W) HK.out ?_; clear HK; rintro w2 hk; have HW := Lib.hid hk; clear hk
     have q0 : ∀ nq : WB w2, nq.1.cell? ⟨g, 0, none⟩ = some (.string S) := fun nq => (HW.out.keep nq.2).ps.c0
     have q1 : ∀ nq : WB w2, nq.1.cell? ⟨g, 1, none⟩ = some (.int .i64 (i : Int)) := fun nq => (HW.out.keep nq.2).ps.c1
     refine wp_region_wb (by kernel_rfl) (by kernel_rfl) w2 (Below.refl _ _) ?_
     repeat (go_big_quiet_step (fail))
     refine wpQuiet_nil ?_; rintro _ ⟨nr, rfl⟩; have HV := Lib.hid (HW.out.keep nr.2); clear q0 q1 HW; wkk; refine Calls.mono ((k_spc _)) ?_; rintro _ wc ⟨rfl, hbc⟩; dsimp only; have HV := Lib.hid (HV.out.keep hbc); clear hbc; wkka (first | (with_reducible refine store_set1 HV.out.s4 _ _ _ rfl rfl rfl ?_; dsimp only [Act.put])); refine Calls.mono ((k_sp _)) ?_; rintro _ wc ⟨rfl, hbc⟩; dsimp only; have HV := Lib.hid (HV.out.keep hbc); clear hbc; wkka (first | (with_reducible refine store_set1 HV.out.s4 _ _ _ rfl rfl rfl ?_; dsimp only [Act.put])); refine Calls.mono ((k_join _ _ _)) ?_
     rintro _ wc ⟨rfl, hbc⟩; dsimp only; have HV := Lib.hid (HV.out.keep hbc); clear hbc; wkka (first | (with_reducible refine store_set1 HV.out.s4 _ _ _ rfl rfl rfl ?_; dsimp only [Act.put])); have HV2 := Lib.hid (HV.out.put (orB (rngB 9 13) (oneB 32))); refine gen_wd (fun W => KW w B g b4 S i d (orB (rngB 9 13) (oneB 32)) W) HV2.out ?_; clear HV HV2; rintro w3 hk; have HW := Lib.hid hk; clear hk; wkk; have q0 : ∀ nq : WB w3, nq.1.cell? ⟨g, 0, none⟩ = some (.string S) := fun nq => (HW.out.keep nq.2).ps.c0
     have q1 : ∀ nq : WB w3, nq.1.cell? ⟨g, 1, none⟩ = some (.int .i64 (i : Int)) := fun nq => (HW.out.keep nq.2).ps.c1
     refine wp_region_wb (by kernel_rfl) (by kernel_rfl) w3 (Below.refl _ _) ?_
     repeat (go_big_quiet_step (fail))
     refine wpQuiet_nil ?_; rintro _ ⟨nt, rfl⟩; have HV := Lib.hid (HW.out.keep nt.2); clear q0 q1 HW; have c1 := HV.out.ps.c1; have f1 := HV.out.ps.free 1; have HL := Lib.hid (show SetAt (World.setCell nt.1 ⟨g, 1, none⟩ (.int .i64 (j : Int))) b4 (orB (rngB 9 13) (oneB 32)) from HV.out.s4.cellOther (by have := HV.out.lt; omega)); have HM := Lib.hid (show SetAt (World.setCell nt.1 ⟨g, 1, none⟩ (.int .i64 (j : Int))) B (fun _ => false) from HV.out.s2.cellOther (by have := HV.out.lt; omega)); have HD := Lib.hid (HV.out.done (j := j))
     wkka (first | (fail) | (with_reducible refine load_set1 HL.out _ rfl rfl ?_; dsimp only [Act.put]) | (with_reducible refine store_set1 HM.out _ _ _ rfl rfl rfl ?_; dsimp only [Act.put])); refine bodyPost_ret (results_set_tmp rfl _ _ _ _ rfl HD.out.1) rfl ?_; exact KPost.someI HX.out ⟨rfl, by rw [HJ.out]; exact HD.out.2.1, HD.out.2.2⟩
   rw [if_neg hn] at hX; have n115 := Lib.hid hn; clear hn
   by_cases hn : x = 83
   · rw [if_pos hn] at hX; subst hn; have HX := Lib.hid hX.symm; clear hX hb; have hor : bits .or .u8 (83 : Int) 32 = 115 := by decide
     go_enter Tryd.func82, Tryd.ntmps82; wkk; generalize hB : w.heap.size = B at HA ⊢; refine gen_wd (fun W => SetAt W B (fun _ => false) ∧ PsAt W g S i d ∧ Below B w W ∧ g < B) HA.out ?_; clear HA; rintro w1 ⟨hs, hp, hb, hz⟩; have HS := Lib.hid hs; have HP := Lib.hid hp; have HB := Lib.hid hb; have Hz := Lib.hid hz; have H2 := Lib.hid hB; clear hs hp hb hz hB; have q0 : ∀ nq : WB w1, nq.1.cell? ⟨g, 0, none⟩ = some (.string S) := fun nq => (HP.out.keep nq.2).c0
     have q1 : ∀ nq : WB w1, nq.1.cell? ⟨g, 1, none⟩ = some (.int .i64 (i : Int)) := fun nq => (HP.out.keep nq.2).c1
     refine wp_region_wb (by kernel_rfl) (by kernel_rfl) w1 (Below.refl _ _) ?_
     repeat (go_big_quiet_step ((fail)))
     refine wpQuiet_nil ?_; rintro _ ⟨nq, rfl⟩; have hnq := nq.2; have HK : Hid (KW w B g nq.1.heap.size S i d (fun _ => false) (nq.1.alloc (.cells #[.int .u64 0, .int .u64 0, .int .u64 0, .int .u64 0] 30))) := Lib.hid (KW.new (HS.out.keep hnq) (HP.out.keep hnq) (HB.out.trans (hnq.mono (by have := HS.out.lt; omega))) Hz.out H2.out); clear q0 q1 hnq HS HB HP Hz H2; wkk; generalize nq.1.heap.size = b4 at HK ⊢; refine gen_wd (fun W => KW w B g b4 S i d (fun _ => false) W) HK.out ?_; clear HK; rintro w2 hk; have HW := Lib.hid hk; clear hk
     have q0 : ∀ nq : WB w2, nq.1.cell? ⟨g, 0, none⟩ = some (.string S) := fun nq => (HW.out.keep nq.2).ps.c0
     have q1 : ∀ nq : WB w2, nq.1.cell? ⟨g, 1, none⟩ = some (.int .i64 (i : Int)) := fun nq => (HW.out.keep nq.2).ps.c1
     refine wp_region_wb (by kernel_rfl) (by kernel_rfl) w2 (Below.refl _ _) ?_
     repeat (go_big_quiet_step (fail))
     refine wpQuiet_nil ?_; rintro _ ⟨nr, rfl⟩; have HV := Lib.hid (HW.out.keep nr.2); clear q0 q1 HW; wkk; refine Calls.mono ((k_spc _)) ?_; rintro _ wc ⟨rfl, hbc⟩; dsimp only; have HV := Lib.hid (HV.out.keep hbc); clear hbc; wkka (first | (with_reducible refine store_set1 HV.out.s4 _ _ _ rfl rfl rfl ?_; dsimp only [Act.put])); refine Calls.mono ((k_sp _)) ?_; rintro _ wc ⟨rfl, hbc⟩; dsimp only; have HV := Lib.hid (HV.out.keep hbc); clear hbc; wkka (first | (with_reducible refine store_set1 HV.out.s4 _ _ _ rfl rfl rfl ?_; dsimp only [Act.put])); refine Calls.mono ((k_join _ _ _)) ?_
     rintro _ wc ⟨rfl, hbc⟩; dsimp only; have HV := Lib.hid (HV.out.keep hbc); clear hbc; wkka (first | (with_reducible refine store_set1 HV.out.s4 _ _ _ rfl rfl rfl ?_; dsimp only [Act.put])); have HV2 := Lib.hid (HV.out.put (orB (rngB 9 13) (oneB 32))); refine gen_wd (fun W => KW w B g b4 S i d (orB (rngB 9 13) (oneB 32)) W) HV2.out ?_; clear HV HV2; rintro w3 hk; have HW := Lib.hid hk; clear hk; wkk; have q0 : ∀ nq : WB w3, nq.1.cell? ⟨g, 0, none⟩ = some (.string S) := fun nq => (HW.out.keep nq.2).ps.c0
     have q1 : ∀ nq : WB w3, nq.1.cell? ⟨g, 1, none⟩ = some (.int .i64 (i : Int)) := fun nq => (HW.out.keep nq.2).ps.c1
     refine wp_region_wb (by kernel_rfl) (by kernel_rfl) w3 (Below.refl _ _) ?_
     repeat (go_big_quiet_step (fail))
     refine wpQuiet_nil ?_; rintro _ ⟨nt, rfl⟩; have HV := Lib.hid (HW.out.keep nt.2); clear q0 q1 HW; have HL := Lib.hid HV.out.s4; wkka (first | (with_reducible refine load_set1 HL.out _ rfl rfl ?_; dsimp only [Act.put])); refine Calls.mono ((k_not _ _)) ?_; rintro _ w5 ⟨rfl, hb5⟩; dsimp only; have HV := Lib.hid (HV.out.keep hb5); clear hb5 HL; have H4 := Lib.hid HV.out.s4; have HV := Lib.hid (HV.out.put (notB (orB (rngB 9 13) (oneB 32)))); have c1 := HV.out.ps.c1; have f1 := HV.out.ps.free 1
     have HL := Lib.hid (show SetAt (World.setCell (w5.setRow b4 (sc (notB (orB (rngB 9 13) (oneB 32))))) ⟨g, 1, none⟩ (.int .i64 (j : Int))) b4 (notB (orB (rngB 9 13) (oneB 32))) from HV.out.s4.cellOther (by have := HV.out.lt; omega)); have HM := Lib.hid (show SetAt (World.setCell (w5.setRow b4 (sc (notB (orB (rngB 9 13) (oneB 32))))) ⟨g, 1, none⟩ (.int .i64 (j : Int))) B (fun _ => false) from HV.out.s2.cellOther (by have := HV.out.lt; omega)); have HD := Lib.hid (HV.out.done (j := j))
     wkka (first | (with_reducible refine store_set1 H4.out _ _ _ rfl rfl rfl ?_; dsimp only [Act.put]) | (with_reducible refine load_set1 HL.out _ rfl rfl ?_; dsimp only [Act.put]) | (with_reducible refine store_set1 HM.out _ _ _ rfl rfl rfl ?_; dsimp only [Act.put])); refine bodyPost_ret (results_set_tmp rfl _ _ _ _ rfl HD.out.1) rfl ?_; exact KPost.someI HX.out ⟨rfl, by rw [HJ.out]; exact HD.out.2.1, HD.out.2.2⟩
   rw [if_neg hn] at hX; have n83 := Lib.hid hn; clear hn; have hor := or_some ⟨x, hb⟩ ⟨n100.out, n68.out, n119.out, n87.out, n115.out, n83.out⟩; dsimp only at hor; generalize hy : bits .or .u8 (x : Int) 32 = y at hor; have y1 : (y == 100) = false := beq_false_of_ne hor.1; have y2 : (y == 119) = false := beq_false_of_ne hor.2.1; have y3 : (y == 115) = false := beq_false_of_ne hor.2.2; have HX := Lib.hid hX.symm; clear hX hb hor n100 n68 n119 n87 n115 n83; go_enter Tryd.func82, Tryd.ntmps82; wkk; generalize hB : w.heap.size = B at HA ⊢
   refine gen_wd (fun W => SetAt W B (fun _ => false) ∧ PsAt W g S i d ∧ Below B w W ∧ g < B) HA.out ?_; clear HA; rintro w1 ⟨hs, hp, hb, hz⟩; have HS := Lib.hid hs; have HP := Lib.hid hp; have HB := Lib.hid hb; have Hz := Lib.hid hz; have H2 := Lib.hid hB; clear hs hp hb hz hB; have q0 : ∀ nq : WB w1, nq.1.cell? ⟨g, 0, none⟩ = some (.string S) := fun nq => (HP.out.keep nq.2).c0
   have q1 : ∀ nq : WB w1, nq.1.cell? ⟨g, 1, none⟩ = some (.int .i64 (i : Int)) := fun nq => (HP.out.keep nq.2).c1
   refine wp_region_wb (by kernel_rfl) (by kernel_rfl) w1 (Below.refl _ _) ?_
   repeat (go_big_quiet_step ((fail)))
   refine wpQuiet_nil ?_; rintro _ ⟨nq, rfl⟩; have hnq := nq.2; have HK : Hid (KW w B g nq.1.heap.size S i d (fun _ => false) (nq.1.alloc (.cells #[.int .u64 0, .int .u64 0, .int .u64 0, .int .u64 0] 30))) := Lib.hid (KW.new (HS.out.keep hnq) (HP.out.keep hnq) (HB.out.trans (hnq.mono (by have := HS.out.lt; omega))) Hz.out H2.out); clear q0 q1 hnq HS HB HP Hz H2; wkk; generalize nq.1.heap.size = b4 at HK ⊢; refine gen_wd (fun W => KW w B g b4 S i d (fun _ => false) W) HK.out ?_; clear HK; rintro w2 hk; have HW := Lib.hid hk; clear hk
   have q0 : ∀ nq : WB w2, nq.1.cell? ⟨g, 0, none⟩ = some (.string S) := fun nq => (HW.out.keep nq.2).ps.c0
   have q1 : ∀ nq : WB w2, nq.1.cell? ⟨g, 1, none⟩ = some (.int .i64 (i : Int)) := fun nq => (HW.out.keep nq.2).ps.c1
   refine wp_region_wb (by kernel_rfl) (by kernel_rfl) w2 (Below.refl _ _) ?_
   repeat (go_big_quiet_step (fail))
   refine wpQuiet_nil ?_; rintro _ ⟨nr, rfl⟩; have HV := Lib.hid (HW.out.keep nr.2); clear q0 q1 HW; have HD := Lib.hid HV.out.none; have HM := Lib.hid HV.out.s2; wkka (first | (refine store_set0 HM.out (.tmp 2) (.tmp 26) rfl rfl rfl ?_; dsimp only [Act.put])); refine bodyPost_ret (results_set_tmp rfl _ _ _ _ rfl HD.out.1) rfl ?_; exact KPost.noneI HX.out ⟨rfl, HD.out.2.1, HD.out.2.2⟩
 · have hlt' : (i : Int) ≥ S.size := by omega
   rw [if_neg hlt] at hX; have HX := Lib.hid hX.symm; clear hX hlt; go_enter Tryd.func82, Tryd.ntmps82; wkk; generalize hB : w.heap.size = B at HA ⊢; refine gen_wd (fun W => SetAt W B (fun _ => false) ∧ PsAt W g S i d ∧ Below B w W ∧ g < B) HA.out ?_; clear HA; rintro w1 ⟨hs, hp, hb, hz⟩; have HS := Lib.hid hs; have HP := Lib.hid hp; have HB := Lib.hid hb; have Hz := Lib.hid hz; have H2 := Lib.hid hB; clear hs hp hb hz hB; have q0 : ∀ nq : WB w1, nq.1.cell? ⟨g, 0, none⟩ = some (.string S) := fun nq => (HP.out.keep nq.2).c0
   have q1 : ∀ nq : WB w1, nq.1.cell? ⟨g, 1, none⟩ = some (.int .i64 (i : Int)) := fun nq => (HP.out.keep nq.2).c1
   refine wp_region_wb (by kernel_rfl) (by kernel_rfl) w1 (Below.refl _ _) ?_
   repeat (go_big_quiet_step ((fail)))
   refine wpQuiet_nil ?_; rintro _ ⟨nq, rfl⟩; have hnq := nq.2; have HM := Lib.hid (HS.out.keep hnq); have HP2 := Lib.hid (HP.out.keep hnq); have HB2 := Lib.hid (HB.out.trans (hnq.mono (by have := HS.out.lt; omega))); clear q0 q1 hnq; wkka (first | (with_reducible refine store_set0 HM.out _ _ rfl rfl rfl ?_; dsimp only [Act.put])); refine bodyPost_ret (results_set_tmp rfl _ _ _ _ rfl HM.out.set) rfl ?_; refine KPost.noneI HX.out ⟨rfl, ?_, ?_⟩
   · unfold PsAt; rw [setRow_other _ _ _ _ (by have := Hz.out; omega)]; exact HP2.out
   · have he : Else g w nq.1 := Else.of_below (by rw [H2.out]; exact HB2.out); exact ⟨he.os, he.tape, he.output, by simpa using he.size, fun k hk hne => by rw [setRow_other _ _ _ _ (by have := H2.out; omega)]; exact he.block k hk hne⟩
end Go.Proofs.YtonkenlkigfeoaaDoor
