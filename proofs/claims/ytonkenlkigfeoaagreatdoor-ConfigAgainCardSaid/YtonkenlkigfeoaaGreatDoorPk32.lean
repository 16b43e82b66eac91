/- Walk: how a byte is written (regex.byteText). Conditions: a byte. -/
import Derived.Test.YtonkenlkigfeoaaGreatDoorPk18
import Derived.Test.YtonkenlkigfeoaaGreatDoorPk25
import Derived.Test.YtonkenlkigfeoaaGreatDoorPk06
import Derived.Test.YtonkenlkigfeoaaGreatDoorPk09
import Derived.Test.YtonkenlkigfeoaaGreatDoorPk12
namespace Go.Proofs.YtonkenlkigfeoaaGreatDoor
open Go.RowKit
def sgU : List UInt8 := [92, 40, 41, 91, 93, 123, 125, 46, 42, 43, 63, 124, 94, 36]
def moreL (inn : Bool) : List UInt8 := if inn then [45, 47] else []
theorem idx_iff {l : List UInt8} {c : UInt8} : (0 ≤ Lib.indexByte l c) ↔ c ∈ l := by
 constructor
 · intro h; obtain ⟨o, ho⟩ : ∃ o : Nat, Lib.indexByte l c = o := ⟨(Lib.indexByte l c).toNat, by omega⟩; exact List.mem_of_getElem? (Lib.indexByte_some ho).1
 · intro h; have h1 := Lib.indexByte_ge l c
   by_cases e : Lib.indexByte l c = -1
   · obtain ⟨k, hk⟩ := List.getElem?_of_mem h; exact absurd hk (Lib.indexByte_none e k)
   · omega
theorem sgU_is : sgU = sgL.map u8 := by decide
theorem sgn_mem {n : Nat} (hn : n < 256) (inn : Bool) : (u8 n ∈ sgU ++ moreL inn) ↔ (n ∈ sgL ∨ (inn = true ∧ (n = 45 ∨ n = 47))) := by
 have hu : ∀ {m : Nat}, m < 256 → (u8 n = u8 m ↔ n = m) := fun {m} hm => by
   constructor
   · intro h; have := congrArg UInt8.toNat h; rwa [u8_toNat_lt hn, u8_toNat_lt hm] at this
   · rintro rfl; rfl
 rw [List.mem_append, sgU_is, List.mem_map]; have h1 : (∃ a ∈ sgL, u8 a = u8 n) ↔ n ∈ sgL := by
   constructor
   · rintro ⟨a, ha, he⟩; have hlt : a < 256 := by
       obtain ⟨k, hk⟩ := List.getElem?_of_mem ha; have hl : k < 14 := (List.getElem?_eq_some_iff.1 hk).1; have := sgL_lt k; rw [sgL_get k hl] at hk; simp only [Option.some.injEq] at hk; omega
     rw [(hu hlt).1 he.symm]; exact ha
   · intro h; exact ⟨n, h, rfl⟩
 have h2 : u8 n ∈ moreL inn ↔ (inn = true ∧ (n = 45 ∨ n = 47)) := by
   cases inn with
   | false => simp [moreL]
   | true =>
     have a := hu (m := 45) (by decide); have b := hu (m := 47) (by decide); rw [show moreL true = [u8 45, u8 47] from by decide]; simp only [List.mem_cons, List.not_mem_nil, or_false, a, b, true_and]
 rw [h1, h2]
set_option maxRecDepth 100000 in
theorem and15' : ∀ b : Fin 256, bits .and .u8 ((b.val : Nat) : Int) 15 = ((b.val % 16 : Nat) : Int) := by decide
theorem and15 (b : Nat) (hb : b < 256) : bits .and .u8 (b : Int) 15 = ((b % 16 : Nat) : Int) := and15' ⟨b, hb⟩
theorem wp_convT {P : Program} {w : World} {o : Oper} {a : Act} {K : Act → World → Prop} {Q : Exit → Act → World → Prop} {B : Nat} {e : TypeId} {v : Value} {l : List Int} {t d : TypeId} (h1 : P.underlying t = some (.slice e)) (h2 : P.underlying e = some (.int .u8)) (h3 : P.underlying d = some .string)
   (x : Operand) (hop : o.op = Op.convert t d x) (hs : a.eval x = v) (hown : OwnI B e .u8 w v l) (hK : K (a.put o.dst (.string ⟨(toU8s l).toArray⟩)) w) : o.wp P a w K Q := by
 have hrun := conv_own h1 h2 h3 hown; unfold Oper.wp
 simp [execOp, hop, hs, hrun, Result.andThen]
 exact hK
abbrev hexC : Value := .string ⟨#[48, 49, 50, 51, 52, 53, 54, 55, 56, 57, 97, 98, 99, 100, 101, 102]⟩
set_option maxRecDepth 100000 in
theorem hex_at (m : Nat) (hm : m < 16) (w : World) : (Instr.index 9 hexC (.int .u8 (m : Int))).run Tryz.prog w = .ok (.int .u8 ((hexd m).toNat : Nat)) w := by
 rcases (by omega : m = 0 ∨ m = 1 ∨ m = 2 ∨ m = 3 ∨ m = 4 ∨ m = 5 ∨ m = 6 ∨ m = 7 ∨ m = 8 ∨ m = 9 ∨ m = 10 ∨ m = 11 ∨ m = 12 ∨ m = 13 ∨ m = 14 ∨ m = 15) with rfl | rfl | rfl | rfl | rfl | rfl | rfl | rfl | rfl | rfl | rfl | rfl | rfl | rfl | rfl | rfl <;> rfl
set_option maxRecDepth 100000 in
set_option maxHeartbeats 1000000 in
theorem re_byteText (n : Nat) (hn : n < 256) (inn : Bool) (w : World) : Calls Tryz.prog 89 #[.int .u8 (n : Nat), .string ⟨(moreL inn).toArray⟩] w fun e w' => e = .returned (.string ⟨(wrt n inn).toArray⟩) ∧ Below w.heap.size w w' := by
 obtain ⟨R, hR⟩ : ∃ R, wrt n inn = R := ⟨_, rfl⟩; have HR := Lib.hid hR; have Hmem := Lib.hid (sgn_mem hn inn); have hI : Calls Tryz.prog 21 #[.string ⟨(sgU ++ moreL inn).toArray⟩, .int .u8 (n : Nat)] w _ := Tryz.strings_IndexByte ⟨(sgU ++ moreL inn).toArray⟩ n w; have hm4 : (moreL inn).length ≤ 2 := by unfold moreL; split <;> decide
 have hcat : (⟨#[92, 40, 41, 91, 93, 123, 125, 46, 42, 43, 63, 124, 94, 36]⟩ : ByteArray) ++ ⟨(moreL inn).toArray⟩ = ⟨(sgU ++ moreL inn).toArray⟩ := ba_lits sgU (moreL inn); have hX : Hid (0 ≤ Lib.indexByte (sgU ++ moreL inn) (n : Int).toNat.toUInt8 ↔ u8 n ∈ sgU ++ moreL inn) := Lib.hid (by rw [idx_iff]; rfl); generalize sgU ++ moreL inn = sl at hI hcat Hmem hX; generalize moreL inn = mo at hcat hm4 ⊢; rw [hR]; clear hR
 by_cases h1 : n = 10
 · subst h1; have e : [92, 110] = R := HR.out; subst e; go_enter Tryz.func89, Tryz.ntmps89; wkk; go_ret; exact ⟨rfl, Below.refl _ _⟩
 have b1 : ((n : Int) == 10) = false := beq_false_of_ne (by omega)
 by_cases h2 : n = 9
 · subst h2; have e : [92, 116] = R := HR.out; subst e; go_enter Tryz.func89, Tryz.ntmps89; wkk; go_ret; exact ⟨rfl, Below.refl _ _⟩
 have b2 : ((n : Int) == 9) = false := beq_false_of_ne (by omega)
 by_cases h3 : n = 13
 · subst h3; have e : [92, 114] = R := HR.out; subst e; go_enter Tryz.func89, Tryz.ntmps89; wkk; go_ret; exact ⟨rfl, Below.refl _ _⟩
 have b3 : ((n : Int) == 13) = false := beq_false_of_ne (by omega); have H4 : Hid (u8 n ∈ sl → R = [92, u8 n]) := Lib.hid fun h => by
   rw [← HR.out]; unfold wrt; rw [if_neg h1, if_neg h2, if_neg h3, if_pos (Hmem.out.1 h)]
 have H5 : Hid (u8 n ∉ sl → (32 < n ∧ n < 127) → R = [u8 n]) := Lib.hid fun h h' => by
   rw [← HR.out]; unfold wrt; rw [if_neg h1, if_neg h2, if_neg h3, if_neg (fun q => h (Hmem.out.2 q)), if_pos h']
 have H6 : Hid (u8 n ∉ sl → ¬ (32 < n ∧ n < 127) → R = [92, 120, hexd (n / 16), hexd (n % 16)]) := Lib.hid fun h h' => by
   rw [← HR.out]; unfold wrt; rw [if_neg h1, if_neg h2, if_neg h3, if_neg (fun q => h (Hmem.out.2 q)), if_neg h']
 rw [← hX.out] at H4 H5 H6; have hil : ¬ 9223372036854775807 < 14 + mo.length := by omega
 generalize hix : Lib.indexByte sl (n : Int).toNat.toUInt8 = ix at H4 H5 H6; clear HR h1 h2 h3 Hmem hX; have hI2 : Calls Tryz.prog 21 #[.string ⟨sl.toArray⟩, .int .u8 (n : Nat)] w fun e w' => e = .returned (.int .i64 ix) ∧ w' = w := by rw [← hix]; exact hI
 clear hI hix; have hcat2 : (⟨#[92]⟩ : ByteArray) ++ ⟨#[u8 n]⟩ = ⟨#[92, u8 n]⟩ := ba_lits [92] [u8 n]; go_enter Tryz.func89, Tryz.ntmps89; wkk; refine Calls.mono (hI2) ?_; rintro _ w1 ⟨rfl, rfl⟩; dsimp only; clear hI2
 by_cases hx : 0 ≤ ix
 · have e := H4.out hx; subst e; clear H4 H5 H6; wkka (first | (with_reducible refine wp_conv_lit1 Tryz.underlying82 Tryz.underlying5 Tryz.underlying9 rfl _ rfl rfl ?_)); go_ret; exact ⟨rfl, (Below.refl _ _).alloc (Nat.le_refl _) _⟩
 have hx' : ¬ 0 ≤ ix := hx; have hns := hx
 by_cases hr : 32 < n ∧ n < 127
 · have e := H5.out hx hr; subst e; have hr1 : (32 : Int) < n := by omega
   have hr2 : (n : Int) < 127 := by omega
   clear H4 H5 H6; wkka (first | (with_reducible refine wp_conv_lit1 Tryz.underlying82 Tryz.underlying5 Tryz.underlying9 rfl _ rfl rfl ?_)); go_ret; exact ⟨rfl, (Below.refl _ _).alloc (Nat.le_refl _) _⟩
 · have e := H6.out hx hr; subst e; have hr' : ¬ (32 : Int) < n ∨ ((32 : Int) < n ∧ ¬ (n : Int) < 127) := by omega
   clear H4 H5 H6 hr
   rcases hr' with hr1 | ⟨hr1, hr2⟩
   all_goals
     have hd1 : (n : Int) / 16 = ((n / 16 : Nat) : Int) := by omega
     have hx1 := fun W => hex_at (n / 16) (by omega) W
     have hx2 := fun W => hex_at (n % 16) (by omega) W
     have ha2 := and15 n hn; unfold hexC at hx1 hx2; rw [← hd1] at hx1; clear hd1; obtain ⟨x1, hx1e⟩ : ∃ x, hexd (n / 16) = x := ⟨_, rfl⟩; obtain ⟨x2, hx2e⟩ : ∃ x, hexd (n % 16) = x := ⟨_, rfl⟩; rw [hx1e] at hx1; rw [hx2e] at hx2; have HX1 := Lib.hid hx1e; have HX2 := Lib.hid hx2e; have hts : toU8s [((x1.toNat : Nat) : Int), ((x2.toNat : Nat) : Int)] = [x1, x2] := by simp [toU8s, u8_self]
     have hc1 : (⟨#[92, 120]⟩ : ByteArray) ++ ⟨#[x1, x2]⟩ = ⟨#[92, 120, x1, x2]⟩ := ba_lits [92, 120] [x1, x2]; clear hx1e hx2e; obtain ⟨m2, hm2⟩ : ∃ m, n % 16 = m := ⟨_, rfl⟩; rw [hm2] at hx2 ha2; clear hm2
     repeat' (go_not_at_region 11; first | go_values | go_skip | go_guarded | go_step | go_upon)
     refine wp_region_anyC (by kernel_rfl) w1 ?_; refine tkC 0 rfl ?_; refine tkC 1 rfl ?_; refine tkC 2 rfl ?_; refine tkC 3 rfl ?_; refine tkC 4 rfl ?_; refine tkC 5 rfl ?_; refine genC06 (fun W => Below w1.heap.size w1 W) (Below.refl _ _).drew ?_; intro w2 hb2; refine wpAnyC_ready (CW.of (hb2)) (rs := [6]) (by kernel_rfl) (by simp) ?_; refine (AllReadyC.cons rfl (fun K hK => ?_) AllReadyC.nil); go_simp; refine hK _ _ ?_; clear hK K; have hown := OwnI.lit (B := 0) (e := 5) (k := .u8) w2 [((x1.toNat : Nat) : Int), ((x2.toNat : Nat) : Int)] (Nat.zero_le _) 2 rfl (by unfold maxLen; omega)
     have hb3 : Below w1.heap.size w1 (w2.alloc (.cells ([((x1.toNat : Nat) : Int), ((x2.toNat : Nat) : Int)].map (Value.int .u8)).toArray 5)) := hb2.alloc hb2.size _; change wpAnyC _ _ _ _ _ _ _ _ (w2.alloc (.cells ([((x1.toNat : Nat) : Int), ((x2.toNat : Nat) : Int)].map (Value.int .u8)).toArray 5)); generalize w2.heap.size = g2 at hown ⊢; generalize w2.alloc (.cells ([((x1.toNat : Nat) : Int), ((x2.toNat : Nat) : Int)].map (Value.int .u8)).toArray 5) = w3 at hown hb3 ⊢; refine wpAnyC_ready (CW.of (hb3)) (rs := [7]) (by kernel_rfl) (by simp) ?_
     refine (AllReadyC.cons rfl (fun K hK => ?_) AllReadyC.nil); refine step_of rfl (wp_convT Tryz.underlying82 Tryz.underlying5 Tryz.underlying9 (.tmp 40) rfl rfl hown ?_); refine hK _ _ ?_; clear hK K; rw [hts]; refine tkC 8 rfl ?_; refine tkC 9 rfl ?_; refine wpAnyC_done (by kernel_rfl) (CW.of (hb3)) (by go_simp <;> with_reducible rfl) ?_; have HB3 := Lib.hid hb3; clear hb3 hb2 hown hts hc1 hx1 hx2 ha2; wkk; go_ret; exact ⟨(by have h1 := HX1.out; have h2 := HX2.out; subst h1 h2; rfl), HB3.out⟩
open Go.RowKit
/-- a byte, quoted -/
def qL (n : Nat) : List Int :=
 if n = 34 ∨ n = 92 then [92, (n : Int)] else if n = 10 then [92, 110] else if n = 9 then [92, 116] else if n = 13 then [92, 114]
 else if n < 32 ∨ 126 < n then [92, 120, ((hexd (n / 16)).toNat : Int), ((hexd (n % 16)).toNat : Int)] else [(n : Int)]
theorem qL_len (n : Nat) : (qL n).length ≤ 4 := by
 unfold qL
 repeat' split
 all_goals simp
def qT (s : List UInt8) (i : Nat) : List Int := [34] ++ (s.take i).flatMap fun b => qL b.toNat
theorem qT_succ {s : List UInt8} {i : Nat} (h : i < s.length) : qT s (i + 1) = qT s i ++ qL (s.getD i 0).toNat := by
 unfold qT; rw [List.take_succ_eq_append_getElem h, List.flatMap_append, List.getD_eq_getElem?_getD, List.getElem?_eq_getElem h]
 simp
theorem flat_four : ∀ l : List UInt8, (l.flatMap fun b => qL b.toNat).length ≤ 4 * l.length
 | [] => by simp
 | b :: l => by
   have h1 := qL_len b.toNat; have h2 := flat_four l; rw [List.flatMap_cons, List.length_append, List.length_cons]; omega
theorem qT_len (s : List UInt8) (i : Nat) : (qT s i).length ≤ 4 * i + 1 := by
 have h := flat_four (s.take i); have h2 : (s.take i).length ≤ i := by rw [List.length_take]; omega
 unfold qT; rw [List.length_append, List.length_cons, List.length_nil]; omega
/-- a text, quoted -/
def quo (s : List UInt8) : List UInt8 := toU8s (qT s s.length ++ [34])
theorem quo_len (s : List UInt8) : (quo s).length ≤ 4 * s.length + 2 := by
 have := qT_len s s.length; unfold quo toU8s; rw [List.length_map, List.length_append, List.length_cons, List.length_nil]; omega
theorem byte_at (s : List UInt8) (i : Nat) (hi : i < s.length) (w : World) : (Instr.index 9 (.string ⟨s.toArray⟩) (.int .i64 (i : Int))).run Tryz.prog w = .ok (.int .u8 (((s.getD i 0).toNat : Nat) : Int)) w := by
 have hx : s.getD i 0 = s[i] := by rw [List.getD_eq_getElem?_getD, List.getElem?_eq_getElem hi]; rfl
 have hs : (⟨s.toArray⟩ : ByteArray).size = s.length := by simp [ByteArray.size]
 have hi' : 0 ≤ (i : Int) ∧ (i : Int) < ((⟨s.toArray⟩ : ByteArray).size : Int) := by rw [hs]; omega
 rw [run_index_string w _ _ _ _ Tryz.underlying9, dif_pos hi', hx]; rfl
theorem info_q8 : (Tryz.prog.info? 5).map (fun i => (i.zero, i.size, i.bytes)) = some (some (.int .u8 0), 1, 1) := by kernel_rfl
theorem flat_one (k : IntKind) : ∀ l : List Int, (l.flatMap fun n => [Value.int k n]) = l.map (Value.int k)
 | [] => rfl
 | n :: l => by rw [List.flatMap_cons, flat_one k l, List.map_cons]; rfl
theorem own_IR {B : Nat} {e : TypeId} {k : IntKind} {w : World} {v : Value} {l : List Int} : OwnR (fun n : Int => [Value.int k n]) 1 B e w v l ↔ OwnI B e k w v l := by
 unfold OwnR OwnI; rw [flat_one]
theorem app_intsW {B : Nat} {e : TypeId} {k : IntKind} {P : Program} {w w0 : World} {v : Value} {l0 l1 : List Int} {o : Oper} {a : Act} {K : Act → World → Prop} {Q : Exit → Act → World → Prop} {t : TypeId} {z : Value} (bytes : Nat)
   (h1 : P.underlying t = some (.slice e)) (h2 : (P.info? e).map (fun i => (i.zero, i.size, i.bytes)) = some (some z, 1, bytes)) (hzs : z.cells.size = 1)
   (s x' : Operand) (hop : o.op = Op.call { callee := Callee.builtin Builtin.append, args := #[s, x'], argTypes := #[t, t] }) (hs : a.eval s = v) (hx : OwnI B e k w (a.eval x') l1)
   (hown : OwnI B e k w v l0) (hB : B ≤ w.heap.size) (hbig : (l0.length + l1.length) * bytes ≤ 140737488355328) (h63 : l0.length + l1.length ≤ maxLen) (hw : Below B w0 w)
   (hK : ∀ v' w', OwnI B e k w' v' (l0 ++ l1) → Below B w0 w' → K (a.put o.dst v') w') : o.wp P a w K Q :=
 app_rowW (f := fun n : Int => [Value.int k n]) (sz := 1) bytes (fun _ => rfl) (fun y _ u hu => by simp only [List.mem_singleton] at hu; subst hu; rfl) h1 h2 hzs s x' hop hs (OwnR.row (own_IR.2 hx)) (own_IR.2 hown) hB hbig h63
   fun v' w' r1 r2 => hK v' w' (own_IR.1 r1) (hw.trans (grown_below r2 hB fun _ hk => (OwnR.below (own_IR.2 hown) hk).1))
theorem wp_region_anyG {P : Program} {id : Nat} {Q : Exit → Act → World → Prop} {a : Act} {w : World} {ops : Array Oper} (hm : P.follows .mixedOrders = true) (C : World → Prop)
   (h : wpAnyC P .any ops (CG C) Q ops.size (Array.replicate ops.size false) a w.drew) : (Code.region id ops true).wp P Q a w :=
 wp_region_any hm (wpAnyC.any _ _ _ _ h)
set_option maxRecDepth 100000 in
set_option maxHeartbeats 4000000 in
theorem config_quote (s : List UInt8) (hs : s.length ≤ 1000) (w : World) : Calls Tryz.prog 17 #[.string ⟨s.toArray⟩] w fun e w' => e = .returned (.string ⟨(quo s).toArray⟩) ∧ Below w.heap.size w w' := by
 obtain ⟨S, hS⟩ : ∃ S : ByteArray, S = ⟨s.toArray⟩ := ⟨_, rfl⟩; obtain ⟨n, hn⟩ : ∃ n, n = s.length := ⟨_, rfl⟩; have hsz : S.size = n := by rw [hS, hn]; simp [ByteArray.size]
 have Hix : Hid (∀ i, i < n → ∀ w, (Instr.index 9 (.string S) (.int .i64 (i : Int))).run Tryz.prog w = .ok (.int .u8 (((s.getD i 0).toNat : Nat) : Int)) w) := Lib.hid fun i hi w => by rw [hS]; exact byte_at s i (by rw [← hn]; exact hi) w
 have Hsc : Hid (∀ i, i < n → qT s (i + 1) = qT s i ++ qL (s.getD i 0).toNat) := Lib.hid fun i hi => qT_succ (by rw [← hn]; exact hi)
 have hn1 : n ≤ 1000 := by rw [hn]; exact hs
 obtain ⟨R, hR⟩ : ∃ R, quo s = R := ⟨_, rfl⟩; have HR : Hid (toU8s (qT s n ++ [34]) = R) := Lib.hid (by rw [← hR, hn]; rfl); rw [← hS, hR]; have O0 : Hid (OwnI w.heap.size 5 .u8 (w.alloc (.cells ([34].map (Value.int .u8)).toArray 5)) (.slice (some ⟨w.heap.size, 0, none⟩) 1 1) (qT s 0)) := Lib.hid (OwnI.lit (B := w.heap.size) w [34] (Nat.le_refl _) 1 rfl (by unfold maxLen; omega)); have B0 : Hid (Below w.heap.size w (w.alloc (.cells ([34].map (Value.int .u8)).toArray 5))) := Lib.hid ((Below.refl _ _).alloc (Nat.le_refl _) _); clear hS hn hs hR; go_enter Tryz.func17, Tryz.ntmps17; wkk
 change Code.wp _ _ _ _ (w.alloc (.cells ([34].map (Value.int .u8)).toArray 5)); generalize hw0 : w.alloc (.cells ([34].map (Value.int .u8)).toArray 5) = w0 at O0 B0 ⊢; clear hw0
 go_loopg [3, 9] n (fun gk s3 s9 wr => ∃ i : Nat, s9 = .int .i64 i ∧ i ≤ n ∧ n - i ≤ gk ∧ Hid (OwnI w.heap.size 5 .u8 wr s3 (qT s i)) ∧ Hid (Below w.heap.size w wr))
 case atStart => exact ⟨0, rfl, Nat.zero_le _, by omega, O0, B0⟩
 case round =>
   clear O0 B0; obtain ⟨i, rfl, hi, hgk, HO, HB⟩ := hrel; have hown := HO.out; have hwB := HB.out.size; have hTl := qT_len s i
   by_cases hlt : i < n
   · have hlt' : (i : Int) < n := by omega
     have hix := Hix.out i hlt; have Hs := Lib.hid (Hsc.out i hlt); have hx : (s.getD i 0).toNat < 256 := (s.getD i 0).toNat_lt; generalize (s.getD i 0).toNat = x at hix Hs hx; generalize qT s i = T0 at hown Hs hTl; clear HO; have Hm : True := trivial
     by_cases c1 : x = 34
     · subst c1; have hq : qL 34 = [92, 34] := rfl; rw [hq] at Hs; clear hq Hm; wkka (first | (at_builtin; refine app_ints w.heap.size 1 [_, _] Tryz.underlying82 info_q8 (by decide) rfl _ _ rfl rfl rfl rfl rfl hown hwB (by omega) ?_; intro v3 w3 hown3 hb3 _)); go_roundg (gk - 1)
       case rel => exact ⟨i + 1, by go_num, by omega, by omega, Lib.hid (by rw [Hs.out]; exact hown3), Lib.hid (HB.out.trans hb3)⟩
       case measure => omega
     by_cases c2 : x = 92
     · subst c2; have hq : qL 92 = [92, 92] := rfl; rw [hq] at Hs; clear hq Hm; wkka (first | (at_builtin; refine app_ints w.heap.size 1 [_, _] Tryz.underlying82 info_q8 (by decide) rfl _ _ rfl rfl rfl rfl rfl hown hwB (by omega) ?_; intro v3 w3 hown3 hb3 _)); go_roundg (gk - 1)
       case rel => exact ⟨i + 1, by go_num, by omega, by omega, Lib.hid (by rw [Hs.out]; exact hown3), Lib.hid (HB.out.trans hb3)⟩
       case measure => omega
     by_cases c3 : x = 10
     · subst c3; have hq : qL 10 = [92, 110] := rfl; rw [hq] at Hs; clear hq Hm; wkka (first | (at_builtin; refine app_ints w.heap.size 1 [_, _] Tryz.underlying82 info_q8 (by decide) rfl _ _ rfl rfl rfl rfl rfl hown hwB (by omega) ?_; intro v3 w3 hown3 hb3 _)); go_roundg (gk - 1)
       case rel => exact ⟨i + 1, by go_num, by omega, by omega, Lib.hid (by rw [Hs.out]; exact hown3), Lib.hid (HB.out.trans hb3)⟩
       case measure => omega
     by_cases c4 : x = 9
     · subst c4; have hq : qL 9 = [92, 116] := rfl; rw [hq] at Hs; clear hq Hm; wkka (first | (at_builtin; refine app_ints w.heap.size 1 [_, _] Tryz.underlying82 info_q8 (by decide) rfl _ _ rfl rfl rfl rfl rfl hown hwB (by omega) ?_; intro v3 w3 hown3 hb3 _)); go_roundg (gk - 1)
       case rel => exact ⟨i + 1, by go_num, by omega, by omega, Lib.hid (by rw [Hs.out]; exact hown3), Lib.hid (HB.out.trans hb3)⟩
       case measure => omega
     by_cases c5 : x = 13
     · subst c5; have hq : qL 13 = [92, 114] := rfl; rw [hq] at Hs; clear hq Hm; wkka (first | (at_builtin; refine app_ints w.heap.size 1 [_, _] Tryz.underlying82 info_q8 (by decide) rfl _ _ rfl rfl rfl rfl rfl hown hwB (by omega) ?_; intro v3 w3 hown3 hb3 _)); go_roundg (gk - 1)
       case rel => exact ⟨i + 1, by go_num, by omega, by omega, Lib.hid (by rw [Hs.out]; exact hown3), Lib.hid (HB.out.trans hb3)⟩
       case measure => omega
     have b1 : ((x : Int) == 34) = false := beq_false_of_ne (by omega); have b2 : ((x : Int) == 92) = false := beq_false_of_ne (by omega); have b3 : ((x : Int) == 10) = false := beq_false_of_ne (by omega); have b4 : ((x : Int) == 9) = false := beq_false_of_ne (by omega); have b5 : ((x : Int) == 13) = false := beq_false_of_ne (by omega); have hn12 : ¬ (x = 34 ∨ x = 92) := by omega
     by_cases c6 : x < 32 ∨ 126 < x
     · have hq : qL x = [92, 120, ((hexd (x / 16)).toNat : Int), ((hexd (x % 16)).toNat : Int)] := by unfold qL; rw [if_neg hn12, if_neg c3, if_neg c4, if_neg c5, if_pos c6]
       rw [hq] at Hs; have hd1 : (x : Int) / 16 = ((x / 16 : Nat) : Int) := by omega
       have hx1 := fun W => hex_at (x / 16) (by omega) W
       have hx2 := fun W => hex_at (x % 16) (by omega) W
       have ha2 := and15 x hx; unfold hexC at hx1 hx2; rw [← hd1] at hx1; clear hd1 hq Hm; generalize hexd (x / 16) = x1 at hx1 Hs; generalize hexd (x % 16) = x2 at hx2 Hs; generalize x % 16 = m2 at hx2 ha2; have hr' : (x : Int) < 32 ∨ (¬ (x : Int) < 32 ∧ (126 : Int) < x) := by omega
       clear c1 c2 c3 c4 c5 c6 hn12
       rcases hr' with hr1 | ⟨hr1, hr2⟩
       all_goals
         repeat' (go_not_at_region 16; first | go_values | go_skip | go_guarded | go_step | go_upon)
         refine wp_region_anyG (by kernel_rfl) (fun W => Below w.heap.size w W) ?_; refine tkC 0 rfl ?_; refine tkC 1 rfl ?_; refine tkC 2 rfl ?_; refine tkC 3 rfl ?_; refine tkC 4 rfl ?_; refine tkC 5 rfl ?_; refine tkC 6 rfl ?_; refine genC06 (fun W => Below wr.heap.size wr W) (Below.refl _ _).drew ?_; intro w2 hb2; have hB2 : Below w.heap.size w w2 := HB.out.trans (hb2.mono hwB); have hown2 : OwnI w.heap.size 5 .u8 w2 u3 T0 := OwnC.keep hown hb2 (Nat.le_refl _); refine wpAnyC_ready (CG.of (hB2)) (rs := [7]) (by kernel_rfl) (by simp) ?_
         refine (AllReadyC.cons rfl (fun K hK => ?_) AllReadyC.nil); go_simp; refine hK _ _ ?_; clear hK K; have hlit := OwnI.lit (B := w.heap.size) (e := 5) (k := .u8) w2 [92, 120, ((x1.toNat : Nat) : Int), ((x2.toNat : Nat) : Int)] hB2.size 4 rfl (by unfold maxLen; omega); have hb3 : Below w2.heap.size w2 (w2.alloc (.cells ([92, 120, ((x1.toNat : Nat) : Int), ((x2.toNat : Nat) : Int)].map (Value.int .u8)).toArray 5)) := (Below.refl _ _).alloc (Nat.le_refl _) _
         change wpAnyC _ _ _ _ _ _ _ _ (w2.alloc (.cells ([92, 120, ((x1.toNat : Nat) : Int), ((x2.toNat : Nat) : Int)].map (Value.int .u8)).toArray 5)); have hown3 : OwnI w.heap.size 5 .u8 _ u3 T0 := OwnC.keep hown2 hb3 (Nat.le_refl _); have hB3 := hB2.trans (hb3.mono hB2.size); generalize w2.heap.size = g2 at hlit ⊢; generalize w2.alloc (.cells ([92, 120, ((x1.toNat : Nat) : Int), ((x2.toNat : Nat) : Int)].map (Value.int .u8)).toArray 5) = w3 at hlit hown3 hB3 ⊢; clear hown2 hb3; refine wpAnyC_ready (CG.of (hB3)) (rs := [8]) (by kernel_rfl) (by simp) ?_
         refine (AllReadyC.cons rfl (fun K hK => ?_) AllReadyC.nil); refine step_of rfl (app_intsW (B := w.heap.size) (w0 := w) 1 Tryz.underlying82 info_q8 rfl (.tmp 55) (.tmp 62) rfl rfl hlit hown3 hB3.size (by simp; omega) (by simp only [List.length_cons, List.length_nil]; unfold maxLen; omega) hB3 fun v4 w4 hown4 hb4 => ?_); refine hK _ _ ?_; clear hK K hlit hown3; refine tkC 9 rfl ?_; refine wpAnyC_done (by kernel_rfl) (CG.of (hb4)) (by go_simp <;> with_reducible rfl) ?_; clear hx1 hx2 ha2 hown hB2 hB3 hb2; wkk; go_roundg (gk - 1)
         case rel => exact ⟨i + 1, by go_num, by omega, by omega, Lib.hid (by rw [Hs.out]; exact hown4), Lib.hid hb4⟩
         case measure => omega
     · have hq : qL x = [(x : Int)] := by unfold qL; rw [if_neg hn12, if_neg c3, if_neg c4, if_neg c5, if_neg c6]
       rw [hq] at Hs; have d1 : ¬ (x : Int) < 32 := by omega
       have d2 : ¬ (126 : Int) < x := by omega
       clear hq Hm c1 c2 c3 c4 c5 c6 hn12; wkka (first | (at_builtin; refine app_ints w.heap.size 1 [_] Tryz.underlying82 info_q8 (by decide) rfl _ _ rfl rfl rfl rfl rfl hown hwB (by omega) ?_; intro v3 w3 hown3 hb3 _)); go_roundg (gk - 1)
       case rel => exact ⟨i + 1, by go_num, by omega, by omega, Lib.hid (by rw [Hs.out]; exact hown3), Lib.hid (HB.out.trans hb3)⟩
       case measure => omega
   · obtain rfl : i = n := by omega
     wkka (first | (at_builtin; refine app_ints w.heap.size 1 [_] Tryz.underlying82 info_q8 (by decide) rfl _ _ rfl rfl rfl rfl rfl hown hwB (by omega) ?_; intro v3 w3 hown3 hb3 _) | (with_reducible refine wp_convT Tryz.underlying82 Tryz.underlying5 Tryz.underlying9 _ rfl rfl hown3 ?_)); go_ret; exact ⟨by rw [HR.out]; rfl, HB.out.trans hb3⟩
open Go.RowKit
/-- a byte, between quotes -/
def qB (b : UInt8) : List UInt8 := toU8s (qL b.toNat)
theorem bind_okE {α β : Type} (a : α) (j : Nat) (f : α → Nat → PR β) : (PR.ok a j).bind f = f a j := rfl
theorem quo_is (l : List UInt8) : quo l = [34] ++ (l.flatMap qB ++ [34]) := by
 have h : ∀ l : List UInt8, toU8s (l.flatMap fun b => qL b.toNat) = l.flatMap qB := by
   intro l
   induction l with
   | nil => rfl
   | cons b l ih => rw [List.flatMap_cons, List.flatMap_cons, toU8s_append, ih]; rfl
 unfold quo qT; rw [List.take_length, toU8s_append, toU8s_append, h, List.append_assoc]; rfl
section
variable {s : List UInt8} {en i : Nat}
theorem next_at {c : UInt8} {u : List UInt8} (h : At s i (c :: u)) (he : i < en) : nextR s en i = .ok c.toNat (i + 1) := by
 unfold nextR; rw [if_pos he, h.head.2]
theorem hexQ_at {n : Nat} {u : List UInt8} (hn : n < 16) (h : At s i (hexd n :: u)) (he : i < en) : hexQ s en i = .ok n (i + 1) := by
 unfold hexQ; rw [next_at h he]; simp only [PR.bind]; rw [hexV_hexd ⟨n, hn⟩]
theorem u8_hexd (x : UInt8) : u8 ((x.toNat : Nat) : Int).toNat = x := u8_self x
/-- one byte between quotes is read as that byte -/
theorem qt_one {b : UInt8} {u : List UInt8} {f : Nat} {acc : List UInt8} (h : At s i (qB b ++ u)) (he : i + (qB b).length ≤ en) : qtR s en (f + 1) acc i = qtR s en f (acc ++ [b]) (i + (qB b).length) := by
 have hb := b.toNat_lt; have hbb : u8 b.toNat = b := u8_self b; obtain ⟨n, hn⟩ : ∃ n, b.toNat = n := ⟨_, rfl⟩; unfold qB at h he ⊢; rw [hn] at h he hb hbb ⊢; unfold qL at h he ⊢; have esc : ∀ (v : List UInt8) (k m : Nat), At s i (92 :: v) → i < en → bslR s en (i + 1) = .ok m k → u8 m = b → qtR s en (f + 1) acc i = qtR s en f (acc ++ [b]) k := fun v k m h1 h2 h3 h4 => by
   rw [qtR, next_at h1 h2]; rw [show UInt8.toNat 92 = 92 from rfl, bind_okE, if_neg (by decide), if_neg (by decide), if_neg (by decide), h3]; simp only [PR.bind]; rw [h4]
 by_cases c1 : n = 34 ∨ n = 92
 · rw [if_pos c1] at h he ⊢; have h' : At s i ([92, u8 n] ++ u) := h; have he' : i + 2 ≤ en := he; refine esc _ _ n h' (by omega) ?_ hbb; unfold bslR; rw [next_at (At.tail h') (by omega), u8n hb]; simp only [PR.bind]; rw [if_pos c1]; rfl
 rw [if_neg c1] at h he ⊢
 by_cases c2 : n = 10
 · rw [if_pos c2] at h he ⊢; have h' : At s i ([92, 110] ++ u) := h; have he' : i + 2 ≤ en := he; refine esc _ _ 10 h' (by omega) ?_ (by rw [← c2]; exact hbb); unfold bslR; rw [next_at (At.tail h') (by omega)]; rfl
 rw [if_neg c2] at h he ⊢
 by_cases c3 : n = 9
 · rw [if_pos c3] at h he ⊢; have h' : At s i ([92, 116] ++ u) := h; have he' : i + 2 ≤ en := he; refine esc _ _ 9 h' (by omega) ?_ (by rw [← c3]; exact hbb); unfold bslR; rw [next_at (At.tail h') (by omega)]; rfl
 rw [if_neg c3] at h he ⊢
 by_cases c4 : n = 13
 · rw [if_pos c4] at h he ⊢; have h' : At s i ([92, 114] ++ u) := h; have he' : i + 2 ≤ en := he; refine esc _ _ 13 h' (by omega) ?_ (by rw [← c4]; exact hbb); unfold bslR; rw [next_at (At.tail h') (by omega)]; rfl
 rw [if_neg c4] at h he ⊢
 by_cases c5 : n < 32 ∨ 126 < n
 · rw [if_pos c5] at h he ⊢; have e : toU8s [92, 120, ((hexd (n / 16)).toNat : Int), ((hexd (n % 16)).toNat : Int)] = [92, 120, hexd (n / 16), hexd (n % 16)] := by
     rw [toU8s_cons, toU8s_cons, toU8s_cons, toU8s_cons, u8_hexd, u8_hexd]; rfl
   rw [e] at h he ⊢; have he' : i + 4 ≤ en := he; refine esc _ _ n h (by omega) ?_ hbb; unfold bslR; rw [next_at (At.tail h) (by omega)]; rw [show UInt8.toNat 120 = 120 from rfl, bind_okE, if_neg (by decide), if_neg (by decide), if_neg (by decide), if_neg (by decide), if_pos rfl, hexQ_at (by omega) (At.tail (At.tail h)) (by omega)]; simp only [PR.bind]; rw [hexQ_at (Nat.mod_lt _ (by decide)) (At.tail (At.tail (At.tail h))) (by omega)]; simp only [Nat.div_add_mod]; rfl
 · rw [if_neg c5] at h he ⊢; have h' : At s i (u8 n :: u) := h; have he' : i + 1 ≤ en := he; rw [qtR, next_at h' (by omega), u8n hb]; simp only [PR.bind]; rw [if_neg (fun q => c1 (.inl q)), if_neg c5, if_pos (fun q => c1 (.inr q)), hbb]; rfl
theorem qt_all : ∀ (l : List UInt8) (f i : Nat) (acc : List UInt8), At s i (l.flatMap qB ++ [34]) → i + (l.flatMap qB).length + 1 ≤ en → l.length < f → qtR s en f acc i = .ok (acc ++ l) (i + (l.flatMap qB).length + 1)
 | [], f, i, acc, h, he, hf => by
   obtain ⟨g, rfl⟩ : ∃ g, f = g + 1 := ⟨f - 1, by simp at hf; omega⟩; have h' : At s i [34] := h; rw [qtR, next_at h' (by simp at he; omega), List.append_nil]; rfl
 | b :: l, f, i, acc, h, he, hf => by
   obtain ⟨g, rfl⟩ : ∃ g, f = g + 1 := ⟨f - 1, by simp at hf; omega⟩; rw [List.flatMap_cons, List.append_assoc] at h; rw [List.flatMap_cons, List.length_append] at he ⊢; rw [qt_one h (by omega), qt_all l g _ (acc ++ [b]) h.right (by omega) (by simp at hf; omega), List.append_assoc]; simp only [PR.ok.injEq]; exact ⟨rfl, by omega⟩
/-- a quoted text is read as that text -/
theorem quoted_at {l : List UInt8} {f : Nat} (h : At s i (quo l)) (he : i + (quo l).length ≤ en) (hf : l.length < f) : quotedR s en f i = .ok l (i + (quo l).length) := by
 rw [quo_is] at h he ⊢; simp only [List.length_append, List.length_cons, List.length_nil] at he; have h34 : i < en ∧ bt s i = (34 : UInt8).toNat := ⟨by omega, (At.left h).head.2⟩; unfold quotedR; rw [mustR, if_pos h34, mustR]; simp only [PR.bind]; have hr : At s (i + 1) (l.flatMap qB ++ [34]) := At.right (u := [34]) h; rw [qt_all l f (i + 1) [] hr (by omega) hf, List.nil_append]; simp only [PR.ok.injEq, true_and, List.length_append, List.length_cons, List.length_nil]; omega
/-- a text that stands there is taken -/
theorem must_at : ∀ (u : List UInt8) (i : Nat), At s i u → i + u.length ≤ en → mustR s en u i = .ok () (i + u.length)
 | [], _, _, _ => rfl
 | c :: u, i, h, he => by
   rw [List.length_cons] at he ⊢; rw [mustR, if_pos ⟨by omega, h.head.2⟩, must_at u (i + 1) h.tail (by omega)]; simp only [PR.ok.injEq, true_and]; omega
theorem done_at : doneR en en = .ok () en := by unfold doneR; rw [if_neg (by omega)]
/-- a rule's line is read as that rule -/
theorem rule_at {u v : List UInt8} {f : Nat} (h : At s i (quo u ++ [32, 45, 62, 32] ++ quo v)) (he : i + (quo u ++ [32, 45, 62, 32] ++ quo v).length = en) (hu : u.length < f) (hv : v.length < f) {α : Type} (k : List UInt8 → List UInt8 → Nat → PR α) :
   ((quotedR s en f i).bind fun u i => (mustR s en [32, 45, 62, 32] i).bind fun _ j => (quotedR s en f j).bind fun v k' => (doneR en k').bind fun _ m => k u v m) = k u v en := by
 rw [List.length_append, List.length_append, List.length_cons, List.length_cons, List.length_cons, List.length_cons, List.length_nil] at he; rw [quoted_at h.left.left (by omega) hu, bind_okE, must_at _ _ h.left.right (by simp only [List.length_cons, List.length_nil]; omega), bind_okE]; have hr := h.right; rw [List.length_append, ← Nat.add_assoc] at hr; rw [quoted_at hr (by simp only [List.length_cons, List.length_nil]; omega) hv, bind_okE]; have e : i + (quo u).length + [32, 45, 62, 32].length + (quo v).length = en := by simp only [List.length_cons, List.length_nil]; omega
 have e' : i + (quo u).length + ([32, 45, 62, 32] : List UInt8).length + (quo v).length = en := e; rw [e', done_at, bind_okE]
end
open Go.RowKit
theorem hexd_ne : ∀ n : Fin 16, hexd n.val ≠ 10 := by decide
theorem qB_ne (b : UInt8) : ∀ x ∈ qB b, x ≠ 10 := by
 intro x hx; unfold qB qL at hx; have hb := b.toNat_lt; obtain ⟨n, hn⟩ : ∃ n, b.toNat = n := ⟨_, rfl⟩; rw [hn] at hx hb; have h92 : (92 : UInt8) ≠ 10 := by decide
 split at hx
 · rename_i h; have hx' : x ∈ [92, u8 n] := hx; simp only [List.mem_cons, List.not_mem_nil, or_false] at hx'
   rcases hx' with rfl | rfl
   · exact h92
   · rcases h with rfl | rfl <;> decide
 split at hx
 · have hx' : x ∈ ([92, 110] : List UInt8) := hx; simp only [List.mem_cons, List.not_mem_nil, or_false] at hx'
   rcases hx' with rfl | rfl <;> decide
 split at hx
 · have hx' : x ∈ ([92, 116] : List UInt8) := hx; simp only [List.mem_cons, List.not_mem_nil, or_false] at hx'
   rcases hx' with rfl | rfl <;> decide
 split at hx
 · have hx' : x ∈ ([92, 114] : List UInt8) := hx; simp only [List.mem_cons, List.not_mem_nil, or_false] at hx'
   rcases hx' with rfl | rfl <;> decide
 split at hx
 · have e : toU8s [92, 120, ((hexd (n / 16)).toNat : Int), ((hexd (n % 16)).toNat : Int)] = [92, 120, hexd (n / 16), hexd (n % 16)] := by
     rw [toU8s_cons, toU8s_cons, toU8s_cons, toU8s_cons, u8_hexd, u8_hexd]; rfl
   rw [e] at hx; simp only [List.mem_cons, List.not_mem_nil, or_false] at hx
   rcases hx with rfl | rfl | rfl | rfl
   · exact h92
   · decide
   · exact hexd_ne ⟨n / 16, by omega⟩
   · exact hexd_ne ⟨n % 16, Nat.mod_lt _ (by decide)⟩
 · rename_i _ h10 _ _ _; have hx' : x ∈ [u8 n] := hx; simp only [List.mem_singleton] at hx'; rw [hx']; intro e; have := congrArg UInt8.toNat e; rw [u8n hb] at this; exact h10 this
theorem quo_ne (l : List UInt8) : ∀ x ∈ quo l, x ≠ 10 := by
 intro x hx; rw [quo_is] at hx; simp only [List.mem_append, List.mem_singleton, List.mem_flatMap] at hx
 rcases hx with rfl | ⟨b, _, hb⟩ | rfl
 · decide
 · exact qB_ne b x hb
 · decide
section
variable {s : List UInt8} {b : Nat}
theorem drop_at {u : List UInt8} (h : At s b u) : (s.drop b).take u.length = u := by
 apply List.ext_getElem?; intro k; rw [List.getElem?_take]; split
 · rename_i hk; obtain ⟨h1, h2⟩ := h k hk; rw [List.getElem?_drop, List.getElem?_eq_getElem h1, List.getElem?_eq_getElem hk]; rw [List.getD_eq_getElem?_getD, List.getElem?_eq_getElem h1, List.getD_eq_getElem?_getD, List.getElem?_eq_getElem hk] at h2
   simpa using h2
 · rename_i hk; rw [List.getElem?_eq_none (by omega)]
/-- a line without a line's end in it ends where its text ends -/
theorem endL_at {l : List UInt8} (h : At s b (l ++ [10])) (hl : ∀ x ∈ l, x ≠ 10) : endL s b = b + l.length := by
 have e : s.drop b = (l ++ [10]) ++ (s.drop b).drop (l ++ [10]).length := by
   conv => lhs; rw [← List.take_append_drop (l ++ [10]).length (s.drop b)]
   rw [drop_at h]
 unfold endL; rw [e, List.append_assoc, List.takeWhile_append_of_pos (fun x hx => by simpa using hl x hx)]
 simp
end
open Go.RowKit
theorem word_pass (r : List UInt8) : wordsC.findIdx? (fun w => w.isPrefixOf ([112, 97, 115, 115] ++ r)) = some 0 := rfl
theorem word_rule (r : List UInt8) : wordsC.findIdx? (fun w => w.isPrefixOf ([114, 117, 108, 101, 32] ++ r)) = some 1 := rfl
theorem word_split (r : List UInt8) : wordsC.findIdx? (fun w => w.isPrefixOf ([115, 112, 108, 105, 116, 32] ++ r)) = some 2 := rfl
theorem word_merge (r : List UInt8) : wordsC.findIdx? (fun w => w.isPrefixOf ([109, 101, 114, 103, 101, 32] ++ r)) = some 3 := rfl
theorem word_name (r : List UInt8) : wordsC.findIdx? (fun w => w.isPrefixOf ([110, 97, 109, 101, 32] ++ r)) = some 4 := rfl
theorem word_before (r : List UInt8) : wordsC.findIdx? (fun w => w.isPrefixOf ([98, 101, 102, 111, 114, 101, 32] ++ r)) = some 5 := rfl
theorem word_after (r : List UInt8) : wordsC.findIdx? (fun w => w.isPrefixOf ([97, 102, 116, 101, 114, 32] ++ r)) = some 6 := rfl
section
variable {s : List UInt8} {b f : Nat} {st : CS}
theorem line_is {l : List UInt8} (h : At s b l) : (s.drop b).take (b + l.length - b) = l := by rw [Nat.add_sub_cancel_left]; exact drop_at h
theorem At.ne35 {c : UInt8} {u : List UInt8} (h : At s b (c :: u)) (hc : c.toNat ≠ 35) : ¬ (b = b + (c :: u).length ∨ bt s b = 35) := by
 rintro (q | q)
 · rw [List.length_cons] at q; omega
 · rw [h.head.2] at q; exact hc q
/-- a rule's line -/
theorem line_rule {u v : List UInt8} (h : At s b ([114, 117, 108, 101, 32] ++ (quo u ++ [32, 45, 62, 32] ++ quo v))) (hu : u.length < f) (hv : v.length < f) (hp : st.c.ps.length ≠ 0) :
   lineR s (b + ([114, 117, 108, 101, 32] ++ (quo u ++ [32, 45, 62, 32] ++ quo v) : List UInt8).length) f b st = .ok { st with c := { st.c with ps := st.c.ps.take (st.c.ps.length - 1) ++ [st.c.ps.getD (st.c.ps.length - 1) [] ++ [(u, v)]] } } (b + ([114, 117, 108, 101, 32] ++ (quo u ++ [32, 45, 62, 32] ++ quo v) : List UInt8).length) := by
 have hne : ¬ (b = b + ([114, 117, 108, 101, 32] ++ (quo u ++ [32, 45, 62, 32] ++ quo v) : List UInt8).length ∨ bt s b = 35) := At.ne35 (c := 114) (u := [117, 108, 101, 32] ++ (quo u ++ [32, 45, 62, 32] ++ quo v)) h (by decide); unfold lineR; rw [if_neg hne, line_is h, word_rule]; have hr : At s (b + 5) (quo u ++ [32, 45, 62, 32] ++ quo v) := h.right
 refine (rule_at (en := b + ([114, 117, 108, 101, 32] ++ (quo u ++ [32, 45, 62, 32] ++ quo v) : List UInt8).length) hr (by simp only [List.length_append, List.length_cons, List.length_nil]; omega) hu hv (fun u v m => if st.c.ps.length = 0 then .bad 172 b else .ok { st with c := { st.c with ps := st.c.ps.take (st.c.ps.length - 1) ++ [st.c.ps.getD (st.c.ps.length - 1) [] ++ [(u, v)]] } } m)).trans ?_; exact if_neg hp
/-- a pass's line -/
theorem line_pass (h : At s b [112, 97, 115, 115]) (hp : st.c.ps.length < 4) : lineR s (b + 4) f b st = .ok { st with c := { st.c with ps := st.c.ps ++ [[]] } } (b + 4) := by
 have hne : ¬ (b = b + 4 ∨ bt s b = 35) := At.ne35 (c := 112) (u := [97, 115, 115]) h (by decide); unfold lineR; rw [if_neg hne, show (s.drop b).take (b + 4 - b) = [112, 97, 115, 115] ++ [] from line_is h, word_pass]; rw [done_at, bind_okE, if_neg (by omega)]; rfl
theorem name_at {u : List UInt8} {en i : Nat} (h : At s i (quo u)) (he : i + (quo u).length = en) (hu : u.length < f) {α : Type} (k : List UInt8 → Nat → PR α) :
   ((quotedR s en f i).bind fun u i => (doneR en i).bind fun _ j => k u j) = k u en := by
 rw [quoted_at h (by omega) hu, bind_okE, he, done_at, bind_okE]
/-- a name's line -/
theorem line_name {u : List UInt8} (h : At s b ([110, 97, 109, 101, 32] ++ quo u)) (hu : u.length < f) :
   lineR s (b + ([110, 97, 109, 101, 32] ++ quo u : List UInt8).length) f b st = .ok { st with c := { st.c with ns := st.c.ns ++ [u] } } (b + ([110, 97, 109, 101, 32] ++ quo u : List UInt8).length) := by
 have hne : ¬ (b = b + ([110, 97, 109, 101, 32] ++ quo u : List UInt8).length ∨ bt s b = 35) := At.ne35 (c := 110) (u := [97, 109, 101, 32] ++ quo u) h (by decide); unfold lineR; rw [if_neg hne, line_is h, word_name]; have hr : At s (b + 5) (quo u) := h.right; exact (name_at (en := b + ([110, 97, 109, 101, 32] ++ quo u : List UInt8).length) hr (by simp only [List.length_append, List.length_cons, List.length_nil]; omega) hu (fun u j => .ok { st with c := { st.c with ns := st.c.ns ++ [u] } } j))
/-- a split's line -/
theorem line_split {r : List UInt8} {t : Re} {k : Nat} (h : At s b ([115, 112, 108, 105, 116, 32] ++ r)) (ht : prsA r = .ok t k) (hd : ¬ tooDeep t) (hs : st.split = false) :
   lineR s (b + ([115, 112, 108, 105, 116, 32] ++ r : List UInt8).length) f b st = .ok { st with c := { st.c with re := t }, split := true } (b + ([115, 112, 108, 105, 116, 32] ++ r : List UInt8).length) := by
 have hne : ¬ (b = b + ([115, 112, 108, 105, 116, 32] ++ r : List UInt8).length ∨ bt s b = 35) := At.ne35 (c := 115) (u := [112, 108, 105, 116, 32] ++ r) h (by decide); unfold lineR; rw [if_neg hne, line_is h, word_split]; have hr : At s (b + 6) r := h.right; have he : splitR s (b + ([115, 112, 108, 105, 116, 32] ++ r : List UInt8).length) (b + 6) = .ok t (b + ([115, 112, 108, 105, 116, 32] ++ r : List UInt8).length) := by
   unfold splitR; rw [show b + ([115, 112, 108, 105, 116, 32] ++ r : List UInt8).length - (b + 6) = r.length by simp only [List.length_append, List.length_cons, List.length_nil]; omega, drop_at hr, ht]; exact if_neg hd
 refine (show (if st.split = true then .bad 172 b else (splitR s (b + ([115, 112, 108, 105, 116, 32] ++ r : List UInt8).length) (b + 6)).bind fun t j => .ok { st with c := { st.c with re := t }, split := true } j) = _ from ?_); rw [if_neg (by rw [hs]; decide), he]; rfl
theorem known_at {ns : List (List UInt8)} {u : List UInt8} {m en i : Nat} (h : At s i (quo u)) (he : i + (quo u).length = en) (hu : u.length < f) (hm : ns.findIdx? (· == u) = some m) : knownR s en f ns i = .ok (m : Int) en := by
 unfold knownR; rw [quoted_at h (by omega) hu, bind_okE, he, done_at, bind_okE, hm]
/-- a line of an id ahead -/
theorem line_before {u : List UInt8} {m : Nat} (h : At s b ([98, 101, 102, 111, 114, 101, 32] ++ quo u)) (hu : u.length < f) (hm : st.c.ns.findIdx? (· == u) = some m) :
   lineR s (b + ([98, 101, 102, 111, 114, 101, 32] ++ quo u : List UInt8).length) f b st = .ok { st with c := { st.c with bf := st.c.bf ++ [(m : Int)] } } (b + ([98, 101, 102, 111, 114, 101, 32] ++ quo u : List UInt8).length) := by
 have hne : ¬ (b = b + ([98, 101, 102, 111, 114, 101, 32] ++ quo u : List UInt8).length ∨ bt s b = 35) := At.ne35 (c := 98) (u := [101, 102, 111, 114, 101, 32] ++ quo u) h (by decide); unfold lineR; rw [if_neg hne, line_is h, word_before]; have hr : At s (b + 7) (quo u) := h.right; have hk := known_at (f := f) (en := b + ([98, 101, 102, 111, 114, 101, 32] ++ quo u : List UInt8).length) hr (by simp only [List.length_append, List.length_cons, List.length_nil]; omega) hu hm
 refine (show ((knownR s (b + ([98, 101, 102, 111, 114, 101, 32] ++ quo u : List UInt8).length) f st.c.ns (b + 7)).bind fun n j => .ok { st with c := { st.c with bf := st.c.bf ++ [n] } } j) = _ from ?_); rw [hk, bind_okE]
/-- a line of an id behind -/
theorem line_after {u : List UInt8} {m : Nat} (h : At s b ([97, 102, 116, 101, 114, 32] ++ quo u)) (hu : u.length < f) (hm : st.c.ns.findIdx? (· == u) = some m) :
   lineR s (b + ([97, 102, 116, 101, 114, 32] ++ quo u : List UInt8).length) f b st = .ok { st with c := { st.c with af := st.c.af ++ [(m : Int)] } } (b + ([97, 102, 116, 101, 114, 32] ++ quo u : List UInt8).length) := by
 have hne : ¬ (b = b + ([97, 102, 116, 101, 114, 32] ++ quo u : List UInt8).length ∨ bt s b = 35) := At.ne35 (c := 97) (u := [102, 116, 101, 114, 32] ++ quo u) h (by decide); unfold lineR; rw [if_neg hne, line_is h, word_after]; have hr : At s (b + 6) (quo u) := h.right; have hk := known_at (f := f) (en := b + ([97, 102, 116, 101, 114, 32] ++ quo u : List UInt8).length) hr (by simp only [List.length_append, List.length_cons, List.length_nil]; omega) hu hm
 refine (show ((knownR s (b + ([97, 102, 116, 101, 114, 32] ++ quo u : List UInt8).length) f st.c.ns (b + 6)).bind fun n j => .ok { st with c := { st.c with af := st.c.af ++ [n] } } j) = _ from ?_); rw [hk, bind_okE]
/-- a merge's line -/
theorem line_merge {u v : List UInt8} {l r : Int} (h : At s b ([109, 101, 114, 103, 101, 32] ++ (quo u ++ [32] ++ quo v))) (hu : u.length < f) (hv : v.length < f) (hl : ∀ a i, idR st.ids u a i = .ok l i) (hr : ∀ a i, idR st.ids v a i = .ok r i) :
   lineR s (b + ([109, 101, 114, 103, 101, 32] ++ (quo u ++ [32] ++ quo v) : List UInt8).length) f b st = .ok { st with c := { st.c with ms := st.c.ms ++ [(l, r)] }, ids := if (idOf st.ids (u ++ v)).isSome then st.ids else st.ids ++ [(u ++ v, ((256 + st.c.ms.length : Nat) : Int))] } (b + ([109, 101, 114, 103, 101, 32] ++ (quo u ++ [32] ++ quo v) : List UInt8).length) := by
 have hne : ¬ (b = b + ([109, 101, 114, 103, 101, 32] ++ (quo u ++ [32] ++ quo v) : List UInt8).length ∨ bt s b = 35) := At.ne35 (c := 109) (u := [101, 114, 103, 101, 32] ++ (quo u ++ [32] ++ quo v)) h (by decide); unfold lineR; rw [if_neg hne, line_is h, word_merge]; obtain ⟨en, hen⟩ : ∃ en, b + ([109, 101, 114, 103, 101, 32] ++ (quo u ++ [32] ++ quo v) : List UInt8).length = en := ⟨_, rfl⟩; have ha : At s (b + 6) (quo u ++ [32] ++ quo v) := h.right; have hq : At s (b + 6 + (quo u).length + 1) (quo v) := by
   have := ha.right; rw [List.length_append, List.length_cons, List.length_nil, ← Nat.add_assoc] at this; exact this
 have hlen : b + 6 + (quo u).length + 1 + (quo v).length = en := by rw [← hen]; simp only [List.length_append, List.length_cons, List.length_nil]; omega
 rw [hen]
 refine (show ((quotedR s en f (b + 6)).bind fun u i => (mustR s en [32] i).bind fun _ j => (quotedR s en f j).bind fun v k => (doneR en k).bind fun _ m =>
       (idR st.ids u (b + 6) m).bind fun l _ => (idR st.ids v j m).bind fun r _ =>
         .ok { st with c := { st.c with ms := st.c.ms ++ [(l, r)] }, ids := if (idOf st.ids (u ++ v)).isSome then st.ids else st.ids ++ [(u ++ v, ((256 + st.c.ms.length : Nat) : Int))] } m) = _ from ?_)
 rw [quoted_at ha.left.left (by omega) hu, bind_okE, must_at [32] _ ha.left.right (by simp only [List.length_cons, List.length_nil]; omega), bind_okE]; rw [show b + 6 + (quo u).length + ([32] : List UInt8).length = b + 6 + (quo u).length + 1 from rfl, quoted_at hq (by omega) hv, bind_okE, hlen, done_at, bind_okE, hl, bind_okE, hr, bind_okE]
end
open Go.RowKit
/-- a word of the seven -/
def wrd (k : Nat) : List UInt8 := wordsC.getD k []
theorem wrd_only {l : List UInt8} {k : Nat} (hk : k < 7) (h : (wrd k).isPrefixOf l = true) : wordsC.findIdx? (fun w => w.isPrefixOf l) = some k := by
 rw [List.isPrefixOf_iff_prefix] at h; obtain ⟨r, rfl⟩ := h
 rcases (by omega : k = 0 ∨ k = 1 ∨ k = 2 ∨ k = 3 ∨ k = 4 ∨ k = 5 ∨ k = 6) with rfl | rfl | rfl | rfl | rfl | rfl | rfl
 · exact word_pass r
 · exact word_rule r
 · exact word_split r
 · exact word_merge r
 · exact word_name r
 · exact word_before r
 · exact word_after r
theorem wrd_none {l : List UInt8} (h : ∀ k, k < 7 → (wrd k).isPrefixOf l = false) : wordsC.findIdx? (fun w => w.isPrefixOf l) = none := by
 rw [List.findIdx?_eq_none_iff]; intro w hw; obtain ⟨k, hk, rfl⟩ := List.getElem_of_mem hw; have hk7 : k < 7 := hk; have := h k hk7; unfold wrd at this; rw [List.getD_eq_getElem?_getD, List.getElem?_eq_getElem hk] at this; exact this
/-- how far the words that have been looked at agree with a line -/
def lngF (l : List UInt8) (seen : Array Nat) (k : Nat) : Nat := if seen.contains k = true then agreeN (wrd k) l else 0
def lng (l : List UInt8) (seen : Array Nat) : Nat := ((List.range 7).map (lngF l seen)).foldl max 0
theorem fold_le {n : Nat} : ∀ (L : List Nat) (a : Nat), L.foldl max a ≤ n ↔ a ≤ n ∧ ∀ x ∈ L, x ≤ n
 | [], a => by simp
 | x :: L, a => by
   rw [List.foldl_cons, fold_le L]
   constructor
   · rintro ⟨h1, h2⟩; refine ⟨by omega, fun y hy => ?_⟩
     rcases List.mem_cons.1 hy with rfl | hy
     · omega
     · exact h2 y hy
   · rintro ⟨h1, h2⟩; have := h2 x (by simp); exact ⟨by omega, fun y hy => h2 y (by simp [hy])⟩
theorem lng_iff {l : List UInt8} {seen : Array Nat} {n : Nat} : lng l seen ≤ n ↔ ∀ k, k < 7 → lngF l seen k ≤ n := by
 unfold lng; rw [fold_le]
 constructor
 · rintro ⟨_, h⟩ k hk; exact h _ (List.mem_map.2 ⟨k, List.mem_range.2 hk, rfl⟩)
 · intro h; refine ⟨Nat.zero_le _, fun x hx => ?_⟩; obtain ⟨k, hk, rfl⟩ := List.mem_map.1 hx; exact h k (List.mem_range.1 hk)
theorem lngF_push {l : List UInt8} {seen : Array Nat} {k j : Nat} : lngF l (seen.push k) j = if j = k then agreeN (wrd k) l else lngF l seen j := by
 unfold lngF; rw [Array.contains_push]
 by_cases h : j = k
 · subst h; rw [if_pos rfl, beq_self_eq_true, Bool.or_true, if_pos rfl]
 · rw [if_neg h, beq_false_of_ne h, Bool.or_false]
theorem lng_push {l : List UInt8} {seen : Array Nat} {k : Nat} (hk : k < 7) (hn : seen.contains k = false) : lng l (seen.push k) = max (lng l seen) (agreeN (wrd k) l) := by
 have h0 : lngF l seen k = 0 := by unfold lngF; rw [hn]; rfl
 have a1 := lng_iff.1 (Nat.le_refl (lng l seen)); have a2 := lng_iff.1 (Nat.le_refl (lng l (seen.push k))); refine Nat.le_antisymm (lng_iff.2 fun j hj => ?_) (Nat.max_le.2 ⟨lng_iff.2 fun j hj => ?_, ?_⟩)
 · rw [lngF_push]; split
   · exact Nat.le_max_right _ _
   · exact Nat.le_trans (a1 j hj) (Nat.le_max_left _ _)
 · have := a2 j hj; rw [lngF_push] at this
   by_cases h : j = k
   · subst h; rw [h0]; exact Nat.zero_le _
   · rw [if_neg h] at this; exact this
 · have := a2 k hk; rw [lngF_push, if_pos rfl] at this; exact this
theorem lng_empty (l : List UInt8) : lng l #[] = 0 := Nat.le_antisymm (lng_iff.2 fun k _ => by unfold lngF; simp) (Nat.zero_le _)
theorem lng_all {l : List UInt8} {seen : Array Nat} (h : ∀ k, k < 7 → seen.contains k = true) : lng l seen = (wordsC.map fun w => agreeN w l).foldl max 0 := by
 have e : (List.range 7).map (lngF l seen) = (List.range 7).map fun k => agreeN (wrd k) l := List.map_congr_left fun k hk => by
   unfold lngF; rw [if_pos (h k (List.mem_range.1 hk))]
 unfold lng; rw [e]; rfl
theorem agree_le : ∀ u l : List UInt8, agreeN u l ≤ u.length
 | [], l => by cases l <;> simp [agreeN]
 | c :: u, [] => by simp [agreeN]
 | c :: u, d :: l => by
   rw [agreeN]; split
   · have := agree_le u l; rw [List.length_cons]; omega
   · omega
theorem wrd_len {k : Nat} (hk : k < 7) : (wrd k).length ≤ 7 := by
 rcases (by omega : k = 0 ∨ k = 1 ∨ k = 2 ∨ k = 3 ∨ k = 4 ∨ k = 5 ∨ k = 6) with rfl | rfl | rfl | rfl | rfl | rfl | rfl <;> decide
theorem lng_le {l : List UInt8} {seen : Array Nat} : lng l seen ≤ 7 := lng_iff.2 fun k hk => by
 unfold lngF; split
 · exact Nat.le_trans (agree_le _ _) (wrd_len hk)
 · omega
/-- how far two texts agree, byte by byte -/
theorem agree_go {u l : List UInt8} {n : Nat} (h1 : n < u.length) (h2 : n < l.length) (h : bt u n = bt l n) : agreeN (u.drop n) (l.drop n) = agreeN (u.drop (n + 1)) (l.drop (n + 1)) + 1 := by
 rw [List.drop_eq_getElem_cons h1, List.drop_eq_getElem_cons h2, agreeN]; have e : u[n] = l[n] := by
   unfold bt at h; rw [List.getD_eq_getElem?_getD, List.getD_eq_getElem?_getD, List.getElem?_eq_getElem h1, List.getElem?_eq_getElem h2] at h; exact UInt8.toNat_inj.1 h
 rw [if_pos e]
theorem agree_no {u l : List UInt8} {n : Nat} (h : ¬ n < u.length ∨ ¬ n < l.length ∨ bt u n ≠ bt l n) : agreeN (u.drop n) (l.drop n) = 0 := by
 by_cases h1 : n < u.length
 · by_cases h2 : n < l.length
   · have h3 : bt u n ≠ bt l n := by rcases h with h | h | h; exact absurd h1 h; exact absurd h2 h; exact h
     rw [List.drop_eq_getElem_cons h1, List.drop_eq_getElem_cons h2, agreeN, if_neg]; intro e; refine h3 ?_; unfold bt; rw [List.getD_eq_getElem?_getD, List.getD_eq_getElem?_getD, List.getElem?_eq_getElem h1, List.getElem?_eq_getElem h2, e]
   · rw [List.drop_eq_nil_of_le (Nat.not_lt.1 h2)]
     cases u.drop n <;> rfl
 · rw [List.drop_eq_nil_of_le (Nat.not_lt.1 h1)]
   cases l.drop n <;> rfl
theorem lineR_0 {s : List UInt8} {en f b : Nat} {st : CS} (h0 : ¬ (b = en ∨ bt s b = 35)) (hk : wordsC.findIdx? (fun w => w.isPrefixOf ((s.drop b).take (en - b))) = some 0) : lineR s en f b st = ((doneR en (b + 4)).bind fun _ j => if 4 ≤ st.c.ps.length then .bad 172 b else .ok { st with c := { st.c with ps := st.c.ps ++ [[]] } } j) := by
 unfold lineR; rw [if_neg h0, hk]; rfl
theorem lineR_1 {s : List UInt8} {en f b : Nat} {st : CS} (h0 : ¬ (b = en ∨ bt s b = 35)) (hk : wordsC.findIdx? (fun w => w.isPrefixOf ((s.drop b).take (en - b))) = some 1) : lineR s en f b st = ((quotedR s en f (b + 5)).bind fun u i => (mustR s en [32, 45, 62, 32] i).bind fun _ j => (quotedR s en f j).bind fun v k => (doneR en k).bind fun _ m =>
       if st.c.ps.length = 0 then .bad 172 b else .ok { st with c := { st.c with ps := st.c.ps.take (st.c.ps.length - 1) ++ [st.c.ps.getD (st.c.ps.length - 1) [] ++ [(u, v)]] } } m) := by
 unfold lineR; rw [if_neg h0, hk]; rfl
theorem lineR_2 {s : List UInt8} {en f b : Nat} {st : CS} (h0 : ¬ (b = en ∨ bt s b = 35)) (hk : wordsC.findIdx? (fun w => w.isPrefixOf ((s.drop b).take (en - b))) = some 2) : lineR s en f b st = (if st.split then .bad 172 b else (splitR s en (b + 6)).bind fun t j => .ok { st with c := { st.c with re := t }, split := true } j) := by
 unfold lineR; rw [if_neg h0, hk]; rfl
theorem lineR_3 {s : List UInt8} {en f b : Nat} {st : CS} (h0 : ¬ (b = en ∨ bt s b = 35)) (hk : wordsC.findIdx? (fun w => w.isPrefixOf ((s.drop b).take (en - b))) = some 3) : lineR s en f b st = ((quotedR s en f (b + 6)).bind fun u i => (mustR s en [32] i).bind fun _ j => (quotedR s en f j).bind fun v k => (doneR en k).bind fun _ m =>
       (idR st.ids u (b + 6) m).bind fun l _ => (idR st.ids v j m).bind fun r _ =>
         .ok { st with c := { st.c with ms := st.c.ms ++ [(l, r)] }, ids := if (idOf st.ids (u ++ v)).isSome then st.ids else st.ids ++ [(u ++ v, ((256 + st.c.ms.length : Nat) : Int))] } m) := by
 unfold lineR; rw [if_neg h0, hk]; rfl
theorem lineR_4 {s : List UInt8} {en f b : Nat} {st : CS} (h0 : ¬ (b = en ∨ bt s b = 35)) (hk : wordsC.findIdx? (fun w => w.isPrefixOf ((s.drop b).take (en - b))) = some 4) : lineR s en f b st = ((quotedR s en f (b + 5)).bind fun u i => (doneR en i).bind fun _ j => .ok { st with c := { st.c with ns := st.c.ns ++ [u] } } j) := by
 unfold lineR; rw [if_neg h0, hk]; rfl
theorem lineR_5 {s : List UInt8} {en f b : Nat} {st : CS} (h0 : ¬ (b = en ∨ bt s b = 35)) (hk : wordsC.findIdx? (fun w => w.isPrefixOf ((s.drop b).take (en - b))) = some 5) : lineR s en f b st = ((knownR s en f st.c.ns (b + 7)).bind fun n j => .ok { st with c := { st.c with bf := st.c.bf ++ [n] } } j) := by
 unfold lineR; rw [if_neg h0, hk]; rfl
theorem lineR_6 {s : List UInt8} {en f b : Nat} {st : CS} (h0 : ¬ (b = en ∨ bt s b = 35)) (hk : wordsC.findIdx? (fun w => w.isPrefixOf ((s.drop b).take (en - b))) = some 6) : lineR s en f b st = ((knownR s en f st.c.ns (b + 6)).bind fun n j => .ok { st with c := { st.c with af := st.c.af ++ [n] } } j) := by
 unfold lineR; rw [if_neg h0, hk]; rfl
theorem lineR_none {s : List UInt8} {en f b : Nat} {st : CS} (h0 : ¬ (b = en ∨ bt s b = 35)) (hk : wordsC.findIdx? (fun w => w.isPrefixOf ((s.drop b).take (en - b))) = none) : lineR s en f b st = .bad 170 (b + (wordsC.map fun w => agreeN w ((s.drop b).take (en - b))).foldl max 0) := by
 unfold lineR; rw [if_neg h0, hk]
open Go.RowKit
section
variable {s : List UInt8} {i f : Nat} {st st' : CS}
/-- a line behind the first one -/
theorem lines_step {l : List UInt8} (h : At s i (l ++ [10])) (h0 : i ≠ 0) (hl : ∀ x ∈ l, x ≠ 10) (hr : lineR s (i + l.length) (s.length + 1) i st = .ok st' (i + l.length)) :
   linesR s (f + 1) i st = linesR s f (i + l.length + 1) st' := by
 have hlt : i < s.length := by have := h.right.head.1; omega
 rw [linesR, if_pos hlt, if_neg h0, endL_at h hl, hr, bind_okE]
/-- the first line -/
theorem lines_first (h : At s 0 ([102, 114, 101, 116, 115, 97, 119, 32, 49] ++ [10])) : linesR s (f + 1) 0 st = linesR s f 10 st := by
 have he : endL s 0 = 9 := endL_at h (by decide); rw [linesR, if_pos (by have := (h 0 (by simp)).1; omega), if_pos rfl, he, must_at _ 0 h.left (by decide), bind_okE]; rw [show 0 + ([102, 114, 101, 116, 115, 97, 119, 32, 49] : List UInt8).length = 9 from rfl, done_at, bind_okE, bind_okE]
/-- behind the last line -/
theorem lines_end (h : ¬ i < s.length) : linesR s (f + 1) i st = .ok st i := by rw [linesR, if_neg h]
end
open Go.RowKit
end Go.Proofs.YtonkenlkigfeoaaGreatDoor
