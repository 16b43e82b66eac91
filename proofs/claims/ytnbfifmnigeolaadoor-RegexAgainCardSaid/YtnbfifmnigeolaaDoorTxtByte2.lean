/- Walk: how a byte is written (regex.byteText). Conditions: a byte. -/
import Derived.Test.YtnbfifmnigeolaaDoorTxtPrt
import Derived.Test.YtnbfifmnigeolaaDoorShelf
namespace Go.Proofs.YtnbfifmnigeolaaDoor
open Go.RowKit
def sgU : List UInt8 := [92, 40, 41, 91, 93, 123, 125, 46, 42, 43, 63, 124, 94, 36]
def moreL (inn : Bool) : List UInt8 := if inn then [45, 47] else []
theorem idx_iff {l : List UInt8} {c : UInt8} : (0 ≤ Lib.indexByte l c) ↔ c ∈ l := by
  constructor
  · intro h
    obtain ⟨o, ho⟩ : ∃ o : Nat, Lib.indexByte l c = o := ⟨(Lib.indexByte l c).toNat, by omega⟩
    exact List.mem_of_getElem? (Lib.indexByte_some ho).1
  · intro h
    have h1 := Lib.indexByte_ge l c
    by_cases e : Lib.indexByte l c = -1
    · obtain ⟨k, hk⟩ := List.getElem?_of_mem h
      exact absurd hk (Lib.indexByte_none e k)
    · omega
theorem sgU_is : sgU = sgL.map u8 := by decide
theorem sgn_mem {n : Nat} (hn : n < 256) (inn : Bool) : (u8 n ∈ sgU ++ moreL inn) ↔ (n ∈ sgL ∨ (inn = true ∧ (n = 45 ∨ n = 47))) := by
  have hu : ∀ {m : Nat}, m < 256 → (u8 n = u8 m ↔ n = m) := fun {m} hm => by
    constructor
    · intro h
      have := congrArg UInt8.toNat h
      rwa [u8_toNat_lt hn, u8_toNat_lt hm] at this
    · rintro rfl; rfl
  rw [List.mem_append, sgU_is, List.mem_map]
  have h1 : (∃ a ∈ sgL, u8 a = u8 n) ↔ n ∈ sgL := by
    constructor
    · rintro ⟨a, ha, he⟩
      have hlt : a < 256 := by
        obtain ⟨k, hk⟩ := List.getElem?_of_mem ha
        have hl : k < 14 := (List.getElem?_eq_some_iff.1 hk).1
        have := sgL_lt k
        rw [sgL_get k hl] at hk
        simp only [Option.some.injEq] at hk
        omega
      rw [(hu hlt).1 he.symm]; exact ha
    · intro h; exact ⟨n, h, rfl⟩
  have h2 : u8 n ∈ moreL inn ↔ (inn = true ∧ (n = 45 ∨ n = 47)) := by
    cases inn with
    | false => simp [moreL]
    | true =>
      have a := hu (m := 45) (by decide)
      have b := hu (m := 47) (by decide)
      rw [show moreL true = [u8 45, u8 47] from by decide]
      simp only [List.mem_cons, List.not_mem_nil, or_false, a, b, true_and]
  rw [h1, h2]
set_option maxRecDepth 100000 in
theorem and15' : ∀ b : Fin 256, bits .and .u8 ((b.val : Nat) : Int) 15 = ((b.val % 16 : Nat) : Int) := by decide
theorem and15 (b : Nat) (hb : b < 256) : bits .and .u8 (b : Int) 15 = ((b % 16 : Nat) : Int) := and15' ⟨b, hb⟩
theorem wp_convT {P : Program} {w : World} {o : Oper} {a : Act} {K : Act → World → Prop} {Q : Exit → Act → World → Prop} {B : Nat} {e : TypeId} {v : Value} {l : List Int} {t d : TypeId} (h1 : P.underlying t = some (.slice e)) (h2 : P.underlying e = some (.int .u8)) (h3 : P.underlying d = some .string)
    (x : Operand) (hop : o.op = Op.convert t d x) (hs : a.eval x = v) (hown : OwnI B e .u8 w v l) (hK : K (a.put o.dst (.string ⟨(toU8s l).toArray⟩)) w) : o.wp P a w K Q := by
  have hrun := conv_own h1 h2 h3 hown
  unfold Oper.wp
  simp [execOp, hop, hs, hrun, Result.andThen]
  exact hK
abbrev hexC : Value := .string ⟨#[48, 49, 50, 51, 52, 53, 54, 55, 56, 57, 97, 98, 99, 100, 101, 102]⟩
set_option maxRecDepth 100000 in
theorem hex_at (m : Nat) (hm : m < 16) (w : World) : (Instr.index 9 hexC (.int .u8 (m : Int))).run Tryd.prog w = .ok (.int .u8 ((hexd m).toNat : Nat)) w := by
  rcases (by omega : m = 0 ∨ m = 1 ∨ m = 2 ∨ m = 3 ∨ m = 4 ∨ m = 5 ∨ m = 6 ∨ m = 7 ∨ m = 8 ∨ m = 9 ∨ m = 10 ∨ m = 11 ∨ m = 12 ∨ m = 13 ∨ m = 14 ∨ m = 15) with rfl | rfl | rfl | rfl | rfl | rfl | rfl | rfl | rfl | rfl | rfl | rfl | rfl | rfl | rfl | rfl <;> rfl
set_option maxRecDepth 100000 in
set_option maxHeartbeats 1000000 in
theorem re_byteText (n : Nat) (hn : n < 256) (inn : Bool) (w : World) : Calls Tryd.prog 44 #[.int .u8 (n : Nat), .string ⟨(moreL inn).toArray⟩] w fun e w' => e = .returned (.string ⟨(wrt n inn).toArray⟩) ∧ Below w.heap.size w w' := by
  obtain ⟨R, hR⟩ : ∃ R, wrt n inn = R := ⟨_, rfl⟩
  have HR := Lib.hid hR
  have Hmem := Lib.hid (sgn_mem hn inn)
  have hI : Calls Tryd.prog 59 #[.string ⟨(sgU ++ moreL inn).toArray⟩, .int .u8 (n : Nat)] w _ := Tryd.strings_IndexByte ⟨(sgU ++ moreL inn).toArray⟩ n w
  have hm4 : (moreL inn).length ≤ 2 := by unfold moreL; split <;> decide
  have hcat : (⟨#[92, 40, 41, 91, 93, 123, 125, 46, 42, 43, 63, 124, 94, 36]⟩ : ByteArray) ++ ⟨(moreL inn).toArray⟩ = ⟨(sgU ++ moreL inn).toArray⟩ := ba_lits sgU (moreL inn)
  have hX : Hid (0 ≤ Lib.indexByte (sgU ++ moreL inn) (n : Int).toNat.toUInt8 ↔ u8 n ∈ sgU ++ moreL inn) := Lib.hid (by rw [idx_iff]; rfl)
  generalize sgU ++ moreL inn = sl at hI hcat Hmem hX
  generalize moreL inn = mo at hcat hm4 ⊢
  rw [hR]
  clear hR
  by_cases h1 : n = 10
  · subst h1
    have e : [92, 110] = R := HR.out
    subst e
    go_enter Tryd.func44, Tryd.ntmps44
    repeat' (first | go_values | go_skip | go_guarded | go_step | go_upon)
    go_ret
    exact ⟨rfl, Below.refl _ _⟩
  have b1 : ((n : Int) == 10) = false := beq_false_of_ne (by omega)
  by_cases h2 : n = 9
  · subst h2
    have e : [92, 116] = R := HR.out
    subst e
    go_enter Tryd.func44, Tryd.ntmps44
    repeat' (first | go_values | go_skip | go_guarded | go_step | go_upon)
    go_ret
    exact ⟨rfl, Below.refl _ _⟩
  have b2 : ((n : Int) == 9) = false := beq_false_of_ne (by omega)
  by_cases h3 : n = 13
  · subst h3
    have e : [92, 114] = R := HR.out
    subst e
    go_enter Tryd.func44, Tryd.ntmps44
    repeat' (first | go_values | go_skip | go_guarded | go_step | go_upon)
    go_ret
    exact ⟨rfl, Below.refl _ _⟩
  have b3 : ((n : Int) == 13) = false := beq_false_of_ne (by omega)
  have H4 : Hid (u8 n ∈ sl → R = [92, u8 n]) := Lib.hid fun h => by
    rw [← HR.out]; unfold wrt; rw [if_neg h1, if_neg h2, if_neg h3, if_pos (Hmem.out.1 h)]
  have H5 : Hid (u8 n ∉ sl → (32 < n ∧ n < 127) → R = [u8 n]) := Lib.hid fun h h' => by
    rw [← HR.out]; unfold wrt; rw [if_neg h1, if_neg h2, if_neg h3, if_neg (fun q => h (Hmem.out.2 q)), if_pos h']
  have H6 : Hid (u8 n ∉ sl → ¬ (32 < n ∧ n < 127) → R = [92, 120, hexd (n / 16), hexd (n % 16)]) := Lib.hid fun h h' => by
    rw [← HR.out]; unfold wrt; rw [if_neg h1, if_neg h2, if_neg h3, if_neg (fun q => h (Hmem.out.2 q)), if_neg h']
  rw [← hX.out] at H4 H5 H6
  have hil : ¬ 9223372036854775807 < 14 + mo.length := by omega
  generalize hix : Lib.indexByte sl (n : Int).toNat.toUInt8 = ix at H4 H5 H6
  clear HR h1 h2 h3 Hmem hX
  have hI2 : Calls Tryd.prog 59 #[.string ⟨sl.toArray⟩, .int .u8 (n : Nat)] w fun e w' => e = .returned (.int .i64 ix) ∧ w' = w := by rw [← hix]; exact hI
  clear hI hix
  have hcat2 : (⟨#[92]⟩ : ByteArray) ++ ⟨#[u8 n]⟩ = ⟨#[92, u8 n]⟩ := ba_lits [92] [u8 n]
  go_enter Tryd.func44, Tryd.ntmps44
  repeat' (first | go_values | go_skip | go_guarded | go_step | go_upon)
  refine Calls.mono (hI2) ?_
  rintro _ w1 ⟨rfl, rfl⟩
  dsimp only
  clear hI2
  by_cases hx : 0 ≤ ix
  · have e := H4.out hx
    subst e
    clear H4 H5 H6
    repeat' (first | (with_reducible refine wp_conv_lit1 Tryd.underlying62 Tryd.underlying5 Tryd.underlying9 rfl _ rfl rfl ?_) | go_values | go_skip | go_guarded | go_step | go_upon)
    go_ret
    exact ⟨rfl, (Below.refl _ _).alloc (Nat.le_refl _) _⟩
  have hx' : ¬ 0 ≤ ix := hx
  have hns := hx
  by_cases hr : 32 < n ∧ n < 127
  · have e := H5.out hx hr
    subst e
    have hr1 : (32 : Int) < n := by omega
    have hr2 : (n : Int) < 127 := by omega
    clear H4 H5 H6
    repeat' (first | (with_reducible refine wp_conv_lit1 Tryd.underlying62 Tryd.underlying5 Tryd.underlying9 rfl _ rfl rfl ?_) | go_values | go_skip | go_guarded | go_step | go_upon)
    go_ret
    exact ⟨rfl, (Below.refl _ _).alloc (Nat.le_refl _) _⟩
  · have e := H6.out hx hr
    subst e
    have hr' : ¬ (32 : Int) < n ∨ ((32 : Int) < n ∧ ¬ (n : Int) < 127) := by omega
    clear H4 H5 H6 hr
    rcases hr' with hr1 | ⟨hr1, hr2⟩
    all_goals
      have hd1 : (n : Int) / 16 = ((n / 16 : Nat) : Int) := by omega
      have hx1 := fun W => hex_at (n / 16) (by omega) W
      have hx2 := fun W => hex_at (n % 16) (by omega) W
      have ha2 := and15 n hn
      unfold hexC at hx1 hx2
      rw [← hd1] at hx1
      clear hd1
      obtain ⟨x1, hx1e⟩ : ∃ x, hexd (n / 16) = x := ⟨_, rfl⟩
      obtain ⟨x2, hx2e⟩ : ∃ x, hexd (n % 16) = x := ⟨_, rfl⟩
      rw [hx1e] at hx1
      rw [hx2e] at hx2
      have HX1 := Lib.hid hx1e
      have HX2 := Lib.hid hx2e
      have hts : toU8s [((x1.toNat : Nat) : Int), ((x2.toNat : Nat) : Int)] = [x1, x2] := by simp [toU8s, u8_self]
      have hc1 : (⟨#[92, 120]⟩ : ByteArray) ++ ⟨#[x1, x2]⟩ = ⟨#[92, 120, x1, x2]⟩ := ba_lits [92, 120] [x1, x2]
      clear hx1e hx2e
      obtain ⟨m2, hm2⟩ : ∃ m, n % 16 = m := ⟨_, rfl⟩
      rw [hm2] at hx2 ha2
      clear hm2
      repeat' (go_not_at_region 11; first | go_values | go_skip | go_guarded | go_step | go_upon)
      refine wp_region_anyC (by kernel_rfl) w1 ?_
      refine wpAnyC_take (i := 0) (v := _) rfl (by kernel_rfl) (by kernel_rfl) (by kernel_rfl) (fun _ _ _ h => h) (Or.inl ⟨by rfl, fun w ⟨nq, hw⟩ => by (subst hw; go_simp <;> with_reducible rfl)⟩) (by go_simp <;> with_reducible rfl) ?_
      refine wpAnyC_take (i := 1) (v := _) rfl (by kernel_rfl) (by kernel_rfl) (by kernel_rfl) (fun _ _ _ h => h) (Or.inl ⟨by rfl, fun w ⟨nq, hw⟩ => by (subst hw; go_simp <;> with_reducible rfl)⟩) (by go_simp <;> with_reducible rfl) ?_
      refine wpAnyC_take (i := 2) (v := _) rfl (by kernel_rfl) (by kernel_rfl) (by kernel_rfl) (fun _ _ _ h => h) (Or.inl ⟨by rfl, fun w ⟨nq, hw⟩ => by (subst hw; go_simp <;> with_reducible rfl)⟩) (by go_simp <;> with_reducible rfl) ?_
      refine wpAnyC_take (i := 3) (v := _) rfl (by kernel_rfl) (by kernel_rfl) (by kernel_rfl) (fun _ _ _ h => h) (Or.inl ⟨by rfl, fun w ⟨nq, hw⟩ => by (subst hw; go_simp <;> with_reducible rfl)⟩) (by go_simp <;> with_reducible rfl) ?_
      refine wpAnyC_take (i := 4) (v := _) rfl (by kernel_rfl) (by kernel_rfl) (by kernel_rfl) (fun _ _ _ h => h) (Or.inl ⟨by rfl, fun w ⟨nq, hw⟩ => by (subst hw; go_simp <;> with_reducible rfl)⟩) (by go_simp <;> with_reducible rfl) ?_
      refine wpAnyC_take (i := 5) (v := _) rfl (by kernel_rfl) (by kernel_rfl) (by kernel_rfl) (fun _ _ _ h => h) (Or.inl ⟨by rfl, fun w ⟨nq, hw⟩ => by (subst hw; go_simp <;> with_reducible rfl)⟩) (by go_simp <;> with_reducible rfl) ?_
      refine genC06 (fun W => Below w1.heap.size w1 W) (Below.refl _ _).drew ?_
      intro w2 hb2
      refine wpAnyC_ready (CW.of (hb2)) (rs := [6]) (by kernel_rfl) (by simp) ?_
      refine (AllReadyC.cons rfl (fun K hK => ?_) AllReadyC.nil)
      go_simp
      refine hK _ _ ?_
      clear hK K
      have hown := OwnI.lit (B := 0) (e := 5) (k := .u8) w2 [((x1.toNat : Nat) : Int), ((x2.toNat : Nat) : Int)] (Nat.zero_le _) 2 rfl (by unfold maxLen; omega)
      have hb3 : Below w1.heap.size w1 (w2.alloc (.cells ([((x1.toNat : Nat) : Int), ((x2.toNat : Nat) : Int)].map (Value.int .u8)).toArray 5)) := hb2.alloc hb2.size _
      change wpAnyC _ _ _ _ _ _ _ _ (w2.alloc (.cells ([((x1.toNat : Nat) : Int), ((x2.toNat : Nat) : Int)].map (Value.int .u8)).toArray 5))
      generalize w2.heap.size = g2 at hown ⊢
      generalize w2.alloc (.cells ([((x1.toNat : Nat) : Int), ((x2.toNat : Nat) : Int)].map (Value.int .u8)).toArray 5) = w3 at hown hb3 ⊢
      refine wpAnyC_ready (CW.of (hb3)) (rs := [7]) (by kernel_rfl) (by simp) ?_
      refine (AllReadyC.cons rfl (fun K hK => ?_) AllReadyC.nil)
      refine step_of rfl (wp_convT Tryd.underlying62 Tryd.underlying5 Tryd.underlying9 (.tmp 40) rfl rfl hown ?_)
      refine hK _ _ ?_
      clear hK K
      rw [hts]
      refine wpAnyC_take (i := 8) (v := _) rfl (by kernel_rfl) (by kernel_rfl) (by kernel_rfl) (fun _ _ _ h => h) (Or.inl ⟨by rfl, fun w ⟨nq, hw⟩ => by (subst hw; go_simp <;> with_reducible rfl)⟩) (by go_simp <;> with_reducible rfl) ?_
      refine wpAnyC_take (i := 9) (v := _) rfl (by kernel_rfl) (by kernel_rfl) (by kernel_rfl) (fun _ _ _ h => h) (Or.inl ⟨by rfl, fun w ⟨nq, hw⟩ => by (subst hw; go_simp <;> with_reducible rfl)⟩) (by go_simp <;> with_reducible rfl) ?_
      refine wpAnyC_done (by kernel_rfl) (CW.of (hb3)) (by go_simp <;> with_reducible rfl) ?_
      have HB3 := Lib.hid hb3
      clear hb3 hb2 hown hts hc1 hx1 hx2 ha2
      repeat' (first | go_values | go_skip | go_guarded | go_step | go_upon)
      go_ret
      exact ⟨(by have h1 := HX1.out; have h2 := HX2.out; subst h1 h2; rfl), HB3.out⟩
end Go.Proofs.YtnbfifmnigeolaaDoor
