/- Walks: how a text is quoted (config.quote, fretsawref17.Quote). Condition: at most 1000 bytes. Walk: how a text is quoted (fretsawref17.Quote). Condition: at most 1000 bytes. Plain laws: a configuration's text, line by line (P17.3). No conditions; no program's walk. -/
import Derived.Test.YtkdbdpcdggildaaDoorTxtByte2
import Derived.Test.YtkdbdpcdggildaaDoorCfA
import Derived.Test.YtkdbdpcdggildaaDoorCfD
import Derived.Test.YtkdbdpcdggildaaDoorTxtLaw
namespace Go.Proofs.YtkdbdpcdggildaaDoor
open Go.RowKit
/-- a byte, quoted -/
def qL (n : Nat) : List Int :=
  if n = 34 ∨ n = 92 then [92, (n : Int)] else if n = 10 then [92, 110] else if n = 9 then [92, 116] else if n = 13 then [92, 114]
  else if n < 32 ∨ 126 < n then [92, 120, ((hexd (n / 16)).toNat : Int), ((hexd (n % 16)).toNat : Int)] else [(n : Int)]
theorem qL_len (n : Nat) : (qL n).length ≤ 4 := by
  unfold qL
  repeat' split
  all_goals simp
def qT (s : List UInt8) (i : Nat) : List Int := [34] ++ (s.take i).flatMap fun b => qL b.toNat
theorem qT_zero (s : List UInt8) : qT s 0 = [34] := rfl
theorem qT_succ {s : List UInt8} {i : Nat} (h : i < s.length) : qT s (i + 1) = qT s i ++ qL (s.getD i 0).toNat := by
  unfold qT
  rw [List.take_succ_eq_append_getElem h, List.flatMap_append, List.getD_eq_getElem?_getD, List.getElem?_eq_getElem h]
  simp
theorem flat_four : ∀ l : List UInt8, (l.flatMap fun b => qL b.toNat).length ≤ 4 * l.length
  | [] => by simp
  | b :: l => by
    have h1 := qL_len b.toNat
    have h2 := flat_four l
    rw [List.flatMap_cons, List.length_append, List.length_cons]
    omega
theorem qT_len (s : List UInt8) (i : Nat) : (qT s i).length ≤ 4 * i + 1 := by
  have h := flat_four (s.take i)
  have h2 : (s.take i).length ≤ i := by rw [List.length_take]; omega
  unfold qT
  rw [List.length_append, List.length_cons, List.length_nil]
  omega
/-- a text, quoted -/
def quo (s : List UInt8) : List UInt8 := toU8s (qT s s.length ++ [34])
theorem quo_len (s : List UInt8) : (quo s).length ≤ 4 * s.length + 2 := by
  have := qT_len s s.length
  unfold quo toU8s
  rw [List.length_map, List.length_append, List.length_cons, List.length_nil]
  omega
theorem byte_at (s : List UInt8) (i : Nat) (hi : i < s.length) (w : World) : (Instr.index 9 (.string ⟨s.toArray⟩) (.int .i64 (i : Int))).run Tryd.prog w = .ok (.int .u8 (((s.getD i 0).toNat : Nat) : Int)) w := by
  have hx : s.getD i 0 = s[i] := by rw [List.getD_eq_getElem?_getD, List.getElem?_eq_getElem hi]; rfl
  have hs : (⟨s.toArray⟩ : ByteArray).size = s.length := by simp [ByteArray.size]
  have hi' : 0 ≤ (i : Int) ∧ (i : Int) < ((⟨s.toArray⟩ : ByteArray).size : Int) := by rw [hs]; omega
  rw [run_index_string w _ _ _ _ Tryd.underlying9, dif_pos hi', hx]
  rfl
theorem info_q8 : (Tryd.prog.info? 5).map (fun i => (i.zero, i.size, i.bytes)) = some (some (.int .u8 0), 1, 1) := by kernel_rfl
theorem flat_one (k : IntKind) : ∀ l : List Int, (l.flatMap fun n => [Value.int k n]) = l.map (Value.int k)
  | [] => rfl
  | n :: l => by rw [List.flatMap_cons, flat_one k l, List.map_cons]; rfl
theorem own_IR {B : Nat} {e : TypeId} {k : IntKind} {w : World} {v : Value} {l : List Int} : OwnR (fun n : Int => [Value.int k n]) 1 B e w v l ↔ OwnI B e k w v l := by
  unfold OwnR OwnI
  rw [flat_one]
theorem app_intsW {B : Nat} {e : TypeId} {k : IntKind} {P : Program} {w w0 : World} {v : Value} {l0 l1 : List Int} {o : Oper} {a : Act} {K : Act → World → Prop} {Q : Exit → Act → World → Prop} {t : TypeId} {z : Value} (bytes : Nat)
    (h1 : P.underlying t = some (.slice e)) (h2 : (P.info? e).map (fun i => (i.zero, i.size, i.bytes)) = some (some z, 1, bytes)) (hzs : z.cells.size = 1)
    (s x' : Operand) (hop : o.op = Op.call { callee := Callee.builtin Builtin.append, args := #[s, x'], argTypes := #[t, t] }) (hs : a.eval s = v) (hx : OwnI B e k w (a.eval x') l1)
    (hown : OwnI B e k w v l0) (hB : B ≤ w.heap.size) (hbig : (l0.length + l1.length) * bytes ≤ 140737488355328) (h63 : l0.length + l1.length ≤ maxLen) (hw : Below B w0 w)
    (hK : ∀ v' w', OwnI B e k w' v' (l0 ++ l1) → Below B w0 w' → K (a.put o.dst v') w') : o.wp P a w K Q :=
  app_rowW (f := fun n : Int => [Value.int k n]) (sz := 1) bytes (fun _ => rfl) (fun y _ u hu => by simp only [List.mem_singleton] at hu; subst hu; rfl) h1 h2 hzs s x' hop hs (OwnR.row (own_IR.2 hx)) (own_IR.2 hown) hB hbig h63
    fun v' w' r1 r2 => hK v' w' (own_IR.1 r1) (hw.trans (grown_below r2 hB fun _ hk => (OwnR.below (own_IR.2 hown) hk).1))
theorem wp_region_anyG {P : Program} {id : Nat} {Q : Exit → Act → World → Prop} {a : Act} {w : World} {ops : Array Oper} (hm : P.follows .mixedOrders = true) (C : World → Prop)
    (h : wpAnyC P .any ops (CG C) Q ops.size (Array.replicate ops.size false) a w.drew) : (Code.region id ops true).wp P Q a w :=
  wp_region_any hm (wpAnyC.any _ _ _ _ h)
set_option maxRecDepth 100000 in
set_option maxHeartbeats 4000000 in
theorem config_quote (s : List UInt8) (hs : s.length ≤ 1000) (w : World) : Calls Tryd.prog 15 #[.string ⟨s.toArray⟩] w fun e w' => e = .returned (.string ⟨(quo s).toArray⟩) ∧ Below w.heap.size w w' := by
  obtain ⟨S, hS⟩ : ∃ S : ByteArray, S = ⟨s.toArray⟩ := ⟨_, rfl⟩
  obtain ⟨n, hn⟩ : ∃ n, n = s.length := ⟨_, rfl⟩
  have hsz : S.size = n := by rw [hS, hn]; simp [ByteArray.size]
  have Hix : Hid (∀ i, i < n → ∀ w, (Instr.index 9 (.string S) (.int .i64 (i : Int))).run Tryd.prog w = .ok (.int .u8 (((s.getD i 0).toNat : Nat) : Int)) w) := Lib.hid fun i hi w => by rw [hS]; exact byte_at s i (by rw [← hn]; exact hi) w
  have Hsc : Hid (∀ i, i < n → qT s (i + 1) = qT s i ++ qL (s.getD i 0).toNat) := Lib.hid fun i hi => qT_succ (by rw [← hn]; exact hi)
  have hn1 : n ≤ 1000 := by rw [hn]; exact hs
  obtain ⟨R, hR⟩ : ∃ R, quo s = R := ⟨_, rfl⟩
  have HR : Hid (toU8s (qT s n ++ [34]) = R) := Lib.hid (by rw [← hR, hn]; rfl)
  rw [← hS, hR]
  have O0 : Hid (OwnI w.heap.size 5 .u8 (w.alloc (.cells ([34].map (Value.int .u8)).toArray 5)) (.slice (some ⟨w.heap.size, 0, none⟩) 1 1) (qT s 0)) := Lib.hid (OwnI.lit (B := w.heap.size) w [34] (Nat.le_refl _) 1 rfl (by unfold maxLen; omega))
  have B0 : Hid (Below w.heap.size w (w.alloc (.cells ([34].map (Value.int .u8)).toArray 5))) := Lib.hid ((Below.refl _ _).alloc (Nat.le_refl _) _)
  clear hS hn hs hR
  go_enter Tryd.func15, Tryd.ntmps15
  repeat' (first | go_values | go_skip | go_guarded | go_step | go_upon)
  change Code.wp _ _ _ _ (w.alloc (.cells ([34].map (Value.int .u8)).toArray 5))
  generalize hw0 : w.alloc (.cells ([34].map (Value.int .u8)).toArray 5) = w0 at O0 B0 ⊢
  clear hw0
  go_loopg [3, 9] n (fun gk s3 s9 wr => ∃ i : Nat, s9 = .int .i64 i ∧ i ≤ n ∧ n - i ≤ gk ∧ Hid (OwnI w.heap.size 5 .u8 wr s3 (qT s i)) ∧ Hid (Below w.heap.size w wr))
  case atStart => exact ⟨0, rfl, Nat.zero_le _, by omega, O0, B0⟩
  case round =>
    clear O0 B0
    obtain ⟨i, rfl, hi, hgk, HO, HB⟩ := hrel
    have hown := HO.out
    have hwB := HB.out.size
    have hTl := qT_len s i
    by_cases hlt : i < n
    · have hlt' : (i : Int) < n := by omega
      have hix := Hix.out i hlt
      have Hs := Lib.hid (Hsc.out i hlt)
      have hx : (s.getD i 0).toNat < 256 := (s.getD i 0).toNat_lt
      generalize (s.getD i 0).toNat = x at hix Hs hx
      generalize qT s i = T0 at hown Hs hTl
      clear HO
      have Hm : True := trivial
      by_cases c1 : x = 34
      · subst c1
        have hq : qL 34 = [92, 34] := rfl
        rw [hq] at Hs
        clear hq Hm
        repeat' (first | (at_builtin; refine app_ints w.heap.size 1 [_, _] Tryd.underlying64 info_q8 (by decide) rfl _ _ rfl rfl rfl rfl rfl hown hwB (by omega) ?_; intro v3 w3 hown3 hb3 _) | go_values | go_skip | go_guarded | go_step | go_upon)
        go_roundg (gk - 1)
        case rel => exact ⟨i + 1, by go_num, by omega, by omega, Lib.hid (by rw [Hs.out]; exact hown3), Lib.hid (HB.out.trans hb3)⟩
        case measure => omega
      by_cases c2 : x = 92
      · subst c2
        have hq : qL 92 = [92, 92] := rfl
        rw [hq] at Hs
        clear hq Hm
        repeat' (first | (at_builtin; refine app_ints w.heap.size 1 [_, _] Tryd.underlying64 info_q8 (by decide) rfl _ _ rfl rfl rfl rfl rfl hown hwB (by omega) ?_; intro v3 w3 hown3 hb3 _) | go_values | go_skip | go_guarded | go_step | go_upon)
        go_roundg (gk - 1)
        case rel => exact ⟨i + 1, by go_num, by omega, by omega, Lib.hid (by rw [Hs.out]; exact hown3), Lib.hid (HB.out.trans hb3)⟩
        case measure => omega
      by_cases c3 : x = 10
      · subst c3
        have hq : qL 10 = [92, 110] := rfl
        rw [hq] at Hs
        clear hq Hm
        repeat' (first | (at_builtin; refine app_ints w.heap.size 1 [_, _] Tryd.underlying64 info_q8 (by decide) rfl _ _ rfl rfl rfl rfl rfl hown hwB (by omega) ?_; intro v3 w3 hown3 hb3 _) | go_values | go_skip | go_guarded | go_step | go_upon)
        go_roundg (gk - 1)
        case rel => exact ⟨i + 1, by go_num, by omega, by omega, Lib.hid (by rw [Hs.out]; exact hown3), Lib.hid (HB.out.trans hb3)⟩
        case measure => omega
      by_cases c4 : x = 9
      · subst c4
        have hq : qL 9 = [92, 116] := rfl
        rw [hq] at Hs
        clear hq Hm
        repeat' (first | (at_builtin; refine app_ints w.heap.size 1 [_, _] Tryd.underlying64 info_q8 (by decide) rfl _ _ rfl rfl rfl rfl rfl hown hwB (by omega) ?_; intro v3 w3 hown3 hb3 _) | go_values | go_skip | go_guarded | go_step | go_upon)
        go_roundg (gk - 1)
        case rel => exact ⟨i + 1, by go_num, by omega, by omega, Lib.hid (by rw [Hs.out]; exact hown3), Lib.hid (HB.out.trans hb3)⟩
        case measure => omega
      by_cases c5 : x = 13
      · subst c5
        have hq : qL 13 = [92, 114] := rfl
        rw [hq] at Hs
        clear hq Hm
        repeat' (first | (at_builtin; refine app_ints w.heap.size 1 [_, _] Tryd.underlying64 info_q8 (by decide) rfl _ _ rfl rfl rfl rfl rfl hown hwB (by omega) ?_; intro v3 w3 hown3 hb3 _) | go_values | go_skip | go_guarded | go_step | go_upon)
        go_roundg (gk - 1)
        case rel => exact ⟨i + 1, by go_num, by omega, by omega, Lib.hid (by rw [Hs.out]; exact hown3), Lib.hid (HB.out.trans hb3)⟩
        case measure => omega
      have b1 : ((x : Int) == 34) = false := beq_false_of_ne (by omega)
      have b2 : ((x : Int) == 92) = false := beq_false_of_ne (by omega)
      have b3 : ((x : Int) == 10) = false := beq_false_of_ne (by omega)
      have b4 : ((x : Int) == 9) = false := beq_false_of_ne (by omega)
      have b5 : ((x : Int) == 13) = false := beq_false_of_ne (by omega)
      have hn12 : ¬ (x = 34 ∨ x = 92) := by omega
      by_cases c6 : x < 32 ∨ 126 < x
      · have hq : qL x = [92, 120, ((hexd (x / 16)).toNat : Int), ((hexd (x % 16)).toNat : Int)] := by unfold qL; rw [if_neg hn12, if_neg c3, if_neg c4, if_neg c5, if_pos c6]
        rw [hq] at Hs
        have hd1 : (x : Int) / 16 = ((x / 16 : Nat) : Int) := by omega
        have hx1 := fun W => hex_at (x / 16) (by omega) W
        have hx2 := fun W => hex_at (x % 16) (by omega) W
        have ha2 := and15 x hx
        unfold hexC at hx1 hx2
        rw [← hd1] at hx1
        clear hd1 hq Hm
        generalize hexd (x / 16) = x1 at hx1 Hs
        generalize hexd (x % 16) = x2 at hx2 Hs
        generalize x % 16 = m2 at hx2 ha2
        have hr' : (x : Int) < 32 ∨ (¬ (x : Int) < 32 ∧ (126 : Int) < x) := by omega
        clear c1 c2 c3 c4 c5 c6 hn12
        rcases hr' with hr1 | ⟨hr1, hr2⟩
        all_goals
          repeat' (go_not_at_region 16; first | go_values | go_skip | go_guarded | go_step | go_upon)
          refine wp_region_anyG (by kernel_rfl) (fun W => Below w.heap.size w W) ?_
          refine wpAnyC_take (i := 0) (v := _) rfl (by kernel_rfl) (by kernel_rfl) (by kernel_rfl) (fun _ _ _ h => h) (Or.inl ⟨by rfl, fun w ⟨nq, hw⟩ => by (subst hw; go_simp <;> with_reducible rfl)⟩) (by go_simp <;> with_reducible rfl) ?_
          refine wpAnyC_take (i := 1) (v := _) rfl (by kernel_rfl) (by kernel_rfl) (by kernel_rfl) (fun _ _ _ h => h) (Or.inl ⟨by rfl, fun w ⟨nq, hw⟩ => by (subst hw; go_simp <;> with_reducible rfl)⟩) (by go_simp <;> with_reducible rfl) ?_
          refine wpAnyC_take (i := 2) (v := _) rfl (by kernel_rfl) (by kernel_rfl) (by kernel_rfl) (fun _ _ _ h => h) (Or.inl ⟨by rfl, fun w ⟨nq, hw⟩ => by (subst hw; go_simp <;> with_reducible rfl)⟩) (by go_simp <;> with_reducible rfl) ?_
          refine wpAnyC_take (i := 3) (v := _) rfl (by kernel_rfl) (by kernel_rfl) (by kernel_rfl) (fun _ _ _ h => h) (Or.inl ⟨by rfl, fun w ⟨nq, hw⟩ => by (subst hw; go_simp <;> with_reducible rfl)⟩) (by go_simp <;> with_reducible rfl) ?_
          refine wpAnyC_take (i := 4) (v := _) rfl (by kernel_rfl) (by kernel_rfl) (by kernel_rfl) (fun _ _ _ h => h) (Or.inl ⟨by rfl, fun w ⟨nq, hw⟩ => by (subst hw; go_simp <;> with_reducible rfl)⟩) (by go_simp <;> with_reducible rfl) ?_
          refine wpAnyC_take (i := 5) (v := _) rfl (by kernel_rfl) (by kernel_rfl) (by kernel_rfl) (fun _ _ _ h => h) (Or.inl ⟨by rfl, fun w ⟨nq, hw⟩ => by (subst hw; go_simp <;> with_reducible rfl)⟩) (by go_simp <;> with_reducible rfl) ?_
          refine wpAnyC_take (i := 6) (v := _) rfl (by kernel_rfl) (by kernel_rfl) (by kernel_rfl) (fun _ _ _ h => h) (Or.inl ⟨by rfl, fun w ⟨nq, hw⟩ => by (subst hw; go_simp <;> with_reducible rfl)⟩) (by go_simp <;> with_reducible rfl) ?_
          refine genC06 (fun W => Below wr.heap.size wr W) (Below.refl _ _).drew ?_
          intro w2 hb2
          have hB2 : Below w.heap.size w w2 := HB.out.trans (hb2.mono hwB)
          have hown2 : OwnI w.heap.size 5 .u8 w2 u3 T0 := OwnC.keep hown hb2 (Nat.le_refl _)
          refine wpAnyC_ready (CG.of (hB2)) (rs := [7]) (by kernel_rfl) (by simp) ?_
          refine (AllReadyC.cons rfl (fun K hK => ?_) AllReadyC.nil)
          go_simp
          refine hK _ _ ?_
          clear hK K
          have hlit := OwnI.lit (B := w.heap.size) (e := 5) (k := .u8) w2 [92, 120, ((x1.toNat : Nat) : Int), ((x2.toNat : Nat) : Int)] hB2.size 4 rfl (by unfold maxLen; omega)
          have hb3 : Below w2.heap.size w2 (w2.alloc (.cells ([92, 120, ((x1.toNat : Nat) : Int), ((x2.toNat : Nat) : Int)].map (Value.int .u8)).toArray 5)) := (Below.refl _ _).alloc (Nat.le_refl _) _
          change wpAnyC _ _ _ _ _ _ _ _ (w2.alloc (.cells ([92, 120, ((x1.toNat : Nat) : Int), ((x2.toNat : Nat) : Int)].map (Value.int .u8)).toArray 5))
          have hown3 : OwnI w.heap.size 5 .u8 _ u3 T0 := OwnC.keep hown2 hb3 (Nat.le_refl _)
          have hB3 := hB2.trans (hb3.mono hB2.size)
          generalize w2.heap.size = g2 at hlit ⊢
          generalize w2.alloc (.cells ([92, 120, ((x1.toNat : Nat) : Int), ((x2.toNat : Nat) : Int)].map (Value.int .u8)).toArray 5) = w3 at hlit hown3 hB3 ⊢
          clear hown2 hb3
          refine wpAnyC_ready (CG.of (hB3)) (rs := [8]) (by kernel_rfl) (by simp) ?_
          refine (AllReadyC.cons rfl (fun K hK => ?_) AllReadyC.nil)
          refine step_of rfl (app_intsW (B := w.heap.size) (w0 := w) 1 Tryd.underlying64 info_q8 rfl (.tmp 55) (.tmp 62) rfl rfl hlit hown3 hB3.size (by simp; omega) (by simp only [List.length_cons, List.length_nil]; unfold maxLen; omega) hB3 fun v4 w4 hown4 hb4 => ?_)
          refine hK _ _ ?_
          clear hK K hlit hown3
          refine wpAnyC_take (i := 9) (v := _) rfl (by kernel_rfl) (by kernel_rfl) (by kernel_rfl) (fun _ _ _ h => h) (Or.inl ⟨by rfl, fun w ⟨nq, hw⟩ => by (subst hw; go_simp <;> with_reducible rfl)⟩) (by go_simp <;> with_reducible rfl) ?_
          refine wpAnyC_done (by kernel_rfl) (CG.of (hb4)) (by go_simp <;> with_reducible rfl) ?_
          clear hx1 hx2 ha2 hown hB2 hB3 hb2
          repeat' (first | go_values | go_skip | go_guarded | go_step | go_upon)
          go_roundg (gk - 1)
          case rel => exact ⟨i + 1, by go_num, by omega, by omega, Lib.hid (by rw [Hs.out]; exact hown4), Lib.hid hb4⟩
          case measure => omega
      · have hq : qL x = [(x : Int)] := by unfold qL; rw [if_neg hn12, if_neg c3, if_neg c4, if_neg c5, if_neg c6]
        rw [hq] at Hs
        have d1 : ¬ (x : Int) < 32 := by omega
        have d2 : ¬ (126 : Int) < x := by omega
        clear hq Hm c1 c2 c3 c4 c5 c6 hn12
        repeat' (first | (at_builtin; refine app_ints w.heap.size 1 [_] Tryd.underlying64 info_q8 (by decide) rfl _ _ rfl rfl rfl rfl rfl hown hwB (by omega) ?_; intro v3 w3 hown3 hb3 _) | go_values | go_skip | go_guarded | go_step | go_upon)
        go_roundg (gk - 1)
        case rel => exact ⟨i + 1, by go_num, by omega, by omega, Lib.hid (by rw [Hs.out]; exact hown3), Lib.hid (HB.out.trans hb3)⟩
        case measure => omega
    · obtain rfl : i = n := by omega
      repeat' (first | (at_builtin; refine app_ints w.heap.size 1 [_] Tryd.underlying64 info_q8 (by decide) rfl _ _ rfl rfl rfl rfl rfl hown hwB (by omega) ?_; intro v3 w3 hown3 hb3 _) | (with_reducible refine wp_convT Tryd.underlying64 Tryd.underlying5 Tryd.underlying9 _ rfl rfl hown3 ?_) | go_values | go_skip | go_guarded | go_step | go_upon)
      go_ret
      exact ⟨by rw [HR.out]; rfl, HB.out.trans hb3⟩
end Go.Proofs.YtkdbdpcdggildaaDoor
namespace Go.Proofs.YtkdbdpcdggildaaDoor
open Go.RowKit
set_option maxRecDepth 100000 in
theorem ref17_letter (n : Nat) (hn : n < 16) (w : World) : Calls Tryd.prog 42 #[.int .u8 (n : Nat)] w fun e w' => e = .returned (.int .u8 ((hexd n).toNat : Nat)) ∧ w' = w := by
  by_cases h : n < 10
  · have h1 : (n : Int) < 10 := by omega
    have hw : IntKind.u8.wrap (48 + (n : Int)) = ((48 + n : Nat) : Int) := by rw [IntKind.wrap_u8]; omega
    have e : (hexd n).toNat = 48 + n := by unfold hexd; rw [if_pos h, u8_toNat_lt (by omega)]
    rw [e]
    clear e h
    generalize 48 + n = m at hw ⊢
    go_enter Tryd.func42, Tryd.ntmps42
    repeat' (first | go_values | go_skip | go_guarded | go_step | go_upon)
    go_ret
    exact ⟨rfl, rfl⟩
  · have h1 : ¬ (n : Int) < 10 := by omega
    have hw : IntKind.u8.wrap (97 + (n : Int)) = 97 + (n : Int) := by rw [IntKind.wrap_u8]; omega
    have hw2 : IntKind.u8.wrap (97 + (n : Int) - 10) = ((87 + n : Nat) : Int) := by rw [IntKind.wrap_u8]; omega
    have e : (hexd n).toNat = 87 + n := by unfold hexd; rw [if_neg h, u8_toNat_lt (by omega)]
    rw [e]
    clear e h
    generalize 87 + n = m at hw2 ⊢
    go_enter Tryd.func42, Tryd.ntmps42
    repeat' (first | go_values | go_skip | go_guarded | go_step | go_upon)
    go_ret
    exact ⟨rfl, rfl⟩
set_option maxRecDepth 100000 in
set_option maxHeartbeats 4000000 in
theorem ref_Quote (s : List UInt8) (hs : s.length ≤ 1000) (w : World) : Calls Tryd.prog 19 #[.string ⟨s.toArray⟩] w fun e w' => e = .returned (.string ⟨(quo s).toArray⟩) ∧ Below w.heap.size w w' := by
  obtain ⟨S, hS⟩ : ∃ S : ByteArray, S = ⟨s.toArray⟩ := ⟨_, rfl⟩
  obtain ⟨n, hn⟩ : ∃ n, n = s.length := ⟨_, rfl⟩
  have hsz : S.size = n := by rw [hS, hn]; simp [ByteArray.size]
  have Hix : Hid (∀ i, i < n → ∀ w, (Instr.index 9 (.string S) (.int .i64 (i : Int))).run Tryd.prog w = .ok (.int .u8 (((s.getD i 0).toNat : Nat) : Int)) w) := Lib.hid fun i hi w => by rw [hS]; exact byte_at s i (by rw [← hn]; exact hi) w
  have Hsc : Hid (∀ i, i < n → qT s (i + 1) = qT s i ++ qL (s.getD i 0).toNat) := Lib.hid fun i hi => qT_succ (by rw [← hn]; exact hi)
  have hn1 : n ≤ 1000 := by rw [hn]; exact hs
  obtain ⟨R, hR⟩ : ∃ R, quo s = R := ⟨_, rfl⟩
  have HR : Hid (toU8s (qT s n ++ [34]) = R) := Lib.hid (by rw [← hR, hn]; rfl)
  rw [← hS, hR]
  have O0 : Hid (OwnI w.heap.size 5 .u8 (w.alloc (.cells ([34].map (Value.int .u8)).toArray 5)) (.slice (some ⟨w.heap.size, 0, none⟩) 1 1) (qT s 0)) := Lib.hid (OwnI.lit (B := w.heap.size) w [34] (Nat.le_refl _) 1 rfl (by unfold maxLen; omega))
  have B0 : Hid (Below w.heap.size w (w.alloc (.cells ([34].map (Value.int .u8)).toArray 5))) := Lib.hid ((Below.refl _ _).alloc (Nat.le_refl _) _)
  clear hS hn hs hR
  go_enter Tryd.func19, Tryd.ntmps19
  repeat' (first | go_values | go_skip | go_guarded | go_step | go_upon)
  change Code.wp _ _ _ _ (w.alloc (.cells ([34].map (Value.int .u8)).toArray 5))
  generalize hw0 : w.alloc (.cells ([34].map (Value.int .u8)).toArray 5) = w0 at O0 B0 ⊢
  clear hw0
  go_loopg [3, 4] n (fun gk s3 s4 wr => ∃ i : Nat, s4 = .int .i64 i ∧ i ≤ n ∧ n - i ≤ gk ∧ Hid (OwnI w.heap.size 5 .u8 wr s3 (qT s i)) ∧ Hid (Below w.heap.size w wr))
  case atStart => exact ⟨0, rfl, Nat.zero_le _, by omega, O0, B0⟩
  case round =>
    clear O0 B0
    obtain ⟨i, rfl, hi, hgk, HO, HB⟩ := hrel
    have hown := HO.out
    have hwB := HB.out.size
    have hTl := qT_len s i
    by_cases hlt : i < n
    · have hlt' : (i : Int) < n := by omega
      have hix := Hix.out i hlt
      have Hs := Lib.hid (Hsc.out i hlt)
      have hx : (s.getD i 0).toNat < 256 := (s.getD i 0).toNat_lt
      generalize (s.getD i 0).toNat = x at hix Hs hx
      generalize qT s i = T0 at hown Hs hTl
      clear HO
      have Hm : True := trivial
      by_cases c1 : x = 34
      · subst c1
        have hq : qL 34 = [92, 34] := rfl
        rw [hq] at Hs
        clear hq Hm
        repeat' (first | (at_builtin; refine app_ints w.heap.size 1 [_, _] Tryd.underlying64 info_q8 (by decide) rfl _ _ rfl rfl rfl rfl rfl hown hwB (by omega) ?_; intro v3 w3 hown3 hb3 _) | go_values | go_skip | go_guarded | go_step | go_upon)
        go_roundg (gk - 1)
        case rel => exact ⟨i + 1, by go_num, by omega, by omega, Lib.hid (by rw [Hs.out]; exact hown3), Lib.hid (HB.out.trans hb3)⟩
        case measure => omega
      by_cases c2 : x = 92
      · subst c2
        have hq : qL 92 = [92, 92] := rfl
        rw [hq] at Hs
        clear hq Hm
        repeat' (first | (at_builtin; refine app_ints w.heap.size 1 [_, _] Tryd.underlying64 info_q8 (by decide) rfl _ _ rfl rfl rfl rfl rfl hown hwB (by omega) ?_; intro v3 w3 hown3 hb3 _) | go_values | go_skip | go_guarded | go_step | go_upon)
        go_roundg (gk - 1)
        case rel => exact ⟨i + 1, by go_num, by omega, by omega, Lib.hid (by rw [Hs.out]; exact hown3), Lib.hid (HB.out.trans hb3)⟩
        case measure => omega
      by_cases c3 : x = 10
      · subst c3
        have hq : qL 10 = [92, 110] := rfl
        rw [hq] at Hs
        clear hq Hm
        repeat' (first | (at_builtin; refine app_ints w.heap.size 1 [_, _] Tryd.underlying64 info_q8 (by decide) rfl _ _ rfl rfl rfl rfl rfl hown hwB (by omega) ?_; intro v3 w3 hown3 hb3 _) | go_values | go_skip | go_guarded | go_step | go_upon)
        go_roundg (gk - 1)
        case rel => exact ⟨i + 1, by go_num, by omega, by omega, Lib.hid (by rw [Hs.out]; exact hown3), Lib.hid (HB.out.trans hb3)⟩
        case measure => omega
      by_cases c4 : x = 9
      · subst c4
        have hq : qL 9 = [92, 116] := rfl
        rw [hq] at Hs
        clear hq Hm
        repeat' (first | (at_builtin; refine app_ints w.heap.size 1 [_, _] Tryd.underlying64 info_q8 (by decide) rfl _ _ rfl rfl rfl rfl rfl hown hwB (by omega) ?_; intro v3 w3 hown3 hb3 _) | go_values | go_skip | go_guarded | go_step | go_upon)
        go_roundg (gk - 1)
        case rel => exact ⟨i + 1, by go_num, by omega, by omega, Lib.hid (by rw [Hs.out]; exact hown3), Lib.hid (HB.out.trans hb3)⟩
        case measure => omega
      by_cases c5 : x = 13
      · subst c5
        have hq : qL 13 = [92, 114] := rfl
        rw [hq] at Hs
        clear hq Hm
        repeat' (first | (at_builtin; refine app_ints w.heap.size 1 [_, _] Tryd.underlying64 info_q8 (by decide) rfl _ _ rfl rfl rfl rfl rfl hown hwB (by omega) ?_; intro v3 w3 hown3 hb3 _) | go_values | go_skip | go_guarded | go_step | go_upon)
        go_roundg (gk - 1)
        case rel => exact ⟨i + 1, by go_num, by omega, by omega, Lib.hid (by rw [Hs.out]; exact hown3), Lib.hid (HB.out.trans hb3)⟩
        case measure => omega
      have b1 : ((x : Int) == 34) = false := beq_false_of_ne (by omega)
      have b2 : ((x : Int) == 92) = false := beq_false_of_ne (by omega)
      have b3 : ((x : Int) == 10) = false := beq_false_of_ne (by omega)
      have b4 : ((x : Int) == 9) = false := beq_false_of_ne (by omega)
      have b5 : ((x : Int) == 13) = false := beq_false_of_ne (by omega)
      have hn12 : ¬ (x = 34 ∨ x = 92) := by omega
      by_cases c6 : x < 32 ∨ 126 < x
      · have hq : qL x = [92, 120, ((hexd (x / 16)).toNat : Int), ((hexd (x % 16)).toNat : Int)] := by unfold qL; rw [if_neg hn12, if_neg c3, if_neg c4, if_neg c5, if_pos c6]
        rw [hq] at Hs
        have hd1 : (x : Int) / 16 = ((x / 16 : Nat) : Int) := by omega
        have hd2 : (x : Int) % 16 = ((x % 16 : Nat) : Int) := by omega
        have hl1 := fun W => ref17_letter (x / 16) (by omega) W
        have hl2 := fun W => ref17_letter (x % 16) (by omega) W
        clear hq Hm
        generalize hexd (x / 16) = x1 at hl1 Hs
        generalize hexd (x % 16) = x2 at hl2 Hs
        generalize x / 16 = m1 at hl1 hd1
        generalize x % 16 = m2 at hl2 hd2
        have hr' : ¬ (32 : Int) ≤ x ∨ ((32 : Int) ≤ x ∧ ¬ (x : Int) ≤ 126) := by omega
        clear c1 c2 c3 c4 c5 c6 hn12
        rcases hr' with hr1 | ⟨hr1, hr2⟩
        all_goals
          repeat' (first | go_values | go_skip | go_guarded | go_step | go_upon)
          refine Calls.mono (hl1 _) ?_
          rintro _ w1 ⟨rfl, rfl⟩
          dsimp only
          repeat' (first | go_values | go_skip | go_guarded | go_step | go_upon)
          refine Calls.mono (hl2 _) ?_
          rintro _ w2 ⟨rfl, rfl⟩
          dsimp only
          clear hl1 hl2
          repeat' (first | (at_builtin; refine app_ints w.heap.size 1 [_, _, _, _] Tryd.underlying64 info_q8 (by decide) rfl _ _ rfl rfl rfl rfl rfl hown hwB (by omega) ?_; intro v3 w3 hown3 hb3 _) | go_values | go_skip | go_guarded | go_step | go_upon)
          go_roundg (gk - 1)
          case rel => exact ⟨i + 1, by go_num, by omega, by omega, Lib.hid (by rw [Hs.out]; exact hown3), Lib.hid (HB.out.trans hb3)⟩
          case measure => omega
      · have hq : qL x = [(x : Int)] := by unfold qL; rw [if_neg hn12, if_neg c3, if_neg c4, if_neg c5, if_neg c6]
        rw [hq] at Hs
        have d1 : (32 : Int) ≤ x := by omega
        have d2 : (x : Int) ≤ 126 := by omega
        clear hq Hm c1 c2 c3 c4 c5 c6 hn12
        repeat' (first | (at_builtin; refine app_ints w.heap.size 1 [_] Tryd.underlying64 info_q8 (by decide) rfl _ _ rfl rfl rfl rfl rfl hown hwB (by omega) ?_; intro v3 w3 hown3 hb3 _) | go_values | go_skip | go_guarded | go_step | go_upon)
        go_roundg (gk - 1)
        case rel => exact ⟨i + 1, by go_num, by omega, by omega, Lib.hid (by rw [Hs.out]; exact hown3), Lib.hid (HB.out.trans hb3)⟩
        case measure => omega
    · obtain rfl : i = n := by omega
      repeat' (first | (at_builtin; refine app_ints w.heap.size 1 [_] Tryd.underlying64 info_q8 (by decide) rfl _ _ rfl rfl rfl rfl rfl hown hwB (by omega) ?_; intro v3 w3 hown3 hb3 _) | (with_reducible refine wp_convT Tryd.underlying64 Tryd.underlying5 Tryd.underlying9 _ rfl rfl hown3 ?_) | go_values | go_skip | go_guarded | go_step | go_upon)
      go_ret
      exact ⟨by rw [HR.out]; rfl, HB.out.trans hb3⟩
end Go.Proofs.YtkdbdpcdggildaaDoor
namespace Go.Proofs.YtkdbdpcdggildaaDoor
open Go.RowKit
def ttl : List UInt8 := [102, 114, 101, 116, 115, 97, 119, 32, 49]
def pasw : List UInt8 := [112, 97, 115, 115]
def rulw : List UInt8 := [114, 117, 108, 101, 32]
def arrw : List UInt8 := [32, 45, 62, 32]
def splw : List UInt8 := [115, 112, 108, 105, 116, 32]
def merw : List UInt8 := [109, 101, 114, 103, 101, 32]
def namw : List UInt8 := [110, 97, 109, 101, 32]
def befw : List UInt8 := [98, 101, 102, 111, 114, 101, 32]
def aftw : List UInt8 := [97, 102, 116, 101, 114, 32]
def lnRule (m : RuleP) : List UInt8 := rulw ++ quo m.1 ++ arrw ++ quo m.2
def lnMerge (ts : List (List UInt8)) (m : Int × Int) : List UInt8 := merw ++ quo (ts.getD m.1.toNat []) ++ [32] ++ quo (ts.getD m.2.toNat [])
def lnName (n : List UInt8) : List UInt8 := namw ++ quo n
def lnFrame (p : List UInt8) (ns : List (List UInt8)) (i : Int) : List UInt8 := p ++ quo (ns.getD i.toNat [])
/-- lines, written -/
def lnT (ls : List (List UInt8)) : List UInt8 := (ls.map fun l => l ++ [10]).flatten
theorem lnT_snoc (ls : List (List UInt8)) (x : List UInt8) : lnT (ls ++ [x]) = lnT ls ++ x ++ [10] := by
  unfold lnT
  simp
theorem lnT_tail : ∀ l : List (List UInt8), Lib.joinTail [10] l ++ [10] = [10] ++ lnT l
  | [] => rfl
  | x :: l => by
    have ih := lnT_tail l
    unfold Lib.joinTail lnT at ih ⊢
    simp only [List.map_cons, List.flatten_cons, List.append_assoc] at ih ⊢
    rw [ih]
theorem lnT_join : ∀ (ls : List (List UInt8)), ls ≠ [] → Lib.join ls [10] ++ [10] = lnT ls
  | [], h => absurd rfl h
  | x :: l, _ => by
    have ih := lnT_tail l
    rw [Lib.join_cons, List.append_assoc, ih]
    unfold lnT
    simp
theorem lnT_len : ∀ {ls : List (List UInt8)}, (∀ x ∈ ls, x.length ≤ 600) → (lnT ls).length ≤ 601 * ls.length
  | [], _ => by simp [lnT]
  | x :: l, h => by
    have h1 := h x (by simp)
    have h2 := lnT_len (ls := l) fun y hy => h y (by simp [hy])
    unfold lnT at h2 ⊢
    simp only [List.map_cons, List.flatten_cons, List.length_append, List.length_cons, List.length_nil] at h2 ⊢
    omega
/-- lines that are short and few -/
structure SL (m : Nat) (ls : List (List UInt8)) : Prop where
  short : ∀ x ∈ ls, x.length ≤ 600
  few : ls.length ≤ m
theorem SL.snoc {m : Nat} {ls : List (List UInt8)} (h : SL m ls) {x : List UInt8} (hx : x.length ≤ 600) : SL (m + 1) (ls ++ [x]) := by
  refine ⟨fun y hy => ?_, by have := h.few; rw [List.length_append, List.length_cons, List.length_nil]; omega⟩
  rcases List.mem_append.1 hy with hy | hy
  · exact h.short y hy
  · simp at hy; rw [hy]; exact hx
theorem SL.up {m m' : Nat} {ls : List (List UInt8)} (h : SL m ls) (hm : m ≤ m') : SL m' ls := ⟨h.short, Nat.le_trans h.few hm⟩
theorem SL.len {m : Nat} {ls : List (List UInt8)} (h : SL m ls) (hm : m ≤ 4000) : (lnT ls).length ≤ 2404000 := by
  have := lnT_len h.short
  have := h.few
  omega
theorem SL.join {m : Nat} {ls : List (List UInt8)} (h : SL m ls) (hm : m ≤ 4000) : (Lib.join ls [10]).length ≤ 2404000 := by
  by_cases e : ls = []
  · rw [e, Lib.join_nil]; simp
  · have h1 := h.len hm
    rw [← lnT_join ls e, List.length_append] at h1
    omega
/-- what stands ahead of a rule, of a pass -/
def l1 (ps : List (List RuleP)) (j : Nat) : List (List UInt8) := [ttl] ++ (ps.take j).flatMap fun l => pasw :: l.map lnRule
def lk {α : Type} (b : List (List UInt8)) (f : α → List UInt8) (l : List α) (k : Nat) : List (List UInt8) := b ++ (l.take k).map f
theorem lk_zero {α : Type} (b : List (List UInt8)) (f : α → List UInt8) (l : List α) : lk b f l 0 = b := by unfold lk; simp
theorem lk_succ {α : Type} (b : List (List UInt8)) (f : α → List UInt8) {l : List α} {k : Nat} {x : α} (h : l[k]? = some x) : lk b f l (k + 1) = lk b f l k ++ [f x] := by
  have hk := (List.getElem?_eq_some_iff.1 h).1
  have he := (List.getElem?_eq_some_iff.1 h).2
  unfold lk
  rw [List.take_succ_eq_append_getElem hk, List.map_append, he, ← List.append_assoc]; rfl
theorem lk_all {α : Type} (b : List (List UInt8)) (f : α → List UInt8) (l : List α) : lk b f l l.length = b ++ l.map f := by unfold lk; rw [List.take_length]
theorem l1_zero (ps : List (List RuleP)) : l1 ps 0 = [ttl] := by unfold l1; simp
theorem l1_succ {ps : List (List RuleP)} {j : Nat} {l : List RuleP} (h : ps[j]? = some l) : l1 ps (j + 1) = lk (l1 ps j ++ [pasw]) lnRule l l.length := by
  have hk := (List.getElem?_eq_some_iff.1 h).1
  have he := (List.getElem?_eq_some_iff.1 h).2
  rw [lk_all]
  unfold l1
  rw [List.take_succ_eq_append_getElem hk, List.flatMap_append, he]
  simp
/-- all lines -/
def allL (c : ConfP) (rt : List UInt8) (ts : List (List UInt8)) : List (List UInt8) :=
  lk (lk (lk (lk (l1 c.ps c.ps.length ++ [splw ++ rt]) (lnMerge ts) c.ms c.ms.length) lnName c.ns c.ns.length) (lnFrame befw c.ns) c.bf c.bf.length) (lnFrame aftw c.ns) c.af c.af.length
/-- a configuration that may be -/
structure Gc (h : Nat) (c : ConfP) : Prop where
  ps : c.ps.length ≤ 4
  ru : ∀ (j : Nat) (l : List RuleP), c.ps[j]? = some l → l.length ≤ 64 ∧ ∀ m ∈ l, m.1.length ≤ 16 ∧ m.2.length ≤ 32
  re : rgt h c.re = 0
  tx : textsE c.ms = 0
  ms : c.ms.length ≤ 1024
  ns : c.ns.length ≤ 64 ∧ ∀ n ∈ c.ns, n.length ≤ 32
  bf : c.bf.length ≤ 32 ∧ ∀ x ∈ c.bf, 0 ≤ x ∧ x < c.ns.length
  af : c.af.length ≤ 32 ∧ ∀ x ∈ c.af, 0 ≤ x ∧ x < c.ns.length
theorem passE_all {ps : List (List RuleP)} : ∀ {k : Nat}, passE ps k = 0 → ∀ j, j < k → ruleE (ps.getD j []) = 0
  | 0, _, j, hj => by omega
  | k + 1, h, j, hj => by
    rw [passE] at h
    by_cases e : passE ps k = 0
    · rw [if_pos e] at h
      by_cases ej : j = k
      · rw [ej]; exact h
      · exact passE_all e j (by omega)
    · rw [if_neg e] at h; exact absurd h e
theorem rule_ok {l : List RuleP} (h : ruleE l = 0) : l.length ≤ 64 ∧ ∀ m ∈ l, m.1.length ≤ 16 ∧ m.2.length ≤ 32 := by
  obtain ⟨h1, h2⟩ := ruleE_open h
  refine ⟨h1, fun m hm => ?_⟩
  obtain ⟨i, hi, e⟩ := List.getElem_of_mem hm
  have hb := h2 i hi
  have e1 : l.getD i ([], []) = m := by rw [List.getD_eq_getElem?_getD, List.getElem?_eq_getElem hi, e]; rfl
  unfold badR frm rto at hb
  rw [e1] at hb
  constructor
  · by_cases h : 16 < m.1.length
    · exact absurd (.inr (.inl h)) hb
    · omega
  · by_cases h : 32 < m.2.length
    · exact absurd (.inr (.inr (.inl h))) hb
    · omega
theorem fr_ok {n : Nat} {l : List Int} (h : ¬ frB n l) : l.length ≤ 32 ∧ ∀ x ∈ l, 0 ≤ x ∧ x < n := by
  unfold frB at h
  refine ⟨by by_cases h1 : 32 < l.length; exact absurd (.inl h1) h; omega, fun x hx => ?_⟩
  have h2 : noName n x = false := by
    by_cases e : noName n x = true
    · exact absurd (.inr (List.any_eq_true.2 ⟨x, hx, e⟩)) h
    · simpa using e
  simp [noName] at h2
  omega
theorem conf_good {h : Nat} {c : ConfP} (hz : confE h c = 0) : Gc h c := by
  unfold confE at hz
  by_cases h1 : 4 < c.ps.length
  · rw [if_pos h1] at hz; exact absurd hz (by decide)
  rw [if_neg h1] at hz
  by_cases h2 : passE c.ps c.ps.length = 0
  · rw [if_neg (fun q => q h2)] at hz
    by_cases h3 : 32 < growAll c.ps c.ps.length
    · rw [if_pos h3] at hz; exact absurd hz (by decide)
    rw [if_neg h3] at hz
    by_cases h4 : rgt h c.re = 0
    · rw [if_neg (fun q => q h4)] at hz
      by_cases h5 : 1000 < szR h c.re
      · rw [if_pos h5] at hz; exact absurd hz (by decide)
      rw [if_neg h5] at hz
      by_cases h6 : textsE c.ms = 0
      · rw [if_neg (fun q => q h6)] at hz
        by_cases h7 : 64 < c.ns.length
        · rw [if_pos h7] at hz; exact absurd hz (by decide)
        rw [if_neg h7] at hz
        by_cases h8 : namesBad c.ns
        · rw [if_pos h8] at hz; exact absurd hz (by decide)
        rw [if_neg h8] at hz
        by_cases h9 : frB c.ns.length c.bf ∨ frB c.ns.length c.af
        · rw [if_pos h9] at hz; exact absurd hz (by decide)
        refine ⟨by omega, fun j l hl => ?_, h4, h6, ?_, ⟨by omega, fun n hn => ?_⟩, fr_ok fun q => h9 (.inl q), fr_ok fun q => h9 (.inr q)⟩
        · have := passE_all h2 j (List.getElem?_eq_some_iff.1 hl).1
          rw [List.getD_eq_getElem?_getD, hl] at this
          exact rule_ok this
        · by_cases e : 1024 < c.ms.length
          · rw [textsE_long e] at h6; exact absurd h6 (by decide)
          · omega
        · obtain ⟨i, hi, e⟩ := List.getElem_of_mem hn
          have hb : ¬ badN c.ns i := fun q => h8 ⟨i, hi, q⟩
          have e1 : nam c.ns i = n := by unfold nam; rw [List.getD_eq_getElem?_getD, List.getElem?_eq_getElem hi, e]; rfl
          unfold badN at hb
          rw [e1] at hb
          by_cases q : 32 < n.length
          · exact absurd (.inr (.inl q)) hb
          · omega
      · rw [if_pos h6] at hz; exact absurd hz h6
    · rw [if_pos h4] at hz; exact absurd hz h4
  · rw [if_pos h2] at hz; exact absurd hz h2
/-- merges of texts that are there -/
theorem txTo_idx {l : List (Int × Int)} : ∀ {n : Nat} {ts : List (List UInt8)}, txTo l n = some ts → ts.length = 256 + n ∧ ∀ k, k < n → (0 ≤ (l.getD k (0, 0)).1 ∧ (l.getD k (0, 0)).1 < ts.length) ∧ (0 ≤ (l.getD k (0, 0)).2 ∧ (l.getD k (0, 0)).2 < ts.length)
  | 0, ts, h => by
    rw [txTo] at h
    simp only [Option.some.injEq] at h
    subst h
    exact ⟨by simp [tx0], fun k hk => by omega⟩
  | n + 1, ts, h => by
    rw [txTo] at h
    obtain ⟨t0, h0, h1⟩ := Option.bind_eq_some_iff.1 h
    obtain ⟨hl, hi⟩ := txTo_idx h0
    unfold txStep at h1
    split at h1
    · rename_i hc
      simp only [Option.some.injEq] at h1
      subst h1
      have hL : (t0 ++ [t0.getD (l.getD n (0, 0)).1.toNat [] ++ t0.getD (l.getD n (0, 0)).2.toNat []]).length = t0.length + 1 := by simp
      rw [hL]
      refine ⟨by omega, fun k hk => ?_⟩
      by_cases e : k = n
      · subst e; omega
      · have := hi k (by omega); omega
    · cases h1
end Go.Proofs.YtkdbdpcdggildaaDoor
