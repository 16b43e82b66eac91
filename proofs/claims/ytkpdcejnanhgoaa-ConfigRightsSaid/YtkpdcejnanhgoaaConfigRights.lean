/- Walk: the statement ConfigRights. Condition: the configuration lies in memory. -/
import Derived.Test.YtkpdcejnanhgoaaConfRight
import Derived.Test.YtkpdcejnanhgoaaConfRef
import Derived.Test.YtkpdcejnanhgoaaConfOpen
namespace Go.Proofs.Ytkpdcejnanhgoaa
open Go.RowKit
theorem info_cf : (Try.prog.info? 34).map (·.size) = some 13 := by kernel_rfl
theorem exec_load_cf {o : Oper} {a : Act} {w : World} {g : Nat} {r : RN} {vp vm vn vb va : Value} (hs : CBox w g r vp vm vn vb va) (x : Operand) (ho : o.op = .load 34 x) (hx : a.eval x = .pointer (some ⟨g, 0, none⟩)) : (execOp a.eval o).run Try.prog w = .ok (.value (.agg (cfC r vp vm vn vb va))) w := by
  have r1 := run_loadVar_row (P := Try.prog) w g 34 34 (cfC r vp vm vn vb va) (0, 0) _ hs Try.underlying34 rfl info_cf
  unfold execOp
  simp only [ho, hx, Instr.loadAt, Instr.sureAddr, Sem.run_bind, Sem.run_pure, Result.andThen_ok, r1]
set_option maxRecDepth 100000 in
set_option maxHeartbeats 4000000 in
theorem law_ConfigRights (w : World) (h : Nat) (r : RN) (vp vm vn vb va : Value) (c : ConfP) (H : CfAt w h r vp vm vn vb va c) :
    Calls Try.prog 3 #[.agg (cfC r vp vm vn vb va)] w fun e w' => e = .returned (.bool true) ∧ Below w.heap.size w w' := by
  have HP : Hid (CBox (w.alloc (.cells (cfC r vp vm vn vb va) 34)) w.heap.size r vp vm vn vb va) := Lib.hid (CBox.new _ _ _ _ _ _ _)
  have Hb0 : Hid (Below w.heap.size w (w.alloc (.cells (cfC r vp vm vn vb va) 34))) := Lib.hid ((Below.refl _ _).alloc (Nat.le_refl _) _)
  have HA := Lib.hid fun W (hW : Below w.heap.size w W) => config_Right h r vp vm vn vb va c W (H.keep hW)
  have HC := Lib.hid fun W (hW : Below w.heap.size w W) => ref_ConfRight h r vp vm vn vb va c W (H.keep hW)
  generalize confE h c = R at HA HC
  have HP2 := HP.out
  clear H HP
  go_enter Try.func3, Try.ntmps3
  repeat' (go_not_at_region 1; first | go_values | go_skip | go_guarded | go_step | go_upon)
  refine gen_worldS (fun W => CBox W w.heap.size r vp vm vn vb va ∧ Below w.heap.size w W) ⟨HP2, Hb0.out⟩ ?_
  clear HP2 Hb0
  rintro w1 ⟨hP1, hb1⟩
  have HP := Lib.hid hP1
  have HB := Lib.hid hb1
  clear hP1 hb1
  refine wp_region_anyC (by kernel_rfl) w1 ?_
  refine wpAnyC_take (i := 0) (v := _) rfl (by kernel_rfl) (by kernel_rfl) (by kernel_rfl) (fun _ _ _ h => h) (Or.inl ⟨by rfl, fun w ⟨nq, hw⟩ => by (subst hw; exact exec_load_cf (HP.out.keep nq.2) _ rfl rfl)⟩) (by go_simp <;> with_reducible rfl) ?_
  refine wpAnyC_take (i := 2) (v := _) rfl (by kernel_rfl) (by kernel_rfl) (by kernel_rfl) (fun _ _ _ h => h) (Or.inl ⟨by rfl, fun w ⟨nq, hw⟩ => by (subst hw; exact exec_load_cf (HP.out.keep nq.2) _ rfl rfl)⟩) (by go_simp <;> with_reducible rfl) ?_
  refine genC13 (fun W => Below w1.heap.size w1 W) (Below.refl _ _).drew ?_
  intro w2 hb2
  refine wpAnyC_ready (CW.of (hb2)) (rs := [1]) (by kernel_rfl) (by simp) ?_
  refine (AllReadyC.cons rfl (fun K hK => ?_) AllReadyC.nil)
  go_simp
  refine Calls.mono (HA.out w2 (HB.out.trans (hb2.mono HB.out.size))) ?_
  rintro _ w3 ⟨rfl, hb3⟩
  dsimp only
  refine hK _ _ ?_
  clear hK K
  have hb4 : Below w1.heap.size w1 w3 := hb2.trans (hb3.mono hb2.size)
  clear hb2 hb3
  refine wpAnyC_ready (CW.of (hb4)) (rs := [3]) (by kernel_rfl) (by simp) ?_
  refine (AllReadyC.cons rfl (fun K hK => ?_) AllReadyC.nil)
  go_simp
  refine Calls.mono (HC.out w3 (HB.out.trans (hb4.mono HB.out.size))) ?_
  rintro _ w5 ⟨rfl, hb5⟩
  dsimp only
  refine hK _ _ ?_
  clear hK K
  have hb6 : Below w1.heap.size w1 w5 := hb4.trans (hb5.mono hb4.size)
  clear hb4 hb5
  refine wpAnyC_take (i := 4) (v := _) rfl (by kernel_rfl) (by kernel_rfl) (by kernel_rfl) (fun _ _ _ h => h) (Or.inl ⟨by rfl, fun w ⟨nq, hw⟩ => by (subst hw; go_simp <;> with_reducible rfl)⟩) (by go_simp <;> with_reducible rfl) ?_
  refine wpAnyC_take (i := 5) (v := _) rfl (by kernel_rfl) (by kernel_rfl) (by kernel_rfl) (fun _ _ _ h => h) (Or.inl ⟨by rfl, fun w ⟨nq, hw⟩ => by (subst hw; go_simp <;> with_reducible rfl)⟩) (by go_simp <;> with_reducible rfl) ?_
  refine wpAnyC_done (by kernel_rfl) (CW.of (hb6)) (by go_simp <;> with_reducible rfl) ?_
  have HB6 := Lib.hid (HB.out.trans (hb6.mono HB.out.size))
  clear hb6 HA HC HP HB
  repeat' (first | go_values | go_skip | go_guarded | go_step | go_upon)
  go_ret
  exact ⟨rfl, HB6.out⟩
end Go.Proofs.Ytkpdcejnanhgoaa
