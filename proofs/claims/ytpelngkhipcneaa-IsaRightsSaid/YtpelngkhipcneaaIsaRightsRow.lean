/- IsaRights: the given statement, from the walk theorem law_IsaRights. No conditions beyond the statement's own. -/
import Derived.Test.YtpelngkhipcneaaRows
import Derived.Test.YtpelngkhipcneaaIsaRights
import Derived.Test.YtpelngkhipcneaaOpen
import Derived.ProofKit
import Derived.OpenShut
import Derived.ShutString
import Derived.ChangeOld
import Derived.Below
import Derived.SizedLaws
namespace Go.Proofs.Ytpelngkhipcneaa.isaRights
open Go.ChangeShapes Go.WideShapes Go.ChangeAt Go.RowKit
open Go.ChangeMaps (open_string shut_string)
set_option linter.unusedVariables false

theorem own : ownKnob Try.prog.godebug = none := by kernel_rfl
theorem laidOut : laidOutB Try.prog = true := by kernel_rfl

theorem bulk_lits {H : Type} (k : IntKind) (l : List Int) : Rows.uptoBulkAll (lits (H := H) k l) = l.length := by
  induction l with
  | nil => rfl
  | cons a l ih =>
    show Rows.uptoBulkAll (DataW.lit (.int k a) :: lits k l) = _
    rw [Rows.uptoBulkAll, ih, show Rows.uptoBulk (DataW.lit (H := H) (.int k a)) = 1 from by simp [Rows.uptoBulk]]
    simp; omega
theorem row_cap {k : IntKind} {w : World} {a : Option Addr} {len cap : Nat} {zs : List Int} (h : IsRow k w a len cap zs) : cap = zs.length ∧ len ≤ cap := by
  rcases h with ⟨rfl, rfl, rfl, rfl⟩ | ⟨x, rfl, hl, hm, hz, _⟩
  · exact ⟨rfl, Nat.le_refl _⟩
  · exact ⟨hz.symm, hl⟩

theorem sized_0 : Try.prog.cellsOf 23 = 5 := by kernel_rfl
theorem parts_0 {cs : Array Value} (h : cs.size = Try.prog.cellsOf 23) : ∃ x0_0 x0_1 x0_2 x0_3 x0_4, cs = #[x0_0, x0_1, x0_2, x0_3, x0_4] := by
  rw [sized_0] at h
  obtain ⟨l⟩ := cs
  match l, h with
  | [x0_0, x0_1, x0_2, x0_3, x0_4], _ => exact ⟨x0_0, x0_1, x0_2, x0_3, x0_4, rfl⟩
theorem flat_0 : flat Try.prog 20 23 = some [.int .i64, .int .i64, .int .i64, .int .i64, .int .i64] := by kernel_rfl

set_option maxRecDepth 100000 in
set_option maxHeartbeats 1000000 in
theorem lifted (os : Os) (started : os.Started) (H : Type) (enc : TypeId × Value → H) :
    ReturnsInHanded {} Try.checked os 3 .any (Rows.isaRightsSpec.pre6 enc Try.prog Try.f3 Rows.isaRightsRow.domain false) (Rows.isaRightsSpec.post enc Try.prog Try.f3 false true false false) := by
  refine returnsInHanded_of_change_sized (C := Try.checked) own started (by kernel_rfl) Try.func3
    (ChangeSpec.witness6 (enc := enc) (C := Try.checked) false ⟨#[], #[.agg #[.int .i64 0, .int .i64 0, .int .i64 0, .int .i64 0, .int .i64 0]], []⟩ 8 (by kernel_rfl) (by kernel_rfl) (by kernel_rfl) (by kernel_rfl)) ?_
  intro W base args ds gs before hval0 hW hcnd hsz0 _
  have hval : ∀ (j : Nat) t v, Try.f3.params[j]? = some t → args[j]? = some v → Value.okWide Try.prog W .any base t v := hval0
  have hW' := hW
  obtain ⟨p, q, hA0, hV, rfl, hfz, hnd⟩ := hW
  have hA : DataW.TrodAll enc Try.prog W 0 (fun _ => true) true Try.f3.params.toList args.toList ds p := hA0
  have hsz : (DataW.weightsEach Try.prog (Try.f3.params.toList ++ Rows.isaRightsSpec.plain.varTypes Try.prog) (ds ++ gs)).all (· ≤ reachBytes) = true := hsz0
  rw [Try.params3] at hA hval hsz
  obtain ⟨v0, vs0, d0, ds0, p0, q0, hargs, rfl, rfl, h0, r0⟩ := trodAll_cons hA
  obtain ⟨rfl, rfl, rfl⟩ := trodAll_nil r0
  obtain rfl : args = #[v0] := by cases args; simp_all
  obtain ⟨rfl, rfl⟩ := trodVars_none hV
  have k0 := h0
  have lt0 : ∀ x ∈ p0, x.block < W.heap.size := by obtain ⟨m, hm⟩ := k0; exact DataW.trod_lt m _ _ _ hm
  obtain ⟨cs0, rfl, hz0⟩ := okWide_struct Try.underlying23 (hval 0 23 v0 rfl rfl)
  obtain ⟨x0_0, x0_1, x0_2, x0_3, x0_4, rfl⟩ := parts_0 hz0
  have g0 : FlatOk [.int .i64, .int .i64, .int .i64, .int .i64, .int .i64] [x0_0, x0_1, x0_2, x0_3, x0_4] := by obtain ⟨fuel, hf⟩ := k0; exact (flat_open 20 23 _ flat_0 _ _ _ hf (light_of hsz (j := 0) rfl rfl)).flat
  obtain ⟨z0_0, rfl, w0_0⟩ := g0.2 0 _ _ rfl rfl
  obtain ⟨z0_1, rfl, w0_1⟩ := g0.2 1 _ _ rfl rfl
  obtain ⟨z0_2, rfl, w0_2⟩ := g0.2 2 _ _ rfl rfl
  obtain ⟨z0_3, rfl, w0_3⟩ := g0.2 3 _ _ rfl rfl
  obtain ⟨z0_4, rfl, w0_4⟩ := g0.2 4 _ _ rfl rfl
  clear hA0 hval0 hsz hsz0
  refine Calls.mono (law_IsaRights z0_0 (int_i64 w0_0) z0_1 (int_i64 w0_1) z0_2 (int_i64 w0_2) z0_3 (int_i64 w0_3) z0_4 (int_i64 w0_4) W) fun e W' ⟨he, bel⟩ => ?_
  subst he
  exact ⟨_, rfl, _, _, _, [], _, [], hW', trodAll_mk1 (shut_bool Try.underlying4 _), (trodAll_cons_mk (Below.trod laidOut (by kernel_rfl) (of_decide_eq_true (by kernel_rfl)) k0 bel lt0) trodAll_mk0), rfl, bel.frame _, fun h => by cases h⟩

theorem proved : Rows.IsaRightsSaid :=
  OpenClaim.holds_of_wide 3 Try.f3 rfl rfl rfl rfl rfl rfl rfl ⟨rfl, rfl, rfl, rfl, rfl⟩ rfl rfl rfl rfl rfl (by kernel_rfl) Try.func3 (by kernel_rfl)
    (of_decide_eq_true (by kernel_rfl)) (by unfold Func.isWrapper; first | (rw [if_pos (by decide +kernel)]; kernel_rfl) | (rw [if_neg (by decide +kernel)]; exact ⟨rfl, rfl⟩))
    (fun os started H enc _ => lifted os started H enc)
end Go.Proofs.Ytpelngkhipcneaa.isaRights
