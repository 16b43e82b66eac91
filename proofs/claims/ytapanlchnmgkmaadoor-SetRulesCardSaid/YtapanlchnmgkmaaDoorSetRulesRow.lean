/- SetRules: the given statement, from the walk theorem law_SetRules. No conditions beyond the statement's own. -/
import Derived.Test.YtapanlchnmgkmaaDoorRows
import Derived.Test.YtapanlchnmgkmaaDoorSetRules
import Derived.Test.YtapanlchnmgkmaaDoorOpen
import Derived.ProofKit
import Derived.OpenShut
import Derived.ShutString
import Derived.ChangeOld
import Derived.Below
import Derived.SizedLaws
import Derived.JoinedCond
import Derived.Deep.CondSized
import Derived.Test.YtapanlchnmgkmaaDoorSetLaid
import Derived.Test.YtapanlchnmgkmaaDoorCards
import Derived.Test.YtapanlchnmgkmaaDoorTie
import Derived.SevenTiedAt
namespace Go.Proofs.YtapanlchnmgkmaaDoor.setRules
open Go.ChangeShapes Go.WideShapes Go.ChangeAt Go.RowKit
open Go.ChangeMaps (open_string shut_string)
set_option linter.unusedVariables false

theorem own : ownKnob Tryd.prog.godebug = none := by kernel_rfl
theorem laidOut : laidOutB Tryd.prog = true := by kernel_rfl

theorem bulk_lits {H : Type} (k : IntKind) (l : List Int) : Rows.uptoBulkAll (lits (H := H) k l) = l.length := by
  induction l with
  | nil => rfl
  | cons a l ih =>
    show Rows.uptoBulkAll (DataW.lit (.int k a) :: lits k l) = _
    rw [Rows.uptoBulkAll, ih, show Rows.uptoBulk (DataW.lit (H := H) (.int k a)) = 1 from by simp [Rows.uptoBulk]]
    simp; omega
theorem row_cap {k : IntKind} {w : World} {a : Option Addr} {len cap : Nat} {zs : List Int} (h : IsRow k w a len cap zs) : cap = zs.length ∧ len ≤ cap := by
  rcases h with ⟨rfl, rfl, rfl, rfl⟩ | ⟨x, rfl, hl, hm, hz, _⟩
  · exact ⟨rfl, Nat.le_refl _⟩
  · exact ⟨hz.symm, hl⟩

theorem sized_0 : Tryd.prog.cellsOf 25 = 4 := by kernel_rfl
theorem parts_0 {cs : Array Value} (h : cs.size = Tryd.prog.cellsOf 25) : ∃ x0_0 x0_1 x0_2 x0_3, cs = #[x0_0, x0_1, x0_2, x0_3] := by
  rw [sized_0] at h
  obtain ⟨l⟩ := cs
  match l, h with
  | [x0_0, x0_1, x0_2, x0_3], _ => exact ⟨x0_0, x0_1, x0_2, x0_3, rfl⟩
theorem flat_0 : flat Tryd.prog 20 25 = some [.int .u64, .int .u64, .int .u64, .int .u64] := by kernel_rfl

theorem sized_1 : Tryd.prog.cellsOf 25 = 4 := by kernel_rfl
theorem parts_1 {cs : Array Value} (h : cs.size = Tryd.prog.cellsOf 25) : ∃ x1_0 x1_1 x1_2 x1_3, cs = #[x1_0, x1_1, x1_2, x1_3] := by
  rw [sized_1] at h
  obtain ⟨l⟩ := cs
  match l, h with
  | [x1_0, x1_1, x1_2, x1_3], _ => exact ⟨x1_0, x1_1, x1_2, x1_3, rfl⟩
theorem flat_1 : flat Tryd.prog 20 25 = some [.int .u64, .int .u64, .int .u64, .int .u64] := by kernel_rfl

theorem sized_2 : Tryd.prog.cellsOf 25 = 4 := by kernel_rfl
theorem parts_2 {cs : Array Value} (h : cs.size = Tryd.prog.cellsOf 25) : ∃ x2_0 x2_1 x2_2 x2_3, cs = #[x2_0, x2_1, x2_2, x2_3] := by
  rw [sized_2] at h
  obtain ⟨l⟩ := cs
  match l, h with
  | [x2_0, x2_1, x2_2, x2_3], _ => exact ⟨x2_0, x2_1, x2_2, x2_3, rfl⟩
theorem flat_2 : flat Tryd.prog 20 25 = some [.int .u64, .int .u64, .int .u64, .int .u64] := by kernel_rfl

set_option maxRecDepth 100000 in
set_option maxHeartbeats 1000000 in
theorem witness_row (os : Os) {H : Type} (enc : TypeId × Value → H) :
    (OpenSpec.ofChange Rows.setRulesSpec).preRow enc Tryd.prog Tryd.f4 Rows.setRulesRow.domain false Rows.setRulesRow.laid ((laidWorld os).forCall (fun _ _ => 0) ⟨#[], #[.agg #[.int .u64 0, .int .u64 0, .int .u64 0, .int .u64 0], .agg #[.int .u64 0, .int .u64 0, .int .u64 0, .int .u64 0], .agg #[.int .u64 0, .int .u64 0, .int .u64 0, .int .u64 0]], []⟩).memory #[.agg #[.int .u64 0, .int .u64 0, .int .u64 0, .int .u64 0], .agg #[.int .u64 0, .int .u64 0, .int .u64 0, .int .u64 0], .agg #[.int .u64 0, .int .u64 0, .int .u64 0, .int .u64 0]] := by
  have hw : (DataW.whole enc Tryd.prog ((laidWorld os).forCall (fun _ _ => 0) ⟨#[], #[.agg #[.int .u64 0, .int .u64 0, .int .u64 0, .int .u64 0], .agg #[.int .u64 0, .int .u64 0, .int .u64 0, .int .u64 0], .agg #[.int .u64 0, .int .u64 0, .int .u64 0, .int .u64 0]], []⟩).memory Tryd.f4.params.toList (OpenSpec.ofChange Rows.setRulesSpec).vars false #[.agg #[.int .u64 0, .int .u64 0, .int .u64 0, .int .u64 0], .agg #[.int .u64 0, .int .u64 0, .int .u64 0, .int .u64 0], .agg #[.int .u64 0, .int .u64 0, .int .u64 0, .int .u64 0]].toList 8).map (fun x => (x.1, x.2.1)) =
      some ([.agg [.agg [.lit (.int .u64 0), .lit (.int .u64 0), .lit (.int .u64 0), .lit (.int .u64 0)]], .agg [.agg [.lit (.int .u64 0), .lit (.int .u64 0), .lit (.int .u64 0), .lit (.int .u64 0)]], .agg [.agg [.lit (.int .u64 0), .lit (.int .u64 0), .lit (.int .u64 0), .lit (.int .u64 0)]]], []) := by kernel_rfl
  obtain ⟨⟨x1, x2, x3⟩, hx, hx1⟩ := Option.map_eq_some_iff.1 hw
  simp only [Prod.mk.injEq] at hx1
  obtain ⟨rfl, rfl⟩ := hx1
  exact OpenSpec.preRow_of_cond 8 hx (by kernel_rfl) (fun k hk => by first | (cases hk; done) | (cases hk; rfl) | (obtain rfl := Option.some.inj hk; kernel_rfl)) (by kernel_rfl) (laid_met os _)
set_option maxRecDepth 100000 in
set_option maxHeartbeats 1000000 in
theorem lifted (os : Os) (started : os.Started) (H : Type) (enc : TypeId × Value → H) (F : Stop.Interp) :
    ReturnsInHanded {} Tryd.checked os 4 .any ((OpenSpec.ofChange Rows.setRulesSpec).preRow enc Tryd.prog Tryd.f4 Rows.setRulesRow.domain false Rows.setRulesRow.laid) (((OpenSpec.ofChange Rows.setRulesSpec).at F).post enc Tryd.prog Tryd.f4 false true false false) := by
  refine returnsInHanded_of_row (C := Tryd.checked) (s := (OpenSpec.ofChange Rows.setRulesSpec)) own started (by kernel_rfl) Tryd.func4
    (witness_row_atRef (enc := enc) (C := Tryd.checked) false (laidWorld os) #[.agg #[.int .u64 0, .int .u64 0, .int .u64 0, .int .u64 0], .agg #[.int .u64 0, .int .u64 0, .int .u64 0, .int .u64 0], .agg #[.int .u64 0, .int .u64 0, .int .u64 0, .int .u64 0]] rfl (by kernel_rfl) (by kernel_rfl) (by kernel_rfl) (witness_row os enc)) ?_
  intro W base args ds gs before hval0 hW hcnd hk0' hsz0 hL _ _
  have hT := tabs_of hL
  clear hL
  have hval : ∀ (j : Nat) t v, Tryd.f4.params[j]? = some t → args[j]? = some v → Value.okWide Tryd.prog W .any base t v := hval0
  have hW' := hW
  obtain ⟨p, q, hA0, hV, rfl, hfz, hnd⟩ := hW
  have hA : DataW.TrodAll enc Tryd.prog W 0 (fun _ => true) true Tryd.f4.params.toList args.toList ds p := hA0
  have hsz : (DataW.weightsEach Tryd.prog (Tryd.f4.params.toList ++ (OpenSpec.ofChange Rows.setRulesSpec).bare.plain.varTypes Tryd.prog) (ds ++ gs)).all (· ≤ reachBytes) = true := hsz0
  rw [Tryd.params4] at hA hval hsz
  obtain ⟨v0, vs0, d0, ds0, p0, q0, hargs, rfl, rfl, h0, r0⟩ := trodAll_cons hA
  obtain ⟨v1, vs1, d1, ds1, p1, q1, rfl, rfl, rfl, h1, r1⟩ := trodAll_cons r0
  obtain ⟨v2, vs2, d2, ds2, p2, q2, rfl, rfl, rfl, h2, r2⟩ := trodAll_cons r1
  obtain ⟨rfl, rfl, rfl⟩ := trodAll_nil r2
  obtain rfl : args = #[v0, v1, v2] := by cases args; simp_all
  obtain ⟨rfl, rfl⟩ := trodVars_none hV
  have k0 := h0
  have lt0 : ∀ x ∈ p0, x.block < W.heap.size := by obtain ⟨m, hm⟩ := k0; exact DataW.trod_lt m _ _ _ hm
  obtain ⟨cs0, rfl, hz0⟩ := okWide_struct Tryd.underlying25 (hval 0 25 v0 rfl rfl)
  obtain ⟨x0_0, x0_1, x0_2, x0_3, rfl⟩ := parts_0 hz0
  have g0 : FlatOk [.int .u64, .int .u64, .int .u64, .int .u64] [x0_0, x0_1, x0_2, x0_3] := by obtain ⟨fuel, hf⟩ := k0; exact (flat_open 20 25 _ flat_0 _ _ _ hf (light_of hsz (j := 0) rfl rfl)).flat
  obtain ⟨z0_0, rfl, w0_0⟩ := g0.2 0 _ _ rfl rfl
  obtain ⟨n0_0, rfl, b0_0⟩ := nat_u64 w0_0
  obtain ⟨z0_1, rfl, w0_1⟩ := g0.2 1 _ _ rfl rfl
  obtain ⟨n0_1, rfl, b0_1⟩ := nat_u64 w0_1
  obtain ⟨z0_2, rfl, w0_2⟩ := g0.2 2 _ _ rfl rfl
  obtain ⟨n0_2, rfl, b0_2⟩ := nat_u64 w0_2
  obtain ⟨z0_3, rfl, w0_3⟩ := g0.2 3 _ _ rfl rfl
  obtain ⟨n0_3, rfl, b0_3⟩ := nat_u64 w0_3
  have k1 := h1
  have lt1 : ∀ x ∈ p1, x.block < W.heap.size := by obtain ⟨m, hm⟩ := k1; exact DataW.trod_lt m _ _ _ hm
  obtain ⟨cs1, rfl, hz1⟩ := okWide_struct Tryd.underlying25 (hval 1 25 v1 rfl rfl)
  obtain ⟨x1_0, x1_1, x1_2, x1_3, rfl⟩ := parts_1 hz1
  have g1 : FlatOk [.int .u64, .int .u64, .int .u64, .int .u64] [x1_0, x1_1, x1_2, x1_3] := by obtain ⟨fuel, hf⟩ := k1; exact (flat_open 20 25 _ flat_1 _ _ _ hf (light_of hsz (j := 1) rfl rfl)).flat
  obtain ⟨z1_0, rfl, w1_0⟩ := g1.2 0 _ _ rfl rfl
  obtain ⟨n1_0, rfl, b1_0⟩ := nat_u64 w1_0
  obtain ⟨z1_1, rfl, w1_1⟩ := g1.2 1 _ _ rfl rfl
  obtain ⟨n1_1, rfl, b1_1⟩ := nat_u64 w1_1
  obtain ⟨z1_2, rfl, w1_2⟩ := g1.2 2 _ _ rfl rfl
  obtain ⟨n1_2, rfl, b1_2⟩ := nat_u64 w1_2
  obtain ⟨z1_3, rfl, w1_3⟩ := g1.2 3 _ _ rfl rfl
  obtain ⟨n1_3, rfl, b1_3⟩ := nat_u64 w1_3
  have k2 := h2
  have lt2 : ∀ x ∈ p2, x.block < W.heap.size := by obtain ⟨m, hm⟩ := k2; exact DataW.trod_lt m _ _ _ hm
  obtain ⟨cs2, rfl, hz2⟩ := okWide_struct Tryd.underlying25 (hval 2 25 v2 rfl rfl)
  obtain ⟨x2_0, x2_1, x2_2, x2_3, rfl⟩ := parts_2 hz2
  have g2 : FlatOk [.int .u64, .int .u64, .int .u64, .int .u64] [x2_0, x2_1, x2_2, x2_3] := by obtain ⟨fuel, hf⟩ := k2; exact (flat_open 20 25 _ flat_2 _ _ _ hf (light_of hsz (j := 2) rfl rfl)).flat
  obtain ⟨z2_0, rfl, w2_0⟩ := g2.2 0 _ _ rfl rfl
  obtain ⟨n2_0, rfl, b2_0⟩ := nat_u64 w2_0
  obtain ⟨z2_1, rfl, w2_1⟩ := g2.2 1 _ _ rfl rfl
  obtain ⟨n2_1, rfl, b2_1⟩ := nat_u64 w2_1
  obtain ⟨z2_2, rfl, w2_2⟩ := g2.2 2 _ _ rfl rfl
  obtain ⟨n2_2, rfl, b2_2⟩ := nat_u64 w2_2
  obtain ⟨z2_3, rfl, w2_3⟩ := g2.2 3 _ _ rfl rfl
  obtain ⟨n2_3, rfl, b2_3⟩ := nat_u64 w2_3
  clear hA0 hval0 hsz hsz0
  refine Calls.mono (law_SetRules n0_0 b0_0 n0_1 b0_1 n0_2 b0_2 n0_3 b0_3 n1_0 b1_0 n1_1 b1_1 n1_2 b1_2 n1_3 b1_3 n2_0 b2_0 n2_1 b2_1 n2_2 b2_2 n2_3 b2_3 W hT) fun e W' ⟨he, bel⟩ => ?_
  subst he
  exact ⟨_, rfl, _, _, _, [], _, [], hW', trodAll_mk1 (shut_bool Tryd.underlying4 _), (trodAll_cons_mk (Below.trod laidOut (by kernel_rfl) (of_decide_eq_true (by kernel_rfl)) k0 bel lt0) (trodAll_cons_mk (Below.trod laidOut (by kernel_rfl) (of_decide_eq_true (by kernel_rfl)) k1 bel lt1) (trodAll_cons_mk (Below.trod laidOut (by kernel_rfl) (of_decide_eq_true (by kernel_rfl)) k2 bel lt2) trodAll_mk0))), rfl, bel.frame _, fun h => by cases h⟩

theorem row_holds : Rows.setRulesRow.holds Tryd.pinned (OpenSpec.ofChange Rows.setRulesSpec) :=
  OpenClaim.holds_of_cond 4 Tryd.f4 rfl rfl rfl rfl rfl rfl rfl ⟨rfl, rfl, rfl, rfl, rfl⟩ rfl rfl rfl rfl rfl (by kernel_rfl) Tryd.func4 (by kernel_rfl)
    (of_decide_eq_true (by kernel_rfl)) (by unfold Func.isWrapper; first | (rw [if_pos (by decide +kernel)]; kernel_rfl) | (rw [if_neg (by decide +kernel)]; exact ⟨rfl, rfl⟩))
    (fun os started H enc _ F => by rw [OpenClaim.pre_eq_preRow]; exact lifted os started H enc F)
theorem proved : Rows.SetRulesCardSaid :=
  Claim7.holds_tied_plain_at .later [] [.data] true (true, "002dba2be4f9ba3e492c0adfd5434e4290b71ea631642f0ea4ae37b881075583") false
    row_holds (fun _ h => by cases h) (by kernel_rfl) (fun _ h => by cases h) setRules_row_tie rfl ⟨rfl, rfl⟩ (by kernel_rfl) rfl
    (fun f fn hf hfn => by
      obtain rfl : f = 4 := Option.some.inj ((show Tryd.prog.funcNamed "fretsaw/fretsawlaw05.SetRules" = some 4 by kernel_rfl).symm.trans hf) |>.symm
      obtain rfl : fn = Tryd.f4 := (Option.some.inj (Tryd.func4.symm.trans hfn)).symm
      exact ⟨by kernel_rfl, fun j t ht => by
        rw [Tryd.params4] at ht
        have hm : t ∈ [25, 25, 25] := by simpa using Array.mem_of_getElem? ht
        have hall : ([25, 25, 25].all fun u => !Tryd.prog.wantsStandIn u) = true := by kernel_rfl
        exact (show Tryd.prog.wantsStandIn t = false by simpa using List.all_eq_true.1 hall t hm)⟩)
    (by kernel_rfl)
end Go.Proofs.YtapanlchnmgkmaaDoor.setRules
