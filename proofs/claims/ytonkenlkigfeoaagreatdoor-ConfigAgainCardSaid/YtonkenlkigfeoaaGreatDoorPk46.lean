/- ConfigAgain: the given statement, from the walk theorem law_ConfigAgain. No conditions beyond the statement's own. -/
import Derived.Test.YtonkenlkigfeoaaGreatDoorRows
import Derived.Test.YtonkenlkigfeoaaGreatDoorPk45
import Derived.Test.YtonkenlkigfeoaaGreatDoorPk06
import Derived.ProofKit
import Derived.OpenShut
import Derived.ShutString
import Derived.ChangeOld
import Derived.Below
import Derived.SizedLaws
import Derived.JoinedCond
import Derived.Deep.CondSized
import Derived.Test.YtonkenlkigfeoaaGreatDoorPk43
import Derived.Test.YtonkenlkigfeoaaGreatDoorCards
import Derived.Test.YtonkenlkigfeoaaGreatDoorTie
import Derived.SevenTiedAt
namespace Go.Proofs.YtonkenlkigfeoaaGreatDoor.configAgain
open Go.ChangeShapes Go.WideShapes Go.ChangeAt Go.RowKit
open Go.ChangeMaps (open_string shut_string)
set_option linter.unusedVariables false

theorem own : ownKnob Tryz.prog.godebug = none := by kernel_rfl
theorem laidOut : laidOutB Tryz.prog = true := by kernel_rfl

theorem bulk_lits {H : Type} (k : IntKind) (l : List Int) : Rows.uptoBulkAll (lits (H := H) k l) = l.length := by
 induction l with
 | nil => rfl
 | cons a l ih =>
   show Rows.uptoBulkAll (DataW.lit (.int k a) :: lits k l) = _; rw [Rows.uptoBulkAll, ih, show Rows.uptoBulk (DataW.lit (H := H) (.int k a)) = 1 from by simp [Rows.uptoBulk]]
   simp; omega
theorem row_cap {k : IntKind} {w : World} {a : Option Addr} {len cap : Nat} {zs : List Int} (h : IsRow k w a len cap zs) : cap = zs.length ∧ len ≤ cap := by
 rcases h with ⟨rfl, rfl, rfl, rfl⟩ | ⟨x, rfl, hl, hm, hz, _⟩
 · exact ⟨rfl, Nat.le_refl _⟩
 · exact ⟨hz.symm, hl⟩

set_option maxRecDepth 100000 in
set_option maxHeartbeats 1000000 in
theorem witness_row (os : Os) {H : Type} (enc : TypeId × Value → H) :
   (OpenSpec.ofChange Rows.configAgainSpec).preRow enc Tryz.prog Tryz.f4 Rows.configAgainRow.domain false Rows.configAgainRow.laid ((laidWorld os).forCall (fun _ _ => 0) ⟨#[], #[.string .empty], []⟩).memory #[.string .empty] := by
 have hw : (DataW.whole enc Tryz.prog ((laidWorld os).forCall (fun _ _ => 0) ⟨#[], #[.string .empty], []⟩).memory Tryz.f4.params.toList (OpenSpec.ofChange Rows.configAgainSpec).vars false #[.string .empty].toList 8).map (fun x => (x.1, x.2.1)) =
     some ([.lit (.string [])], []) := by kernel_rfl
 obtain ⟨⟨x1, x2, x3⟩, hx, hx1⟩ := Option.map_eq_some_iff.1 hw; simp only [Prod.mk.injEq] at hx1; obtain ⟨rfl, rfl⟩ := hx1; exact OpenSpec.preRow_of_cond 8 hx (by kernel_rfl) (fun k hk => by first | (cases hk; done) | (cases hk; rfl) | (obtain rfl := Option.some.inj hk; kernel_rfl)) (by kernel_rfl) (laid_met os _)
set_option maxRecDepth 100000 in
set_option maxHeartbeats 1000000 in
theorem lifted (os : Os) (started : os.Started) (H : Type) (enc : TypeId × Value → H) (F : Stop.Interp) :
   ReturnsInHanded {} Tryz.checked os 4 .any ((OpenSpec.ofChange Rows.configAgainSpec).preRow enc Tryz.prog Tryz.f4 Rows.configAgainRow.domain false Rows.configAgainRow.laid) (((OpenSpec.ofChange Rows.configAgainSpec).at F).post enc Tryz.prog Tryz.f4 false true false false) := by
 refine returnsInHanded_of_row (C := Tryz.checked) (s := (OpenSpec.ofChange Rows.configAgainSpec)) own started (by kernel_rfl) Tryz.func4
   (witness_row_atRef (enc := enc) (C := Tryz.checked) false (laidWorld os) #[.string .empty] rfl (by kernel_rfl) (by kernel_rfl) (by kernel_rfl) (witness_row os enc)) ?_
 intro W base args ds gs before hval0 hW hcnd hk0' hsz0 hL hSh _; have hT := tabs_of hL; clear hL hSh; have hval : ∀ (j : Nat) t v, Tryz.f4.params[j]? = some t → args[j]? = some v → Value.okWide Tryz.prog W .any base t v := hval0; have hW' := hW; obtain ⟨p, q, hA0, hV, rfl, hfz, hnd⟩ := hW; have hA : DataW.TrodAll enc Tryz.prog W 0 (fun _ => true) true Tryz.f4.params.toList args.toList ds p := hA0; have hsz : (DataW.weightsEach Tryz.prog (Tryz.f4.params.toList ++ (OpenSpec.ofChange Rows.configAgainSpec).bare.plain.varTypes Tryz.prog) (ds ++ gs)).all (· ≤ reachBytes) = true := hsz0
 rw [Tryz.params4] at hA hval hsz; obtain ⟨v0, vs0, d0, ds0, p0, q0, hargs, rfl, rfl, h0, r0⟩ := trodAll_cons hA; obtain ⟨rfl, rfl, rfl⟩ := trodAll_nil r0; obtain rfl : args = #[v0] := by cases args; simp_all
 obtain ⟨rfl, rfl⟩ := trodVars_none hV; have k0 := h0; have lt0 : ∀ x ∈ p0, x.block < W.heap.size := by obtain ⟨m, hm⟩ := k0; exact DataW.trod_lt m _ _ _ hm
 obtain ⟨s0, rfl, rfl, rfl, m0⟩ := open_string Tryz.underlying9 (hval 0 9 v0 rfl rfl) h0; have z0 : s0.size ≤ 140737488351232 := by have := sized_string hsz (j := 0) (t := 9) rfl rfl; simpa [reachBytes] using this
 clear hA0 hval0 hsz hsz0; refine Calls.mono (law_ConfigAgain W s0 z0 hT) fun e W' ⟨he, bel⟩ => ?_
 subst he; exact ⟨_, rfl, _, _, _, [], _, [], hW', trodAll_mk1 (shut_bool Tryz.underlying4 _), (trodAll_cons_mk (Below.trod laidOut (by kernel_rfl) (of_decide_eq_true (by kernel_rfl)) k0 bel lt0) trodAll_mk0), rfl, bel.frame _, fun h => by cases h⟩

theorem row_holds : Rows.configAgainRow.holds Tryz.pinned (OpenSpec.ofChange Rows.configAgainSpec) :=
 OpenClaim.holds_of_cond 4 Tryz.f4 rfl rfl rfl rfl rfl rfl rfl ⟨rfl, rfl, rfl, rfl, rfl⟩ rfl rfl rfl rfl rfl (by kernel_rfl) Tryz.func4 (by kernel_rfl)
   (of_decide_eq_true (by kernel_rfl)) (by unfold Func.isWrapper; first | (rw [if_pos (by decide +kernel)]; kernel_rfl) | (rw [if_neg (by decide +kernel)]; exact ⟨rfl, rfl⟩))
   (fun os started H enc _ F => by rw [OpenClaim.pre_eq_preRow]; exact lifted os started H enc F)
theorem proved : Rows.ConfigAgainCardSaid :=
 Claim7.holds_tied_plain_at .later [] [.data, .data, .data] true (true, "2bbeccdae1b5b350bde0e65b314b779a6a72a3a9922c83e7cec4668a0af37bf2") true
   row_holds (fun _ h => by cases h) (by kernel_rfl) (fun _ h => by cases h) configAgain_row_tie rfl ⟨rfl, rfl⟩ (by kernel_rfl) rfl
   (fun f fn hf hfn => by
     obtain rfl : f = 4 := Option.some.inj ((show Tryz.prog.funcNamed "fretsaw/fretsawlaw17.ConfigAgain" = some 4 by kernel_rfl).symm.trans hf) |>.symm
     obtain rfl : fn = Tryz.f4 := (Option.some.inj (Tryz.func4.symm.trans hfn)).symm
     exact ⟨by kernel_rfl, fun j t ht => by
       rw [Tryz.params4] at ht; have hm : t ∈ [9] := by simpa using Array.mem_of_getElem? ht
       have hall : ([9].all fun u => !Tryz.prog.wantsStandIn u) = true := by kernel_rfl
       exact (show Tryz.prog.wantsStandIn t = false by simpa using List.all_eq_true.1 hall t hm)⟩)
   (by kernel_rfl)
end Go.Proofs.YtonkenlkigfeoaaGreatDoor.configAgain
