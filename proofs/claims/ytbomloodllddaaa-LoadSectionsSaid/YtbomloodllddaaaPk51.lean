/- LoadSections: the given statement, from the walk theorem law_LoadSections. No conditions beyond the statement's own. -/
import Derived.Test.YtbomloodllddaaaRows
import Derived.Test.YtbomloodllddaaaPk50
import Derived.Test.YtbomloodllddaaaPk08
import Derived.ProofKit
import Derived.OpenShut
import Derived.ShutString
import Derived.ChangeOld
import Derived.Below
import Derived.SizedLaws
namespace Go.Proofs.Ytbomloodllddaaa.loadSections
open Go.ChangeShapes Go.WideShapes Go.ChangeAt Go.RowKit
open Go.ChangeMaps (open_string shut_string)
set_option linter.unusedVariables false

theorem own : ownKnob Try.prog.godebug = none := by kernel_rfl
theorem laidOut : laidOutB Try.prog = true := by kernel_rfl

theorem bulk_lits {H : Type} (k : IntKind) (l : List Int) : Rows.uptoBulkAll (lits (H := H) k l) = l.length := by
  induction l with
  | nil => rfl
  | cons a l ih =>
    show Rows.uptoBulkAll (DataW.lit (.int k a) :: lits k l) = _
    rw [Rows.uptoBulkAll, ih, show Rows.uptoBulk (DataW.lit (H := H) (.int k a)) = 1 from by simp [Rows.uptoBulk]]
    simp; omega
theorem row_cap {k : IntKind} {w : World} {a : Option Addr} {len cap : Nat} {zs : List Int} (h : IsRow k w a len cap zs) : cap = zs.length ∧ len ≤ cap := by
  rcases h with ⟨rfl, rfl, rfl, rfl⟩ | ⟨x, rfl, hl, hm, hz, _⟩
  · exact ⟨rfl, Nat.le_refl _⟩
  · exact ⟨hz.symm, hl⟩

theorem flat_0 : flat Try.prog 20 70 = some [.int .u64, .str] := by kernel_rfl
theorem cells_0 : Try.prog.cellsOf 70 = 2 := by kernel_rfl
theorem bytes_0 : Try.prog.bytesOf 70 = 24 := by kernel_rfl

set_option maxRecDepth 100000 in
set_option maxHeartbeats 1000000 in
theorem lifted (os : Os) (started : os.Started) (H : Type) (enc : TypeId × Value → H) :
    ReturnsInHanded {} Try.checked os 5 .any (Rows.loadSectionsSpec.pre6 enc Try.prog Try.f5 Rows.loadSectionsRow.domain false) (Rows.loadSectionsSpec.post enc Try.prog Try.f5 false true false false) := by
  refine returnsInHanded_of_change_sized (C := Try.checked) own started (by kernel_rfl) Try.func5
    (ChangeSpec.witness6 (enc := enc) (C := Try.checked) false ⟨#[], #[.slice none 0 0], []⟩ 8 (by kernel_rfl) (by kernel_rfl) (by kernel_rfl) (by kernel_rfl)) ?_
  intro W base args ds gs before hval0 hW hcnd hsz0 _
  have hval : ∀ (j : Nat) t v, Try.f5.params[j]? = some t → args[j]? = some v → Value.okWide Try.prog W .any base t v := hval0
  have hW' := hW
  obtain ⟨p, q, hA0, hV, rfl, hfz, hnd⟩ := hW
  have hA : DataW.TrodAll enc Try.prog W 0 (fun _ => true) true Try.f5.params.toList args.toList ds p := hA0
  have hsz : (DataW.weightsEach Try.prog (Try.f5.params.toList ++ Rows.loadSectionsSpec.plain.varTypes Try.prog) (ds ++ gs)).all (· ≤ reachBytes) = true := hsz0
  rw [Try.params5] at hA hval hsz
  obtain ⟨v0, vs0, d0, ds0, p0, q0, hargs, rfl, rfl, h0, r0⟩ := trodAll_cons hA
  obtain ⟨rfl, rfl, rfl⟩ := trodAll_nil r0
  obtain rfl : args = #[v0] := by cases args; simp_all
  obtain ⟨rfl, rfl⟩ := trodVars_none hV
  have k0 := h0
  have lt0 : ∀ x ∈ p0, x.block < W.heap.size := by obtain ⟨m, hm⟩ := k0; exact DataW.trod_lt m _ _ _ hm
  obtain ⟨a0, len0, cap0, rfl⟩ := okWide_slice Try.underlying39 (hval 0 39 v0 rfl rfl)
  obtain ⟨n0, xs0, rd0, by0, al0⟩ : ∃ n xs, RdC W.heap.size 2 W (.slice a0 len0 cap0) n xs ∧ n * 24 ≤ 140737488351232 ∧ ∀ i, i < n → FlatOk [.int .u64, .str] ((xs.drop (i * 2)).take 2) := by
    obtain ⟨fuel, hf⟩ := k0
    obtain ⟨n, xs, h1, h3, h2⟩ := slice_open Try.underlying39 flat_0 cells_0 (by decide) hf (light_of hsz (j := 0) rfl rfl)
    rw [bytes_0] at h3
    exact ⟨n, xs, h1, h3, fun i hi => (h2 i hi).flat⟩
  clear hA0 hval0 hsz hsz0
  refine Calls.mono (law_LoadSections W _ n0 xs0 rd0 by0 al0) fun e W' ⟨he, bel⟩ => ?_
  subst he
  exact ⟨_, rfl, _, _, _, [], _, [], hW', trodAll_mk1 (shut_bool Try.underlying4 _), (trodAll_cons_mk (Below.trod laidOut (by kernel_rfl) (of_decide_eq_true (by kernel_rfl)) k0 bel lt0) trodAll_mk0), rfl, bel.frame _, fun h => by cases h⟩

theorem proved : Rows.LoadSectionsSaid :=
  OpenClaim.holds_of_wide 5 Try.f5 rfl rfl rfl rfl rfl rfl rfl ⟨rfl, rfl, rfl, rfl, rfl⟩ rfl rfl rfl rfl rfl (by kernel_rfl) Try.func5 (by kernel_rfl)
    (of_decide_eq_true (by kernel_rfl)) (by unfold Func.isWrapper; first | (rw [if_pos (by decide +kernel)]; kernel_rfl) | (rw [if_neg (by decide +kernel)]; exact ⟨rfl, rfl⟩))
    (fun os started H enc _ => lifted os started H enc)
end Go.Proofs.Ytbomloodllddaaa.loadSections
