/- ConfigNotes (where the input is of bounded bulk): the given statement, from the walk theorem law_ConfigNotes. No conditions beyond the statement's own. -/
import Derived.Test.YtonkenlkigfeoaaDoorRows
import Derived.Test.YtonkenlkigfeoaaDoorPk37
import Derived.Test.YtonkenlkigfeoaaDoorPk04
import Derived.ProofKit
import Derived.OpenShut
import Derived.ShutString
import Derived.ChangeOld
import Derived.Below
import Derived.SizedLaws
import Derived.JoinedCond
import Derived.Deep.CondSized
import Derived.Test.YtonkenlkigfeoaaDoorPk25
import Derived.Test.YtonkenlkigfeoaaDoorCards
import Derived.Test.YtonkenlkigfeoaaDoorTie
import Derived.SevenTiedAt
namespace Go.Proofs.YtonkenlkigfeoaaDoor.configNotes
open Go.ChangeShapes Go.WideShapes Go.ChangeAt Go.RowKit
open Go.ChangeMaps (open_string shut_string)
set_option linter.unusedVariables false

theorem own : ownKnob Tryd.prog.godebug = none := by kernel_rfl
theorem laidOut : laidOutB Tryd.prog = true := by kernel_rfl

theorem bulk_lits {H : Type} (k : IntKind) (l : List Int) : Rows.uptoBulkAll (lits (H := H) k l) = l.length := by
 induction l with
 | nil => rfl
 | cons a l ih =>
   show Rows.uptoBulkAll (DataW.lit (.int k a) :: lits k l) = _; rw [Rows.uptoBulkAll, ih, show Rows.uptoBulk (DataW.lit (H := H) (.int k a)) = 1 from by simp [Rows.uptoBulk]]
   simp; omega
theorem row_cap {k : IntKind} {w : World} {a : Option Addr} {len cap : Nat} {zs : List Int} (h : IsRow k w a len cap zs) : cap = zs.length ∧ len ≤ cap := by
 rcases h with ⟨rfl, rfl, rfl, rfl⟩ | ⟨x, rfl, hl, hm, hz, _⟩
 · exact ⟨rfl, Nat.le_refl _⟩
 · exact ⟨hz.symm, hl⟩

set_option maxRecDepth 100000 in
set_option maxHeartbeats 1000000 in
theorem witness_row (os : Os) {H : Type} (enc : TypeId × Value → H) :
   (Rows.OpenSpec.upto Rows.configNotesSpec).preRow enc Tryd.prog Tryd.f3 Rows.configNotesUptoRow.domain false Rows.configNotesUptoRow.laid ((laidWorld os).forCall (fun _ _ => 0) ⟨#[], #[.string .empty, .slice none 0 0], []⟩).memory #[.string .empty, .slice none 0 0] := by
 have hw : (DataW.whole enc Tryd.prog ((laidWorld os).forCall (fun _ _ => 0) ⟨#[], #[.string .empty, .slice none 0 0], []⟩).memory Tryd.f3.params.toList (Rows.OpenSpec.upto Rows.configNotesSpec).vars false #[.string .empty, .slice none 0 0].toList 8).map (fun x => (x.1, x.2.1)) =
     some ([.lit (.string []), .nil], []) := by kernel_rfl
 obtain ⟨⟨x1, x2, x3⟩, hx, hx1⟩ := Option.map_eq_some_iff.1 hw; simp only [Prod.mk.injEq] at hx1; obtain ⟨rfl, rfl⟩ := hx1; exact OpenSpec.preRow_of_cond 8 hx (by kernel_rfl) (fun k hk => by first | (cases hk; done) | (cases hk; rfl) | (obtain rfl := Option.some.inj hk; kernel_rfl)) (by kernel_rfl) (laid_met os _)
set_option maxRecDepth 100000 in
set_option maxHeartbeats 1000000 in
theorem lifted (os : Os) (started : os.Started) (H : Type) (enc : TypeId × Value → H) (F : Stop.Interp) :
   ReturnsInHanded {} Tryd.checked os 3 .any ((Rows.OpenSpec.upto Rows.configNotesSpec).preRow enc Tryd.prog Tryd.f3 Rows.configNotesUptoRow.domain false Rows.configNotesUptoRow.laid) (((Rows.OpenSpec.upto Rows.configNotesSpec).at F).post enc Tryd.prog Tryd.f3 false true false false) := by
 refine returnsInHanded_of_row (C := Tryd.checked) (s := (Rows.OpenSpec.upto Rows.configNotesSpec)) own started (by kernel_rfl) Tryd.func3
   (witness_row_atRef (enc := enc) (C := Tryd.checked) false (laidWorld os) #[.string .empty, .slice none 0 0] rfl (by kernel_rfl) (by kernel_rfl) (by kernel_rfl) (witness_row os enc)) ?_
 intro W base args ds gs before hval0 hW hcnd hk0' hsz0 hL hSh _; have hT := tabs_of hL hSh; clear hL hSh; have hk0 := hk0' Rows.uptoSmall rfl; have hval : ∀ (j : Nat) t v, Tryd.f3.params[j]? = some t → args[j]? = some v → Value.okWide Tryd.prog W .any base t v := hval0; have hW' := hW; obtain ⟨p, q, hA0, hV, rfl, hfz, hnd⟩ := hW; have hA : DataW.TrodAll enc Tryd.prog W 0 (fun _ => true) true Tryd.f3.params.toList args.toList ds p := hA0
 have hsz : (DataW.weightsEach Tryd.prog (Tryd.f3.params.toList ++ (Rows.OpenSpec.upto Rows.configNotesSpec).bare.plain.varTypes Tryd.prog) (ds ++ gs)).all (· ≤ reachBytes) = true := hsz0; rw [Tryd.params3] at hA hval hsz; obtain ⟨v0, vs0, d0, ds0, p0, q0, hargs, rfl, rfl, h0, r0⟩ := trodAll_cons hA; obtain ⟨v1, vs1, d1, ds1, p1, q1, rfl, rfl, rfl, h1, r1⟩ := trodAll_cons r0; obtain ⟨rfl, rfl, rfl⟩ := trodAll_nil r1; obtain rfl : args = #[v0, v1] := by cases args; simp_all
 obtain ⟨rfl, rfl⟩ := trodVars_none hV; have k0 := h0; have lt0 : ∀ x ∈ p0, x.block < W.heap.size := by obtain ⟨m, hm⟩ := k0; exact DataW.trod_lt m _ _ _ hm
 obtain ⟨s0, rfl, rfl, rfl, m0⟩ := open_string Tryd.underlying9 (hval 0 9 v0 rfl rfl) h0; have z0 : s0.size ≤ 140737488351232 := by have := sized_string hsz (j := 0) (t := 9) rfl rfl; simpa [reachBytes] using this
 have k1 := h1; have lt1 : ∀ x ∈ p1, x.block < W.heap.size := by obtain ⟨m, hm⟩ := k1; exact DataW.trod_lt m _ _ _ hm
 obtain ⟨a1, len1, cap1, rfl⟩ := okWide_slice Tryd.underlying22 (hval 1 22 v1 rfl rfl); obtain ⟨zs1, w1, z1, hd1⟩ : ∃ zs, IsRow .i64 W a1 len1 cap1 zs ∧ cap1 * 8 ≤ 140737488351232 ∧ (zs.length ≤ Rows.uptoBulk d1) := by
   obtain ⟨fuel, hf⟩ := h1
   rcases open_ints Tryd.underlying22 Tryd.underlying3 (by kernel_rfl) hf with ⟨hcs, hx⟩ | ⟨x, l, c, zs, hcs, _, hl, hm, hz, hx, hcell, hwz⟩
   · simp [Value.cells] at hcs
     obtain ⟨rfl, rfl, rfl⟩ := hcs; exact ⟨[], .inl ⟨rfl, rfl, rfl, rfl⟩, by simp, by simp⟩
   · simp [Value.cells] at hcs
     obtain ⟨rfl, rfl, rfl⟩ := hcs; obtain ⟨rfl, _⟩ := Prod.mk.inj hx; have hz' : zs.length = cap1 := by simpa using hz
     refine ⟨zs, .inr ⟨_, rfl, hl, hm, hz', hcell, hwz⟩, ?_, ?_⟩
     · have := sized_slice hsz (j := 1) (t := 22) (e := 3) rfl rfl Tryd.underlying22; rw [show Tryd.prog.bytesOf 3 = 8 from by kernel_rfl] at this; simp only [lits, List.length_map, List.length_take, List.length_drop, reachBytes] at this; omega
     · rw [show Rows.uptoBulk _ = _ from by rw [Rows.uptoBulk]]; rw [bulk_lits, bulk_lits, ← List.length_append, List.take_append_drop]; omega
 have zl1 := row_cap w1; have hk : (s0.size + 1) + Rows.uptoBulk d1 ≤ 1048576 := by
   have h := of_decide_eq_true hk0; simp only [List.append_nil, Rows.uptoBulkAll, Rows.uptoBulk, Array.length_toList] at h; have e : ∀ s : ByteArray, s.data.size = s.size := fun _ => rfl
   try simp only [e] at h
   omega
 clear hA0 hval0 hsz hsz0; refine Calls.mono (law_ConfigNotes W s0 (by omega) a1 len1 cap1 zs1 w1 (by omega) hT) fun e W' ⟨he, bel⟩ => ?_
 subst he; exact ⟨_, rfl, _, _, _, [], _, [], hW', trodAll_mk1 (shut_bool Tryd.underlying4 _), (trodAll_cons_mk (Below.trod laidOut (by kernel_rfl) (of_decide_eq_true (by kernel_rfl)) k0 bel lt0) (trodAll_cons_mk (Below.trod laidOut (by kernel_rfl) (of_decide_eq_true (by kernel_rfl)) k1 bel lt1) trodAll_mk0)), rfl, bel.frame _, fun h => by cases h⟩

theorem row_holds : Rows.configNotesUptoRow.holds Tryd.pinned (Rows.OpenSpec.upto Rows.configNotesSpec) :=
 OpenClaim.holds_of_cond 3 Tryd.f3 rfl rfl rfl rfl rfl rfl rfl ⟨rfl, rfl, rfl, rfl, rfl⟩ rfl rfl rfl rfl rfl (by kernel_rfl) Tryd.func3 (by kernel_rfl)
   (of_decide_eq_true (by kernel_rfl)) (by unfold Func.isWrapper; first | (rw [if_pos (by decide +kernel)]; kernel_rfl) | (rw [if_neg (by decide +kernel)]; exact ⟨rfl, rfl⟩))
   (fun os started H enc _ F => by rw [OpenClaim.pre_eq_preRow]; exact lifted os started H enc F)
theorem proved : Rows.ConfigNotesUptoCardSaid :=
 Claim7.holds_tied_plain_at .later [] [.data, .pinned] true (true, "b603e0f3fb5880a5121e7b6efa34b5963c0167a499eb01be734b986403687158") true
   row_holds (fun _ h => by cases h) (by kernel_rfl) (fun _ h => by cases h) configNotesUpto_row_tie rfl ⟨rfl, rfl⟩ (by kernel_rfl) rfl
   (fun f fn hf hfn => by
     obtain rfl : f = 3 := Option.some.inj ((show Tryd.prog.funcNamed "fretsaw/fretsawlaw17.ConfigNotes" = some 3 by kernel_rfl).symm.trans hf) |>.symm
     obtain rfl : fn = Tryd.f3 := (Option.some.inj (Tryd.func3.symm.trans hfn)).symm
     exact ⟨by kernel_rfl, fun j t ht => by
       rw [Tryd.params3] at ht; have hm : t ∈ [9, 22] := by simpa using Array.mem_of_getElem? ht
       have hall : ([9, 22].all fun u => !Tryd.prog.wantsStandIn u) = true := by kernel_rfl
       exact (show Tryd.prog.wantsStandIn t = false by simpa using List.all_eq_true.1 hall t hm)⟩)
   (by kernel_rfl)
end Go.Proofs.YtonkenlkigfeoaaDoor.configNotes
