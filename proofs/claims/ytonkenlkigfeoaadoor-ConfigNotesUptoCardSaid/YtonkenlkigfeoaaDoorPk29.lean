/- Walk: what stands between quotes (quoted). Conditions: a text of at most 65536 bytes; a place within a line. -/
import Derived.Test.YtonkenlkigfeoaaDoorPk12
import Derived.Test.YtonkenlkigfeoaaDoorPk28
import Derived.Test.YtonkenlkigfeoaaDoorPk27
namespace Go.Proofs.YtonkenlkigfeoaaDoor
open Go.RowKit Go.Lib
theorem CPo.okE {α : Type} {ret : α → Value} {g : Nat} {S : ByteArray} {en bg : Nat} {V : CV} {w : World} {x : PR α} {e : Ending} {w' : World} {a : α} {j : Nat} (hx : x = .ok a j) (h : CPo ret g S en bg V w x e w') : e = .returned (ret a) ∧ PcAt w' g S j en bg V ∧ Else g w w' := by subst hx; exact h
theorem CPo.badE {α : Type} {ret : α → Value} {g : Nat} {S : ByteArray} {en bg : Nat} {V : CV} {w : World} {x : PR α} {e : Ending} {w' : World} {a j : Nat} (hx : x = .bad a j) (h : CPo ret g S en bg V w x e w') : e = cstopE a j ∧ Else g w w' := by subst hx; exact h
theorem Else.belowR {g B : Nat} {w w' w'' : World} (h : Else g w w') (hb : Below B w' w'') (hB : w.heap.size ≤ B) : Else g w w'' :=
 ⟨hb.os.trans h.os, hb.tape.trans h.tape, hb.output.trans h.output, Nat.le_trans h.size hb.size, fun k hk hne => (hb.block k (by omega)).trans (h.block k hk hne)⟩
/-- bytes as numbers -/
def bI (b : List UInt8) : List Int := b.map fun x => ((x.toNat : Nat) : Int)
theorem bI_snoc (b : List UInt8) {x : Nat} (hx : x < 256) : bI b ++ [(x : Int)] = bI (b ++ [u8 x]) := by
 unfold bI; rw [List.map_append]
 simp [u8_toNat_lt hx]
theorem bI_back (b : List UInt8) : toU8s (bI b) = b := by
 unfold bI toU8s; rw [List.map_map]
 conv => rhs; rw [← List.map_id b]
 apply List.map_congr_left; intro x _; exact u8_self x
theorem bI_len (b : List UInt8) : (bI b).length = b.length := by unfold bI; rw [List.length_map]
theorem OwnI.els {B g : Nat} {e : TypeId} {k : IntKind} {w w' : World} {v : Value} {l : List Int} (h : OwnI B e k w v l) (he : Else g w w') (hg : g < B) : OwnI B e k w' v l :=
 OwnC.block h fun q hq => he.block q (OwnC.lt h q hq).2 (by have := (OwnC.lt h q hq).1; omega)
/-- what a quoted text is read as, byte by byte -/
structure QS (s : List UInt8) (en f : Nat) (b : List UInt8) (j : Nat) (X : PR (List UInt8)) : Prop where
 q1 : ¬ j < en → X = .bad 170 j
 q2 : j < en → bt s j = 34 → X = .ok b (j + 1)
 q3 : j < en → bt s j ≠ 34 → (bt s j < 32 ∨ 126 < bt s j) → X = .bad 170 j
 q4 : j < en → bt s j ≠ 34 → ¬ (bt s j < 32 ∨ 126 < bt s j) → bt s j ≠ 92 → qtR s en f (b ++ [u8 (bt s j)]) (j + 1) = X
 q5 : j < en → bt s j = 92 → ((bslR s en (j + 1)).bind fun c k => qtR s en f (b ++ [u8 c]) k) = X
theorem qtR_steps {s : List UInt8} {en f : Nat} {b : List UInt8} {j : Nat} {X : PR (List UInt8)} (h : qtR s en (f + 1) b j = X) : QS s en f b j X := by
 rw [qtR] at h; unfold nextR at h; refine ⟨fun h1 => ?_, fun h1 h2 => ?_, fun h1 h2 h3 => ?_, fun h1 h2 h3 h4 => ?_, fun h1 h2 => ?_⟩
 · rw [if_neg h1] at h; exact h.symm
 all_goals
   rw [if_pos h1] at h; dsimp only [PR.bind] at h
 · rw [if_pos h2] at h; exact h.symm
 · rw [if_neg h2, if_pos h3] at h; exact h.symm
 · rw [if_neg h2, if_neg h3, if_pos h4] at h; exact h
 · rw [if_neg (by omega), if_neg (by omega), if_neg (by omega)] at h; exact h
structure BS (s : List UInt8) (en i : Nat) (Y : PR Nat) : Prop where
 b1 : ¬ i < en → Y = .bad 170 i
 b2 : i < en → bt s i = 34 ∨ bt s i = 92 → Y = .ok (bt s i) (i + 1)
 b3 : i < en → bt s i = 110 → Y = .ok 10 (i + 1)
 b4 : i < en → bt s i = 116 → Y = .ok 9 (i + 1)
 b5 : i < en → bt s i = 114 → Y = .ok 13 (i + 1)
 b6 : i < en → bt s i = 120 → Y = ((hexQ s en (i + 1)).bind fun h k => (hexQ s en k).bind fun l m => .ok (16 * h + l) m)
 b7 : i < en → bt s i ≠ 34 → bt s i ≠ 92 → bt s i ≠ 110 → bt s i ≠ 116 → bt s i ≠ 114 → bt s i ≠ 120 → Y = .bad 170 i
theorem bslR_steps (s : List UInt8) (en i : Nat) : BS s en i (bslR s en i) := by
 unfold bslR nextR; refine ⟨fun h1 => ?_, fun h1 h2 => ?_, fun h1 h2 => ?_, fun h1 h2 => ?_, fun h1 h2 => ?_, fun h1 h2 => ?_, fun h1 h2 h3 h4 h5 h6 h7 => ?_⟩
 · rw [if_neg h1]; rfl
 all_goals
   rw [if_pos h1]; dsimp only [PR.bind]
 · rw [if_pos h2]
 · rw [if_neg (by omega), if_pos h2]
 · rw [if_neg (by omega), if_neg (by omega), if_pos h2]
 · rw [if_neg (by omega), if_neg (by omega), if_neg (by omega), if_pos h2]
 · rw [if_neg (by omega), if_neg (by omega), if_neg (by omega), if_neg (by omega), if_pos h2]
 · rw [if_neg (by omega), if_neg h4, if_neg h5, if_neg h6, if_neg h7]
theorem hexQ_no {s : List UInt8} {en i : Nat} (h : ¬ i < en) : hexQ s en i = .bad 170 i := by unfold hexQ nextR; rw [if_neg h]; rfl
theorem hexQ_bad {s : List UInt8} {en i : Nat} (h : i < en) (hn : hexV (bt s i) = none) : hexQ s en i = .bad 170 i := by
 unfold hexQ nextR; rw [if_pos h]; dsimp only [PR.bind]; rw [hn]
theorem hexQ_ok {s : List UInt8} {en i n : Nat} (h : i < en) (hn : hexV (bt s i) = some n) : hexQ s en i = .ok n (i + 1) := by
 unfold hexQ nextR; rw [if_pos h]; dsimp only [PR.bind]; rw [hn]
section
variable {g : Nat} {S : ByteArray} {i en bg : Nat} {V : CV} {w : World}
theorem cf_next_y (hS : S.size ≤ 65536) (hen : en ≤ S.size) (h : PcAt w g S i en bg V) (hlt : i < en) :
   Calls Tryd.prog 60 #[.pointer (some ⟨g, 0, none⟩)] w fun e w' => e = .returned (.int .u8 ((bt S.data.toList i : Nat) : Int)) ∧ PcAt w' g S (i + 1) en bg V ∧ Else g w w' :=
 (cf_next g S i en bg V hS hen w h).mono fun _ _ h => CPo.okE (ret := retB) (show nextR S.data.toList en i = _ by unfold nextR; rw [if_pos hlt]) h
theorem cf_next_n (hS : S.size ≤ 65536) (hen : en ≤ S.size) (h : PcAt w g S i en bg V) (hlt : ¬ i < en) :
   Calls Tryd.prog 60 #[.pointer (some ⟨g, 0, none⟩)] w fun e w' => e = cstopE 170 i ∧ Else g w w' :=
 (cf_next g S i en bg V hS hen w h).mono fun _ _ h => CPo.badE (ret := retB) (show nextR S.data.toList en i = _ by unfold nextR; rw [if_neg hlt]) h
end
abbrev retQ (i : Nat) (b : List UInt8) : Value := .tuple #[.string ⟨b.toArray⟩, .int .i64 (i : Int)]
set_option maxRecDepth 100000 in
set_option maxHeartbeats 4000000 in
theorem cf_quoted (g : Nat) (S : ByteArray) (i en bg F : Nat) (V : CV) (hS : S.size ≤ 65536) (hen : en ≤ S.size) (hi : i ≤ en) (hF : en < F) (w : World) (h : PcAt w g S i en bg V) :
   Calls Tryd.prog 44 #[.pointer (some ⟨g, 0, none⟩)] w (CPo (retQ i) g S en bg V w (quotedR S.data.toList en F i)) := by
 have hout := quotedR_out (s := S.data.toList) (en := en) (f := F) (i := i) hi (by omega); have hm := cf_must g S ⟨#[34]⟩ (by decide) i en bg V hS hen hi; obtain ⟨X, hX⟩ : ∃ X, quotedR S.data.toList en F i = X := ⟨_, rfl⟩; rw [hX] at hout ⊢; unfold quotedR at hX; have hgw := h.lt; have c1 := h.c1; have H := Lib.hid h; clear h; go_enter Tryd.func44, Tryd.ntmps44; wkk; have hm := hm w H.out; rw [show (⟨#[34]⟩ : ByteArray).data.toList = [34] from rfl] at hm
 cases hM : mustR S.data.toList en [34] i with
 | out => rw [hM] at hX; exact absurd hX.symm hout
 | bad e0 j =>
   rw [hM] at hm hX; have HX := Lib.hid hX.symm; refine Calls.mono hm ?_; rintro _ w2 ⟨rfl, he⟩; exact ⟨rfl, CPo.badI HX.out ⟨rfl, he⟩⟩
 | ok u j0 =>
   rw [hM] at hm hX; have hj0 := (mustR_in (s := S.data.toList) (en := en) [34] i hi).okB hM; have HQ0 : Hid (qtR S.data.toList en F [] j0 = X) := Lib.hid hX; have HXo := Lib.hid hout; have hj0e := hj0.2; clear hM hX hout hj0; refine Calls.mono (hm) ?_; rintro _ w0 ⟨rfl, hp, he⟩; dsimp only; have HP0 := Lib.hid hp; have HE0 := Lib.hid he; have hw0 := he.size; clear hm hp he H c1; wkk
   go_loopg [5] F (fun gk s5 wr => ∃ (f : Nat) (b : List UInt8) (j : Nat), qtR S.data.toList en f b j = X ∧ b.length ≤ j ∧ j ≤ en ∧ f ≤ gk ∧ Hid (OwnI w.heap.size 5 .u8 wr s5 (bI b)) ∧ Hid (PcAt wr g S j en bg V) ∧ Hid (Else g w wr))
   case atStart => exact ⟨F, [], j0, HQ0.out, Nat.zero_le _, hj0e, Nat.le_refl _, Lib.hid OwnC.nil, HP0, HE0⟩
   case round =>
     clear HQ0 HP0 HE0 hw0 hj0e; obtain ⟨f0, b, j, hQ, hbl, hje, hfg, HO, HP, HE⟩ := hrel
     cases f0 with
     | zero => exact absurd (hQ.symm.trans rfl) HXo.out
     | succ f =>
       have Q := qtR_steps hQ; clear hQ
       by_cases hjn : j < en
       · have hc := cf_next_y hS hen HP.out hjn; have k2 := Q.q2 hjn; have k3 := Q.q3 hjn; have k4 := Q.q4 hjn; have k5 := Q.q5 hjn; have hxb := bt_lt S.data.toList j; clear Q; generalize bt S.data.toList j = x at hc k2 k3 k4 k5 hxb; have hw : IntKind.i64.wrap (((j + 1 : Nat) : Int) - 1) = (j : Int) := by rw [wi64 (by unfold I64; omega)]; omega
         obtain ⟨j1, hj1⟩ : ∃ j1, j + 1 = j1 := ⟨_, rfl⟩; rw [hj1] at hc k2 k4 k5 hw; have hj1e : j1 ≤ en ∧ b.length < j1 := by omega
         by_cases h34 : x = 34
         · have HX := Lib.hid (k2 h34); subst h34; clear k2 k3 k4 k5 hw hj1; wkk; refine Calls.mono (hc) ?_; rintro _ w1 ⟨rfl, hp, he⟩; dsimp only; have HP1 := Lib.hid hp; have HE1 := Lib.hid (HE.out.trans he); have hown := HO.out.els he hgw; have hwB := HE1.out.size; clear hc hp he HP HE HO; wkka (first | (with_reducible refine wp_convT Tryd.underlying94 Tryd.underlying5 Tryd.underlying9 _ rfl rfl hown ?_)); go_ret2; exact CPo.okI HX.out ⟨by rw [bI_back]; rfl, HP1.out, HE1.out⟩
         replace k3 := k3 h34; replace k4 := k4 h34; have e34 : ((x : Int) == 34) = false := beq_false_of_ne (by omega); clear k2
         by_cases hlow : x < 32
         · have HX := Lib.hid (k3 (.inl hlow)); have b1 : (x : Int) < 32 := by omega
           clear k3 k4 k5 hj1; wkk; refine Calls.mono (hc) ?_; rintro _ w1 ⟨rfl, hp, he⟩; dsimp only; have HP1 := Lib.hid hp; have HE1 := Lib.hid (HE.out.trans he); have hown := HO.out.els he hgw; have hwB := HE1.out.size; clear hc hp he HP HE HO; have c1 := HP1.out.c1; wkk; have hf := cf_fail (.pointer (some ⟨g, 0, none⟩)) 170 j w1; refine Calls.mono hf ?_; rintro _ w2 ⟨rfl, rfl⟩; exact ⟨rfl, CPo.badI HX.out ⟨rfl, HE1.out⟩⟩
         have b1 : ¬ (x : Int) < 32 := by omega
         by_cases hhi : 126 < x
         · have HX := Lib.hid (k3 (.inr hhi)); have b2 : (x : Int) > 126 := by omega
           clear k3 k4 k5 hj1; wkk; refine Calls.mono (hc) ?_; rintro _ w1 ⟨rfl, hp, he⟩; dsimp only; have HP1 := Lib.hid hp; have HE1 := Lib.hid (HE.out.trans he); have hown := HO.out.els he hgw; have hwB := HE1.out.size; clear hc hp he HP HE HO; have c1 := HP1.out.c1; wkk; have hf := cf_fail (.pointer (some ⟨g, 0, none⟩)) 170 j w1; refine Calls.mono hf ?_; rintro _ w2 ⟨rfl, rfl⟩; exact ⟨rfl, CPo.badI HX.out ⟨rfl, HE1.out⟩⟩
         have b2 : ¬ (x : Int) > 126 := by omega
         by_cases h92 : x = 92
         · replace k5 := k5 h92; subst h92; clear k3 k4 hw; wkk; refine Calls.mono (hc) ?_; rintro _ w1 ⟨rfl, hp, he⟩; dsimp only; have HP1 := Lib.hid hp; have HE1 := Lib.hid (HE.out.trans he); have hown := HO.out.els he hgw; have hwB := HE1.out.size; clear hc hp he HP HE HO; wkk; have B := bslR_steps S.data.toList en j1; obtain ⟨Y, hY⟩ : ∃ Y, bslR S.data.toList en j1 = Y := ⟨_, rfl⟩; rw [hY] at B k5; clear hY
           by_cases hjn2 : j1 < en
           · have hc := cf_next_y hS hen HP1.out hjn2; have k1 := B.b2 hjn2; have k2 := B.b3 hjn2; have k3 := B.b4 hjn2; have k4 := B.b5 hjn2; have k6 := B.b6 hjn2; have k7 := B.b7 hjn2; have hyb := bt_lt S.data.toList j1; clear B; generalize bt S.data.toList j1 = y at hc k1 k2 k3 k4 k6 k7 hyb; have hw : IntKind.i64.wrap (((j1 + 1 : Nat) : Int) - 1) = (j1 : Int) := by rw [wi64 (by unfold I64; omega)]; omega
             obtain ⟨j2, hj2⟩ : ∃ j2, j1 + 1 = j2 := ⟨_, rfl⟩; rw [hj2] at hc k1 k2 k3 k4 k6 hw
             by_cases a1 : y = 34
             · rw [k1 (.inl a1)] at k5; subst a1; clear k1 k2 k3 k4 k6 k7 hw; have HQ2 := Lib.hid k5; have Hbs := Lib.hid (bI_snoc b (x := 34) (by omega)); have hj2 : j2 ≤ en := by omega
               clear k5; refine Calls.mono (hc) ?_; rintro _ w2 ⟨rfl, hp, he⟩; dsimp only; have HP2 := Lib.hid hp; have HE2 := Lib.hid (HE1.out.trans he); have hown := hown.els he hgw; have hwB := HE2.out.size; clear hc hp he HP1 HE1; wkka (first | (at_builtin; refine app_ints w.heap.size 1 [_] Tryd.underlying94 info_q8 (by decide) rfl _ _ rfl rfl rfl rfl rfl hown hwB (by rw [bI_len]; omega) ?_; intro v3 w4 hown3 hb3 _)); go_roundg (gk - 1)
               case rel => exact ⟨f, _, j2, HQ2.out, by rw [List.length_append, List.length_cons, List.length_nil]; omega, by omega, by omega, Lib.hid (by rw [← Hbs.out]; exact hown3), Lib.hid (HP2.out.keepB hb3 hgw), Lib.hid (HE2.out.belowR hb3 (Nat.le_refl _))⟩
               case measure => omega
             by_cases a2 : y = 92
             · rw [k1 (.inr a2)] at k5; subst a2; clear k1 k2 k3 k4 k6 k7 hw; have HQ2 := Lib.hid k5; have Hbs := Lib.hid (bI_snoc b (x := 92) (by omega)); have hj2 : j2 ≤ en := by omega
               clear k5; refine Calls.mono (hc) ?_; rintro _ w2 ⟨rfl, hp, he⟩; dsimp only; have HP2 := Lib.hid hp; have HE2 := Lib.hid (HE1.out.trans he); have hown := hown.els he hgw; have hwB := HE2.out.size; clear hc hp he HP1 HE1; wkka (first | (at_builtin; refine app_ints w.heap.size 1 [_] Tryd.underlying94 info_q8 (by decide) rfl _ _ rfl rfl rfl rfl rfl hown hwB (by rw [bI_len]; omega) ?_; intro v3 w4 hown3 hb3 _)); go_roundg (gk - 1)
               case rel => exact ⟨f, _, j2, HQ2.out, by rw [List.length_append, List.length_cons, List.length_nil]; omega, by omega, by omega, Lib.hid (by rw [← Hbs.out]; exact hown3), Lib.hid (HP2.out.keepB hb3 hgw), Lib.hid (HE2.out.belowR hb3 (Nat.le_refl _))⟩
               case measure => omega
             clear k1; have e1 : ((y : Int) == 34) = false := beq_false_of_ne (by omega); have e2 : ((y : Int) == 92) = false := beq_false_of_ne (by omega)
             by_cases a3 : y = 110
             · rw [k2 a3] at k5; subst a3; clear k2 k3 k4 k6 k7 hw; have HQ2 := Lib.hid k5; have Hbs := Lib.hid (bI_snoc b (x := 10) (by omega)); have hj2 : j2 ≤ en := by omega
               clear k5; refine Calls.mono (hc) ?_; rintro _ w2 ⟨rfl, hp, he⟩; dsimp only; have HP2 := Lib.hid hp; have HE2 := Lib.hid (HE1.out.trans he); have hown := hown.els he hgw; have hwB := HE2.out.size; clear hc hp he HP1 HE1; wkka (first | (at_builtin; refine app_ints w.heap.size 1 [_] Tryd.underlying94 info_q8 (by decide) rfl _ _ rfl rfl rfl rfl rfl hown hwB (by rw [bI_len]; omega) ?_; intro v3 w4 hown3 hb3 _)); go_roundg (gk - 1)
               case rel => exact ⟨f, _, j2, HQ2.out, by rw [List.length_append, List.length_cons, List.length_nil]; omega, by omega, by omega, Lib.hid (by rw [← Hbs.out]; exact hown3), Lib.hid (HP2.out.keepB hb3 hgw), Lib.hid (HE2.out.belowR hb3 (Nat.le_refl _))⟩
               case measure => omega
             have e3 : ((y : Int) == 110) = false := beq_false_of_ne (by omega)
             by_cases a4 : y = 116
             · rw [k3 a4] at k5; subst a4; clear k2 k3 k4 k6 k7 hw; have HQ2 := Lib.hid k5; have Hbs := Lib.hid (bI_snoc b (x := 9) (by omega)); have hj2 : j2 ≤ en := by omega
               clear k5; refine Calls.mono (hc) ?_; rintro _ w2 ⟨rfl, hp, he⟩; dsimp only; have HP2 := Lib.hid hp; have HE2 := Lib.hid (HE1.out.trans he); have hown := hown.els he hgw; have hwB := HE2.out.size; clear hc hp he HP1 HE1; wkka (first | (at_builtin; refine app_ints w.heap.size 1 [_] Tryd.underlying94 info_q8 (by decide) rfl _ _ rfl rfl rfl rfl rfl hown hwB (by rw [bI_len]; omega) ?_; intro v3 w4 hown3 hb3 _)); go_roundg (gk - 1)
               case rel => exact ⟨f, _, j2, HQ2.out, by rw [List.length_append, List.length_cons, List.length_nil]; omega, by omega, by omega, Lib.hid (by rw [← Hbs.out]; exact hown3), Lib.hid (HP2.out.keepB hb3 hgw), Lib.hid (HE2.out.belowR hb3 (Nat.le_refl _))⟩
               case measure => omega
             have e4 : ((y : Int) == 116) = false := beq_false_of_ne (by omega)
             by_cases a5 : y = 114
             · rw [k4 a5] at k5; subst a5; clear k2 k3 k4 k6 k7 hw; have HQ2 := Lib.hid k5; have Hbs := Lib.hid (bI_snoc b (x := 13) (by omega)); have hj2 : j2 ≤ en := by omega
               clear k5; refine Calls.mono (hc) ?_; rintro _ w2 ⟨rfl, hp, he⟩; dsimp only; have HP2 := Lib.hid hp; have HE2 := Lib.hid (HE1.out.trans he); have hown := hown.els he hgw; have hwB := HE2.out.size; clear hc hp he HP1 HE1; wkka (first | (at_builtin; refine app_ints w.heap.size 1 [_] Tryd.underlying94 info_q8 (by decide) rfl _ _ rfl rfl rfl rfl rfl hown hwB (by rw [bI_len]; omega) ?_; intro v3 w4 hown3 hb3 _)); go_roundg (gk - 1)
               case rel => exact ⟨f, _, j2, HQ2.out, by rw [List.length_append, List.length_cons, List.length_nil]; omega, by omega, by omega, Lib.hid (by rw [← Hbs.out]; exact hown3), Lib.hid (HP2.out.keepB hb3 hgw), Lib.hid (HE2.out.belowR hb3 (Nat.le_refl _))⟩
               case measure => omega
             have e5 : ((y : Int) == 114) = false := beq_false_of_ne (by omega)
             by_cases a6 : y = 120
             · rw [k6 a6] at k5; subst a6; clear k2 k3 k4 k6 k7 hw; refine Calls.mono (hc) ?_; rintro _ w2 ⟨rfl, hp, he⟩; dsimp only; have HP2 := Lib.hid hp; have HE2 := Lib.hid (HE1.out.trans he); have hown := hown.els he hgw; have hwB := HE2.out.size; clear hc hp he HP1 HE1; wkk; refine wp_loop_rounds 3 ?_; rw [rounds_succ]; wkk; have hj2 : j2 ≤ en := by omega
               by_cases hw3 : j2 < en
               rotate_left
               · rw [hexQ_no hw3] at k5; have HX := Lib.hid k5.symm; have hc := cf_next_n hS hen HP2.out hw3; refine Calls.mono hc ?_; rintro _ w2 ⟨rfl, he⟩; exact ⟨rfl, CPo.badI HX.out ⟨rfl, HE2.out.trans he⟩⟩
               have hc := cf_next_y hS hen HP2.out hw3; have hzb := bt_lt S.data.toList j2; have hq1 := fun n (hn : hexV (bt S.data.toList j2) = some n) => hexQ_ok hw3 hn
               have hq0 := fun (hn : hexV (bt S.data.toList j2) = none) => hexQ_bad hw3 hn
               generalize bt S.data.toList j2 = z at hc hzb hq1 hq0; have hx := cf_hex z hzb; unfold hexI at hx; have hw : IntKind.i64.wrap (((j2 + 1 : Nat) : Int) - 1) = (j2 : Int) := by rw [wi64 (by unfold I64; omega)]; omega
               obtain ⟨j3, hjw3⟩ : ∃ j3, j2 + 1 = j3 := ⟨_, rfl⟩; rw [hjw3] at hc hq1 hw
               cases hV : hexV z with
               | none =>
                 rw [hV] at hx; dsimp only at hx; rw [hq0 hV] at k5; have HX := Lib.hid k5.symm; clear hq0 hq1 k5 hjw3 hV; refine Calls.mono (hc) ?_; rintro _ w3 ⟨rfl, hp, he⟩; dsimp only; have HP3 := Lib.hid hp; have HE3 := Lib.hid (HE2.out.trans he); have c1 := hp.c1; clear hp he hc; wkk; refine Calls.mono (hx _) ?_; rintro _ wz ⟨rfl, rfl⟩; dsimp only; clear hx; wkk; have hf := cf_fail (.pointer (some ⟨g, 0, none⟩)) 170 j2 w3; refine Calls.mono hf ?_; rintro _ w2 ⟨rfl, rfl⟩; exact ⟨rfl, CPo.badI HX.out ⟨rfl, HE3.out⟩⟩
               | some m =>
               rw [hV] at hx; dsimp only at hx; rw [hq1 _ hV] at k5; have hm16 := hexV_lt hV; clear hq0 hq1 hV hw; refine Calls.mono (hc) ?_; rintro _ w3 ⟨rfl, hp, he⟩; dsimp only; have HP3 := Lib.hid hp; have HE3 := Lib.hid (HE2.out.trans he); have hej3 := he; clear hp he hc; wkk; refine Calls.mono (hx _) ?_; rintro _ wz ⟨rfl, rfl⟩; dsimp only; clear hx; have hcvm : IntKind.u8.wrap (m : Int) = (m : Int) := by rw [IntKind.wrap_u8]; omega
               dsimp only [PR.bind] at k5; have hor : bits .or .u8 0 (m : Int) = (m : Int) := by have := shl4 ⟨0, by decide⟩ ⟨m, hm16⟩; simpa using this
               wkk; rw [rounds_succ]; wkk
               by_cases hw5 : j3 < en
               rotate_left
               · rw [hexQ_no hw5] at k5; have HX := Lib.hid k5.symm; have hc := cf_next_n hS hen HP3.out hw5; refine Calls.mono hc ?_; rintro _ w2 ⟨rfl, he⟩; exact ⟨rfl, CPo.badI HX.out ⟨rfl, HE3.out.trans he⟩⟩
               have hc := cf_next_y hS hen HP3.out hw5; have hzb := bt_lt S.data.toList j3; have hq1 := fun n (hn : hexV (bt S.data.toList j3) = some n) => hexQ_ok hw5 hn
               have hq0 := fun (hn : hexV (bt S.data.toList j3) = none) => hexQ_bad hw5 hn
               generalize bt S.data.toList j3 = z at hc hzb hq1 hq0; have hx := cf_hex z hzb; unfold hexI at hx; have hw : IntKind.i64.wrap (((j3 + 1 : Nat) : Int) - 1) = (j3 : Int) := by rw [wi64 (by unfold I64; omega)]; omega
               obtain ⟨j5, hjw5⟩ : ∃ j5, j3 + 1 = j5 := ⟨_, rfl⟩; rw [hjw5] at hc hq1 hw
               cases hV : hexV z with
               | none =>
                 rw [hV] at hx; dsimp only at hx; rw [hq0 hV] at k5; have HX := Lib.hid k5.symm; clear hq0 hq1 k5 hjw5 hV; refine Calls.mono (hc) ?_; rintro _ w5 ⟨rfl, hp, he⟩; dsimp only; have HP5 := Lib.hid hp; have HE5 := Lib.hid (HE3.out.trans he); have c1 := hp.c1; clear hp he hc; wkk; refine Calls.mono (hx _) ?_; rintro _ wz ⟨rfl, rfl⟩; dsimp only; clear hx; wkk; have hf := cf_fail (.pointer (some ⟨g, 0, none⟩)) 170 j3 w5; refine Calls.mono hf ?_; rintro _ w2 ⟨rfl, rfl⟩; exact ⟨rfl, CPo.badI HX.out ⟨rfl, HE5.out⟩⟩
               | some m2 =>
               rw [hV] at hx; dsimp only at hx; rw [hq1 _ hV] at k5; have hm216 := hexV_lt hV; clear hq0 hq1 hV hw; refine Calls.mono (hc) ?_; rintro _ w5 ⟨rfl, hp, he⟩; dsimp only; have HP5 := Lib.hid hp; have HE5 := Lib.hid (HE3.out.trans he); have hej5 := he; clear hp he hc; wkk; refine Calls.mono (hx _) ?_; rintro _ wz ⟨rfl, rfl⟩; dsimp only; clear hx; have hcvm2 : IntKind.u8.wrap (m2 : Int) = (m2 : Int) := by rw [IntKind.wrap_u8]; omega
               dsimp only [PR.bind] at k5; have hor2 := shl4 ⟨m, hm16⟩ ⟨m2, hm216⟩; dsimp only at hor2; have Hbs := Lib.hid (bI_snoc b (x := 16 * m + m2) (by omega)); have HQ2 := Lib.hid k5; have hwB := HE5.out.size; have hown := (hown.els hej3 hgw).els hej5 hgw; generalize 16 * m + m2 = mm at hor2 Hbs HQ2; clear k5 hej3 hej5 hor; wkk; rw [rounds_succ]; wkka (first | (at_builtin; refine app_ints w.heap.size 1 [_] Tryd.underlying94 info_q8 (by decide) rfl _ _ rfl rfl rfl rfl rfl hown hwB (by rw [bI_len]; omega) ?_; intro v3 w4 hown3 hb3 _)); go_roundg (gk - 1)
               case rel => exact ⟨f, _, j5, HQ2.out, by rw [List.length_append, List.length_cons, List.length_nil]; omega, by omega, by omega, Lib.hid (by rw [← Hbs.out]; exact hown3), Lib.hid (HP5.out.keepB hb3 hgw), Lib.hid (HE5.out.belowR hb3 (Nat.le_refl _))⟩
               case measure => omega
             · rw [k7 a1 a2 a3 a4 a5 a6] at k5; have HX := Lib.hid k5.symm; have e6 : ((y : Int) == 120) = false := beq_false_of_ne (by omega); clear k2 k3 k4 k5 k6 k7; refine Calls.mono (hc) ?_; rintro _ w2 ⟨rfl, hp, he⟩; dsimp only; have HP2 := Lib.hid hp; have HE2 := Lib.hid (HE1.out.trans he); have hown := hown.els he hgw; have hwB := HE2.out.size; clear hc hp he HP1 HE1; have c1 := HP2.out.c1; wkk; have hf := cf_fail (.pointer (some ⟨g, 0, none⟩)) 170 j1 w2; refine Calls.mono hf ?_; rintro _ w2 ⟨rfl, rfl⟩; exact ⟨rfl, CPo.badI HX.out ⟨rfl, HE2.out⟩⟩
           · rw [B.b1 hjn2] at k5; have HX := Lib.hid k5.symm; have hc := cf_next_n hS hen HP1.out hjn2; refine Calls.mono hc ?_; rintro _ w2 ⟨rfl, he⟩; exact ⟨rfl, CPo.badI HX.out ⟨rfl, HE1.out.trans he⟩⟩
         · have HQ2 := Lib.hid (k4 (by omega) h92); have h92' : ((x : Int) != 92) = true := by rw [bne_iff_ne]; omega
           have Hbs := Lib.hid (bI_snoc b hxb); clear k3 k4 k5 hw; wkk; refine Calls.mono (hc) ?_; rintro _ w1 ⟨rfl, hp, he⟩; dsimp only; have HP1 := Lib.hid hp; have HE1 := Lib.hid (HE.out.trans he); have hown := HO.out.els he hgw; have hwB := HE1.out.size; clear hc hp he HP HE HO; wkka (first | (at_builtin; refine app_ints w.heap.size 1 [_] Tryd.underlying94 info_q8 (by decide) rfl _ _ rfl rfl rfl rfl rfl hown hwB (by rw [bI_len]; omega) ?_; intro v3 w4 hown3 hb3 _)); go_roundg (gk - 1)
           case rel => exact ⟨f, _, j1, HQ2.out, by rw [List.length_append, List.length_cons, List.length_nil]; omega, by omega, by omega, Lib.hid (by rw [← Hbs.out]; exact hown3), Lib.hid (HP1.out.keepB hb3 hgw), Lib.hid (HE1.out.belowR hb3 (Nat.le_refl _))⟩
           case measure => omega
       · have HX := Lib.hid (Q.q1 hjn); clear Q; wkk; have hc := cf_next_n hS hen HP.out hjn; refine Calls.mono hc ?_; rintro _ w2 ⟨rfl, he⟩; exact ⟨rfl, CPo.badI HX.out ⟨rfl, HE.out.trans he⟩⟩
end Go.Proofs.YtonkenlkigfeoaaDoor
