/- Walks: alternatives (alt). Conditions: a text of at most 512 bytes; a place within it. -/
import Derived.Test.YtnbfifmnigeolaaPrsCls
import Derived.Test.YtnbfifmnigeolaaPrsJoin
namespace Go.Proofs.Ytnbfifmnigeolaa
open Go.RowKit Go.Lib
/-- the contract of a part, with so much fuel -/
def CT (g : Nat) (S : ByteArray) (fn : Nat) (k : Tk) (f : Nat) : Prop :=
  ∀ (d i : Nat) (w : World), i ≤ S.size → d ≤ 30 → PsAt w g S i d → prs S.data.toList f k d i ≠ .out → Calls Try.prog fn #[.pointer (some ⟨g, 0, none⟩)] w (TPost g S d w (prs S.data.toList f k d i))
/-- the result's box, the parser -/
structure AX (w : World) (Z g : Nat) (S : ByteArray) (d i : Nat) (W : World) : Prop where
  bx : ReBox W Z reZ
  ps : PsAt W g S i d
  els : Else g w W
  lt : g < Z
  sz : w.heap.size = Z
section
variable {w W W' : World} {Z g : Nat} {S : ByteArray} {d i : Nat}
theorem AX.keep (h : AX w Z g S d i W) (hb : Below W.heap.size W W') : AX w Z g S d i W' := ⟨h.bx.keep hb, h.ps.keep hb, h.els.trans (Else.of_below hb), h.lt, h.sz⟩
theorem AX.go {j d' : Nat} (h : AX w Z g S d i W) (hp : PsAt W' g S j d') (he : Else g W W') : AX w Z g S d' j W' := ⟨he.row h.bx (by have := h.lt; omega), hp, h.els.trans he, h.lt, h.sz⟩
theorem AX.grow {v : Option Nat} (h : AX w Z g S d i W) (hg : W.grownBy W' v) (hv : ∀ k, v = some k → Z + 1 ≤ k) : AX w Z g S d i W' := by
  have hk : ∀ k, k ≤ Z → W'.heap[k]? = W.heap[k]? := fun k hk => hg.block k (by have := h.bx.lt; omega) (fun e => by have := hv k e.symm; omega)
  refine ⟨by unfold ReBox; rw [hk Z (Nat.le_refl _)]; exact h.bx, by unfold PsAt; rw [hk g (by have := h.lt; omega)]; exact h.ps, ?_, h.lt, h.sz⟩
  exact ⟨hg.os.trans h.els.os, hg.tape.trans h.els.tape, hg.output.trans h.els.output, Nat.le_trans h.els.size hg.size, fun k hk' hne => (hk k (by have := h.sz; omega)).trans (h.els.block k hk' hne)⟩
/-- the result laid into its box -/
theorem AX.done {r : RN} {t : Re} (h : AX w Z g S d i W) (hx : ReX (Z + 1) g W r t) : ReX w.heap.size g (W.setRow Z (reC r).toArray) r t ∧ PsAt (W.setRow Z (reC r).toArray) g S i d ∧ Else g w (W.setRow Z (reC r).toArray) :=
  ⟨(hx.keep (fun k hk _ _ => setRow_other _ _ _ _ (by omega)) (by simp)).mono (by have := h.sz; omega), h.ps.row (by have := h.lt; omega), h.els.rowNew (by have := h.sz; omega) _⟩
end
theorem AX.start {w : World} {g : Nat} {S : ByteArray} {i d : Nat} (h : PsAt w g S i d) : AX w w.heap.size g S d i (w.alloc (.cells #[.int .i64 0, .int .u64 0, .int .u64 0, .int .u64 0, .int .u64 0, .int .i64 0, .int .i64 0, .slice none 0 0] 29)) :=
  ⟨ReBox.zero w, h.keep ((Below.refl _ _).alloc (Nat.le_refl _) _), Else.of_below ((Below.refl _ _).alloc (Nat.le_refl _) _), h.lt, rfl⟩
theorem LsAt.zp {B g : Nat} {w : World} {v : Value} {l : List Re} (h : LsAt B w v l) (hg : g < B) : ∃ rs, RowOf reC 8 w v rs ∧ Zp B g w rs l := by
  obtain ⟨rs, h1, h2, h3⟩ := h
  exact ⟨rs, h1.row, h2, fun i r t hr ht => h3 i r t hr ht g (.inr hg)⟩
set_option maxRecDepth 100000 in
set_option maxHeartbeats 4000000 in
theorem ps_alt (g : Nat) (S : ByteArray) (f : Nat) (hS : S.size ≤ 512) (IH : ∀ f', f' ≤ f → CT g S 12 (.cat []) f') : CT g S 8 .alt (f + 1) := by
  intro d i w hi hd h hn
  rw [prs] at hn ⊢
  have hcat := IH f (Nat.le_refl _) d i
  have hin := prs_in (s := S.data.toList) f (.cat []) d i (by rw [ba_len]; exact hi)
  have hsz := prs_sz (s := S.data.toList) f (.cat []) d i (by rw [ba_len]; exact hi)
  cases hX : prs S.data.toList f (.cat []) d i with
  | out => rw [hX] at hn; exact absurd rfl hn
  | bad e0 j =>
    have hc := fun (W : World) (hp : PsAt W g S i d) => hcat W hi hd hp (by rw [hX]; intro e; cases e)
    simp only [hX] at hc
    clear hcat hn hin hsz hX
    have HA := Lib.hid (AX.start h)
    clear h
    go_enter Try.func8, Try.ntmps8
    repeat' (go_not_at_region 1; first | go_values | go_skip | go_guarded | go_step | go_upon)
    generalize hZ : w.heap.size = Z at HA ⊢
    refine gen_wd (fun W => AX w Z g S d i W) HA.out ?_
    clear HA
    rintro w1 hj
    have HA := Lib.hid hj
    clear hj hZ
    repeat' (first | go_values | go_skip | go_guarded | go_step | go_upon)
    have hc := hc w1 HA.out.ps
    refine Calls.mono hc ?_
    rintro _ wy ⟨rfl, he⟩
    exact ⟨rfl, TPost.badI rfl ⟨rfl, HA.out.els.trans he⟩⟩
  | ok t0 j0 =>
    have hc := fun (W : World) (hp : PsAt W g S i d) => hcat W hi hd hp (by rw [hX]; intro e; cases e)
    simp only [hX] at hc
    have hj := hin.okB hX
    rw [ba_len] at hj
    have hs0 := hsz _ _ hX
    rw [hX] at hn
    simp only [PR.bind, Tk.bound, Re.szL] at hn hs0 ⊢
    obtain ⟨X0, hX0⟩ : ∃ X0, prs S.data.toList f (.altL [t0]) d j0 = X0 := ⟨_, rfl⟩
    rw [hX0] at hn ⊢
    have HX0 := Lib.hid hX0
    have HN := Lib.hid hn
    have hsl : Re.szL [t0] ≤ 2 * j0 + 1 := by simp only [Re.szL]; omega
    clear hcat hn hin hsz hX hX0 hs0
    have HA := Lib.hid (AX.start h)
    clear h
    go_enter Try.func8, Try.ntmps8
    repeat' (go_not_at_region 1; first | go_values | go_skip | go_guarded | go_step | go_upon)
    generalize hZ : w.heap.size = Z at HA ⊢
    refine gen_wd (fun W => AX w Z g S d i W) HA.out ?_
    clear HA
    rintro w1 hj
    have HA := Lib.hid hj
    clear hj hZ
    repeat' (first | go_values | go_skip | go_guarded | go_step | go_upon)
    have hc := hc w1 HA.out.ps
    refine Calls.mono (hc) ?_
    rintro _ w2 ⟨⟨r, rfl, hx⟩, hp, he⟩
    dsimp only
    have hzlt := HA.out.bx.lt
    have HA := Lib.hid (HA.out.go hp he)
    have HL : Hid (LsAt (Z + 1) (w2.alloc (.cells (reC r).toArray 29)) (.slice (some ⟨w2.heap.size, 0, none⟩) 1 1) [t0]) := Lib.hid (LsAt.single HA.out.bx.lt ⟨g, hx.mono hzlt⟩ fun q hq => (hx.mono hzlt).drop (.inl hq))
    have HA := Lib.hid (HA.out.keep ((Below.refl _ _).alloc (Nat.le_refl _) (.cells (reC r).toArray 29)))
    clear hc hx hp he hzlt
    dsimp only [reV, reC]
    repeat' (first | go_values | go_skip | go_guarded | go_step | go_upon)
    go_loopg [3] f (fun gk s3 wr => ∃ (l : List Re) (i' : Nat), i' ≤ S.size ∧ gk ≤ f ∧ Re.szL l ≤ 2 * i' + 1 ∧ Hid (prs S.data.toList gk (.altL l) d i' = X0) ∧ Hid (LsAt (Z + 1) wr s3 l) ∧ Hid (AX w Z g S d i' wr))
    case atStart => exact ⟨[t0], j0, hj.2, Nat.le_refl _, hsl, HX0, HL, HA⟩
    case round =>
      clear HX0 HL HA hsl hj hi
      obtain ⟨l, i', hi', hgf, hsl, HC, HL, HA⟩ := hrel
      cases gk with
      | zero => exact absurd (by rw [← HC.out, prs]) HN.out
      | succ gk =>
        have hC := HC.out
        rw [prs] at hC
        clear HC
        by_cases h124 : isC S.data.toList i' 124
        · rw [if_pos h124] at hC
          have ht := ps_take_y g S i' d 124 (by omega) wr HA.out.ps h124
          have hi1 : i' + 1 ≤ S.size := by have := h124.1; rw [ba_len] at this; omega
          have hcat := fun W hp hne => IH gk (by omega) d (i' + 1) W hi1 hd hp hne
          have hin := prs_in (s := S.data.toList) gk (.cat []) d (i' + 1) (by rw [ba_len]; exact hi1)
          have hsz := prs_sz (s := S.data.toList) gk (.cat []) d (i' + 1) (by rw [ba_len]; exact hi1)
          clear h124
          repeat' (first | go_values | go_skip | go_guarded | go_step | go_upon)
          refine Calls.mono (ht) ?_
          rintro _ w4 ⟨rfl, hp, he⟩
          dsimp only
          have HA := Lib.hid (HA.out.go hp he)
          have HL := Lib.hid (HL.out.els he (by have := HA.out.lt; omega))
          clear ht hp he
          repeat' (first | go_values | go_skip | go_guarded | go_step | go_upon)
          cases hX : prs S.data.toList gk (.cat []) d (i' + 1) with
          | out => rw [hX] at hC; exact absurd hC.symm HN.out
          | bad e0 j =>
            have hc := hcat w4 HA.out.ps (by rw [hX]; intro e; cases e)
            rw [hX] at hc hC
            have HC := Lib.hid hC.symm
            refine Calls.mono hc ?_
            rintro _ wy ⟨rfl, he⟩
            exact ⟨rfl, TPost.badI HC.out ⟨rfl, HA.out.els.trans he⟩⟩
          | ok t j =>
            have hc := hcat w4 HA.out.ps (by rw [hX]; intro e; cases e)
            have hj := hin.okB hX
            rw [ba_len] at hj
            have hs0 := hsz _ _ hX
            rw [hX] at hc hC
            simp only [PR.bind, Tk.bound, Re.szL, Tk.least] at hC hs0 hj
            have HC := Lib.hid hC
            clear hcat hin hsz hX hC
            refine Calls.mono (hc) ?_
            rintro _ w5 ⟨⟨r, rfl, hx⟩, hp, he⟩
            dsimp only
            have hz4 := HA.out.bx.lt
            have hr : Hid (∀ q, (u3.ownBlock = some q ∨ q < Z + 1) → ReX (Z + 1) q w5 r t) := Lib.hid (fun q hq => by
              obtain ⟨rs0, ho0, _⟩ := HL.out
              refine (hx.drop (p' := q) ?_).mono (by omega)
              rcases hq with hq | hq
              · have := (ho0.below hq).2; exact .inl this
              · exact .inl (by omega))
            have HA := Lib.hid (HA.out.go hp he)
            have HL := Lib.hid (HL.out.els he (by have := HA.out.lt; omega))
            clear hc hp he hz4
            obtain ⟨rs, hown, hrl, h3⟩ := HL.out
            have hlen : rs.length ≤ 2000 := by have := szL_len l; omega
            have hone := ReX.one hx
            have HXX := Lib.hid hx
            have HL3 := Lib.hid h3
            have HO := Lib.hid hown
            have hwB : Z + 1 ≤ w5.heap.size := HA.out.bx.lt
            clear h3
            dsimp only [reV, reC]
            repeat' (first | (at_builtin; go_loud (refine app_two 80 w5.heap.size rfl r reC_length (reC_oneAll hone) Try.underlying27 info_re3 rfl rfl _ _ rfl rfl rfl rfl hown hwB (by omega) (by unfold maxLen; omega) ?_); intro v6 w6 ho6 hg6 hs6) | go_values | go_skip | go_guarded | go_step | go_upon)
            have HSN := Lib.hid (LsAt.snoc (by omega) ho6 hrl HL3.out hr.out hg6 (fun k hk => Go.heap_alloc_old w5 _ hk) (by simp) hs6)
            have HA6 := Lib.hid ((HA.out.keep ((Below.refl _ _).alloc (Nat.le_refl _) (.cells (reC r).toArray 29))).grow hg6 fun k hk => (HO.out.below hk).1)
            go_roundg gk
            case rel => exact ⟨l ++ [t], j, hj.2, by omega, by rw [szL_append]; simp only [Re.szL]; omega, HC, HSN, HA6⟩
            case measure => omega
        · rw [if_neg h124] at hC
          have HC := Lib.hid hC
          have ht := ps_take_n g S i' d 124 wr HA.out.ps h124
          clear hC h124
          repeat' (first | go_values | go_skip | go_guarded | go_step | go_upon)
          refine Calls.mono (ht) ?_
          rintro _ w4 ⟨rfl, hb⟩
          dsimp only
          have HA := Lib.hid (HA.out.keep hb)
          have HL := Lib.hid (HL.out.keepB hb)
          clear ht hb
          obtain ⟨rs, hrow, hz⟩ := HL.out.zp (g := g) (by have := HA.out.lt; omega)
          have hj := re_join 3 (by unfold I64; omega) (Z + 1) g _ rs l w4 hrow hz HA.out.bx.lt (by have := HA.out.lt; omega) (by omega)
          clear hrow hz HL
          repeat' (first | go_values | go_skip | go_guarded | go_step | go_upon)
          refine Calls.mono (hj) ?_
          rintro _ wj ⟨rj, rfl, hxj, hbj⟩
          dsimp only
          have HA := Lib.hid (HA.out.keep hbj)
          have hone := hxj.one
          have HD := Lib.hid (HA.out.done hxj)
          have HM := Lib.hid HA.out.bx
          clear hj hxj hbj
          repeat' (first | (refine store_box HM.out rj hone _ _ rfl rfl rfl ?_; dsimp only [Act.put]) | go_values | go_skip | go_guarded | go_step | go_upon)
          refine bodyPost_ret (results_re rfl _ _ _ _ rfl (HM.out.set _)) rfl ?_
          exact TPost.okI HC.out.symm ⟨⟨_, rfl, HD.out.1⟩, HD.out.2.1, HD.out.2.2⟩
end Go.Proofs.Ytnbfifmnigeolaa
