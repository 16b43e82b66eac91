/- Walks: a part and how often (item). Conditions: a text of at most 512 bytes; a place within it. -/
import Derived.Test.YtnbfifmnigeolaaPrsAlt
import Derived.Test.YtnbfifmnigeolaaPrsNum
namespace Go.Proofs.Ytnbfifmnigeolaa
open Go.RowKit Go.Lib
theorem numR_le {s : List UInt8} {least i a j : Nat} (h : numR s least i = .ok a j) : a ≤ 20 := by
  unfold numR at h
  split at h
  · rename_i hd
    split at h
    · split at h
      · cases h
      · simp only [PR.ok.injEq] at h; omega
    · split at h
      · cases h
      · simp only [PR.ok.injEq] at h; have := hd.2; omega
  · cases h
/-- the part's box as well -/
structure IX (w : World) (Z g : Nat) (S : ByteArray) (d i b3 : Nat) (r : RN) (t : Re) (W : World) : Prop where
  ax : AX w Z g S d i W
  b : ReBox W b3 r
  x : ReX (Z + 1) b3 W r t
  lt : Z < b3
def repN (lo : Nat) (hi : Int) (q : Nat) : RN := ⟨4, (0, 0, 0, 0), lo, hi, .slice (some ⟨q, 0, none⟩) 1 1⟩
section
variable {w W W' : World} {Z g : Nat} {S : ByteArray} {d i b3 : Nat} {r : RN} {t : Re}
theorem IX.keep (h : IX w Z g S d i b3 r t W) (hb : Below W.heap.size W W') : IX w Z g S d i b3 r t W' := ⟨h.ax.keep hb, h.b.keep hb, h.x.keepB hb (Nat.le_refl _), h.lt⟩
theorem IX.go {j : Nat} (h : IX w Z g S d i b3 r t W) (hp : PsAt W' g S j d) (he : Else g W W') : IX w Z g S d j b3 r t W' :=
  ⟨h.ax.go hp he, he.row h.b (by have := h.lt; have := h.ax.lt; omega), h.x.els he (by have := h.ax.lt; omega), h.lt⟩
theorem AX.row (h : AX w Z g S d i W) {q : Nat} (hq : Z < q) (cs : Array Value) : AX w Z g S d i (W.setRow q cs) :=
  ⟨h.bx.other (by omega), h.ps.row (by have := h.lt; omega), h.els.rowNew (by have := h.sz; omega) _, h.lt, h.sz⟩
theorem repT_mk {lo : Nat} {hi : Int} (hn : ¬ (lo = 1 ∧ hi = 1)) (t : Re) : repT lo hi t = .mk 4 (0, 0, 0, 0) lo hi [t] := by unfold repT; rw [if_neg hn]
theorem IX.rep (h : IX w Z g S d i b3 r t W) (lo : Nat) (hi : Int) (hlo : lo ≤ 20) (hhi : -1 ≤ hi ∧ hi ≤ 20) (hn : ¬ (lo = 1 ∧ hi = 1)) :
    IX w Z g S d i b3 (repN lo hi W.heap.size) (repT lo hi t) ((W.alloc (.cells (reC r).toArray 29)).setRow b3 (reC (repN lo hi W.heap.size)).toArray) := by
  have hk := (Below.refl W.heap.size W).alloc (Nat.le_refl _) (.cells (reC r).toArray 29)
  have hb3 := h.b.lt
  have hq : ((W.alloc (.cells (reC r).toArray 29)).setRow b3 (reC (repN lo hi W.heap.size)).toArray).heap[W.heap.size]? = some (.cells (reC r).toArray 29 (0, 0)) := by
    rw [setRow_other _ _ _ _ (by omega)]; exact Go.heap_alloc_new W _
  refine ⟨(h.ax.keep hk).row h.lt _, (h.b.keep hk).set _, ?_, h.lt⟩
  rw [repT_mk hn]
  have hx : ReX (Z + 1) b3 ((W.alloc (.cells (reC r).toArray 29)).setRow b3 (reC (repN lo hi W.heap.size)).toArray) r t :=
    h.x.keep (fun k _ hk' hne => by rw [setRow_other _ _ _ _ hne]; exact hk.block k hk') (by simp)
  refine .mk (repN lo hi W.heap.size) [t] [r] ⟨by show I64 4; unfold I64; omega, by show I64 (lo : Int); unfold I64; omega, by show I64 hi; unfold I64; omega⟩ (by show 1 ≤ _; omega) ?_ (.inr ⟨W.heap.size, 0, 1, 1, rfl, by have := h.ax.bx.lt; omega, by omega⟩) rfl (Zp.one hx).2
  refine ⟨some ⟨W.heap.size, 0, none⟩, 1, rfl, Nat.le_refl _, by unfold maxLen; omega, rfl, .inr ⟨W.heap.size, 0, rfl, by simp, fun j hj => ?_⟩⟩
  rw [Nat.zero_add, cell_of_row _ _ j _ _ _ hq]
  simp
end
set_option maxRecDepth 100000 in
set_option maxHeartbeats 8000000 in
theorem ps_item (g : Nat) (S : ByteArray) (f : Nat) (hS : S.size ≤ 512) (IH : CT g S 20 .atom f) : CT g S 18 .item (f + 1) := by
  intro d i w hi hd h hn
  rw [prs] at hn ⊢
  have hin := prs_in (s := S.data.toList) f .atom d i (by rw [ba_len]; exact hi)
  have hat := IH d i
  cases hX : prs S.data.toList f .atom d i with
  | out => rw [hX] at hn; exact absurd rfl hn
  | bad e0 j =>
    have hc := fun (W : World) (hp : PsAt W g S i d) => hat W hi hd hp (by rw [hX]; intro e; cases e)
    simp only [hX] at hc
    clear hat hn hin hX
    have HA := Lib.hid (AX.start h)
    clear h
    go_enter Try.func18, Try.ntmps18
    repeat' (go_not_at_region 1; first | go_values | go_skip | go_guarded | go_step | go_upon)
    generalize hZ : w.heap.size = Z at HA ⊢
    refine gen_wd (fun W => AX w Z g S d i W) HA.out ?_
    clear HA
    rintro w1 hj
    have HA := Lib.hid hj
    clear hj hZ
    repeat' (first | go_values | go_skip | go_guarded | go_step | go_upon)
    have hc := hc w1 HA.out.ps
    refine Calls.mono hc ?_
    rintro _ wy ⟨rfl, he⟩
    exact ⟨rfl, TPost.badI rfl ⟨rfl, HA.out.els.trans he⟩⟩
  | ok t0 j0 =>
    have hc := fun (W : World) (hp : PsAt W g S i d) => hat W hi hd hp (by rw [hX]; intro e; cases e)
    simp only [hX] at hc
    have hj := (hin.okB hX).2
    rw [ba_len] at hj
    rw [hX] at hn
    simp only [PR.bind] at hn ⊢
    obtain ⟨X0, hX0⟩ : ∃ X0, prs S.data.toList f (.itemL t0) d j0 = X0 := ⟨_, rfl⟩
    rw [hX0] at hn ⊢
    have HX0 := Lib.hid hX0
    have HN := Lib.hid hn
    clear hat hn hin hX hX0
    have HA := Lib.hid (AX.start h)
    clear h
    go_enter Try.func18, Try.ntmps18
    repeat' (go_not_at_region 1; first | go_values | go_skip | go_guarded | go_step | go_upon)
    generalize hZ : w.heap.size = Z at HA ⊢
    refine gen_wd (fun W => AX w Z g S d i W) HA.out ?_
    clear HA
    rintro w1 hj
    have HA := Lib.hid hj
    clear hj hZ
    repeat' (first | go_values | go_skip | go_guarded | go_step | go_upon)
    have hc := hc w1 HA.out.ps
    refine Calls.mono (hc) ?_
    rintro _ w2 ⟨⟨r0, rfl, hx⟩, hp, he⟩
    dsimp only
    have hone := hx.one
    have hzlt := HA.out.bx.lt
    have HA := Lib.hid (HA.out.go hp he)
    have HI : Hid (IX w Z g S d j0 w2.heap.size r0 t0 (w2.alloc (.cells (reC r0).toArray 29))) := Lib.hid ⟨HA.out.keep ((Below.refl _ _).alloc (Nat.le_refl _) _), ReBox.new w2 r0, ((hx.mono hzlt).drop (.inr (Nat.le_refl _))).keepB ((Below.refl _ _).alloc (Nat.le_refl _) _) (Nat.le_refl _), HA.out.bx.lt⟩
    clear hc hx hp he hzlt HA hi
    repeat' (first | (refine store_re (r := r0) hone _ _ rfl rfl rfl rfl ?_; dsimp only [Act.put]) | go_values | go_skip | go_guarded | go_step | go_upon)
    generalize w2.heap.size = b3 at HI ⊢
    go_loopg [4] f (fun gk s4 wr => ∃ (t : Re) (r : RN) (i' : Nat), i' ≤ S.size ∧ Hid (prs S.data.toList gk (.itemL t) d i' = X0) ∧ Hid (IX w Z g S d i' b3 r t wr))
    case atStart => exact ⟨t0, r0, j0, hj, HX0, HI⟩
    case round =>
      clear HX0 HI hj hone
      obtain ⟨t, r, i', hi', HC, HI⟩ := hrel
      cases gk with
      | zero => exact absurd (by rw [← HC.out, prs]) HN.out
      | succ gk =>
        have hC := HC.out
        rw [prs] at hC
        clear HC
        by_cases h42 : isC S.data.toList i' 42
        · rw [if_pos h42] at hC
          have HC := Lib.hid hC
          have hi1 : i' + 1 ≤ S.size := by have := h42.1; rw [ba_len] at this; omega
          have ht := ps_take_y g S i' d 42 (by omega) _ HI.out.ax.ps h42
          repeat' (first | go_values | go_skip | go_guarded | go_step | go_upon)
          refine Calls.mono (ht) ?_
          rintro _ wu ⟨rfl, hp, he⟩
          dsimp only
          have HI := Lib.hid (HI.out.go hp he)
          clear ht hp he
          clear hC h42
          have HB3 := Lib.hid HI.out.b
          have HB4 := Lib.hid (HI.out.b.keep ((Below.refl _ _).alloc (Nat.le_refl _) (.cells (reC r).toArray 29)))
          have HR := Lib.hid (HI.out.rep 0 (-1) (by omega) (by omega) (by omega))
          skip
          repeat' (first | (with_reducible refine load_box HB3.out _ rfl rfl ?_; dsimp only [Act.put, reV, reC]) | (refine store_box HB4.out (repN 0 (-1) wu.heap.size) rfl _ _ rfl rfl rfl ?_; dsimp only [Act.put]) | go_values | go_skip | go_guarded | go_step | go_upon)
          go_roundg gk
          case rel => exact ⟨_, _, (i' + 1), hi1, HC, HR⟩
          case measure => omega
        rw [if_neg h42] at hC
        by_cases h43 : isC S.data.toList i' 43
        · rw [if_pos h43] at hC
          have HC := Lib.hid hC
          have hi1 : i' + 1 ≤ S.size := by have := h43.1; rw [ba_len] at this; omega
          have ht := ps_take_n g S i' d 42 _ HI.out.ax.ps h42
          repeat' (first | go_values | go_skip | go_guarded | go_step | go_upon)
          refine Calls.mono (ht) ?_
          rintro _ wt ⟨rfl, hb⟩
          dsimp only
          have HI := Lib.hid (HI.out.keep hb)
          clear ht hb
          have ht := ps_take_y g S i' d 43 (by omega) _ HI.out.ax.ps h43
          repeat' (first | go_values | go_skip | go_guarded | go_step | go_upon)
          refine Calls.mono (ht) ?_
          rintro _ wu ⟨rfl, hp, he⟩
          dsimp only
          have HI := Lib.hid (HI.out.go hp he)
          clear ht hp he
          clear hC h43 h42
          have HB3 := Lib.hid HI.out.b
          have HB4 := Lib.hid (HI.out.b.keep ((Below.refl _ _).alloc (Nat.le_refl _) (.cells (reC r).toArray 29)))
          have HR := Lib.hid (HI.out.rep 1 (-1) (by omega) (by omega) (by omega))
          skip
          repeat' (first | (with_reducible refine load_box HB3.out _ rfl rfl ?_; dsimp only [Act.put, reV, reC]) | (refine store_box HB4.out (repN 1 (-1) wu.heap.size) rfl _ _ rfl rfl rfl ?_; dsimp only [Act.put]) | go_values | go_skip | go_guarded | go_step | go_upon)
          go_roundg gk
          case rel => exact ⟨_, _, (i' + 1), hi1, HC, HR⟩
          case measure => omega
        rw [if_neg h43] at hC
        by_cases h63 : isC S.data.toList i' 63
        · rw [if_pos h63] at hC
          have HC := Lib.hid hC
          have hi1 : i' + 1 ≤ S.size := by have := h63.1; rw [ba_len] at this; omega
          have ht := ps_take_n g S i' d 42 _ HI.out.ax.ps h42
          repeat' (first | go_values | go_skip | go_guarded | go_step | go_upon)
          refine Calls.mono (ht) ?_
          rintro _ wt ⟨rfl, hb⟩
          dsimp only
          have HI := Lib.hid (HI.out.keep hb)
          clear ht hb
          have ht := ps_take_n g S i' d 43 _ HI.out.ax.ps h43
          repeat' (first | go_values | go_skip | go_guarded | go_step | go_upon)
          refine Calls.mono (ht) ?_
          rintro _ wt ⟨rfl, hb⟩
          dsimp only
          have HI := Lib.hid (HI.out.keep hb)
          clear ht hb
          have ht := ps_take_y g S i' d 63 (by omega) _ HI.out.ax.ps h63
          repeat' (first | go_values | go_skip | go_guarded | go_step | go_upon)
          refine Calls.mono (ht) ?_
          rintro _ wu ⟨rfl, hp, he⟩
          dsimp only
          have HI := Lib.hid (HI.out.go hp he)
          clear ht hp he
          clear hC h43 h42 h63
          have HB3 := Lib.hid HI.out.b
          have HB4 := Lib.hid (HI.out.b.keep ((Below.refl _ _).alloc (Nat.le_refl _) (.cells (reC r).toArray 29)))
          have HR := Lib.hid (HI.out.rep 0 1 (by omega) (by omega) (by omega))
          skip
          repeat' (first | (with_reducible refine load_box HB3.out _ rfl rfl ?_; dsimp only [Act.put, reV, reC]) | (refine store_box HB4.out (repN 0 1 wu.heap.size) rfl _ _ rfl rfl rfl ?_; dsimp only [Act.put]) | go_values | go_skip | go_guarded | go_step | go_upon)
          go_roundg gk
          case rel => exact ⟨_, _, (i' + 1), hi1, HC, HR⟩
          case measure => omega
        rw [if_neg h63] at hC
        by_cases h123 : isC S.data.toList i' 123
        · rw [if_pos h123] at hC
          have hi1 : i' + 1 ≤ S.size := by have := h123.1; rw [ba_len] at this; omega
          have ht := ps_take_n g S i' d 42 _ HI.out.ax.ps h42
          repeat' (first | go_values | go_skip | go_guarded | go_step | go_upon)
          refine Calls.mono (ht) ?_
          rintro _ wt ⟨rfl, hb⟩
          dsimp only
          have HI := Lib.hid (HI.out.keep hb)
          clear ht hb
          have ht := ps_take_n g S i' d 43 _ HI.out.ax.ps h43
          repeat' (first | go_values | go_skip | go_guarded | go_step | go_upon)
          refine Calls.mono (ht) ?_
          rintro _ wt ⟨rfl, hb⟩
          dsimp only
          have HI := Lib.hid (HI.out.keep hb)
          clear ht hb
          have ht := ps_take_n g S i' d 63 _ HI.out.ax.ps h63
          repeat' (first | go_values | go_skip | go_guarded | go_step | go_upon)
          refine Calls.mono (ht) ?_
          rintro _ wt ⟨rfl, hb⟩
          dsimp only
          have HI := Lib.hid (HI.out.keep hb)
          clear ht hb
          have ht := ps_take_y g S i' d 123 (by omega) _ HI.out.ax.ps h123
          repeat' (first | go_values | go_skip | go_guarded | go_step | go_upon)
          refine Calls.mono (ht) ?_
          rintro _ wu ⟨rfl, hp, he⟩
          dsimp only
          have HI := Lib.hid (HI.out.go hp he)
          clear ht hp he
          clear h42 h43 h63 h123
          unfold bndR at hC
          have hnum := ps_num g S (i' + 1) d 0 hS hi1 wu HI.out.ax.ps
          have hnin := numR_in (s := S.data.toList) (i := i' + 1) (by rw [ba_len]; exact hi1) 0
          repeat' (first | go_values | go_skip | go_guarded | go_step | go_upon)
          cases hN : numR S.data.toList 0 (i' + 1) with
          | out => exact absurd hN numR_out
          | bad e0 j =>
            rw [hN] at hnum hC
            have HC := Lib.hid hC.symm
            clear hC
            refine Calls.mono hnum ?_
            rintro _ wm ⟨rfl, he⟩
            exact ⟨rfl, TPost.badI HC.out ⟨rfl, HI.out.ax.els.trans he⟩⟩
          | ok lo j =>
            have hlo := numR_le hN
            have hj := (hnin.okB hN).2
            rw [ba_len] at hj
            rw [hN] at hnum hC
            simp only [PR.bind] at hC
            clear hN hnin
            refine Calls.mono (hnum) ?_
            rintro _ wn ⟨rfl, hp, he⟩
            dsimp only
            have HI := Lib.hid (HI.out.go hp he)
            clear hnum hp he hi1
            by_cases h44 : isC S.data.toList j 44
            · rw [if_pos h44] at hC
              have hj1 : j + 1 ≤ S.size := by have := h44.1; rw [ba_len] at this; omega
              have ht := ps_take_y g S j d 44 (by omega) wn HI.out.ax.ps h44
              clear h44
              repeat' (first | go_values | go_skip | go_guarded | go_step | go_upon)
              refine Calls.mono (ht) ?_
              rintro _ wt ⟨rfl, hp, he⟩
              dsimp only
              have HI := Lib.hid (HI.out.go hp he)
              clear ht hp he hj
              by_cases h125 : isC S.data.toList (j + 1) 125
              · rw [if_pos h125] at hC
                dsimp only at hC
                have hk := ps_is_y g S (j + 1) d 125 wt HI.out.ax.ps h125
                repeat' (first | go_values | go_skip | go_guarded | go_step | go_upon)
                refine Calls.mono (hk) ?_
                rintro _ wk ⟨rfl, hb⟩
                dsimp only
                have HI := Lib.hid (HI.out.keep hb)
                clear hk hb
                by_cases h125 : isC S.data.toList (j + 1) 125
                · rw [if_pos h125] at hC
                  have HC := Lib.hid hC
                  have hm := ps_must_y g S (j + 1) d 125 (by omega) _ HI.out.ax.ps h125
                  have hk1 : (j + 1) + 1 ≤ S.size := by have := h125.1; rw [ba_len] at this; omega
                  clear hC h125
                  repeat' (first | go_values | go_skip | go_guarded | go_step | go_upon)
                  refine Calls.mono (hm) ?_
                  rintro _ wm ⟨rfl, hp, he⟩
                  dsimp only
                  have HI := Lib.hid (HI.out.go hp he)
                  clear hm hp he
                  by_cases h1 : ((lo : Nat) : Int) = 1
                  · by_cases h2 : ((-1) : Int) = 1
                    · have hq1 : ((((lo : Nat) : Int)) != 1) = false := by rw [h1]; rfl
                      have hq2 : ((((-1) : Int)) != 1) = false := by rw [h2]; rfl
                      have HT : Hid (repT lo (-1) t = t) := Lib.hid (by unfold repT; rw [if_pos ⟨by omega, h2⟩])
                      rw [HT.out] at HC
                      clear h1 h2
                      repeat' (first | go_values | go_skip | go_guarded | go_step | go_upon)
                      go_roundg gk
                      case rel => exact ⟨_, _, ((j + 1) + 1), hk1, HC, HI⟩
                      case measure => omega
                    · have hq1 : ((((lo : Nat) : Int)) != 1) = false := by rw [h1]; rfl
                      have hq2 : ((((-1) : Int)) != 1) = true := bne_iff_ne.2 h2
                      have HB3 := Lib.hid HI.out.b
                      have HB4 := Lib.hid (HI.out.b.keep ((Below.refl _ _).alloc (Nat.le_refl _) (.cells (reC r).toArray 29)))
                      have HR := Lib.hid (HI.out.rep lo (-1) (by omega) (by omega) (by omega))
                      clear h1 h2
                      repeat' (first | (with_reducible refine load_box HB3.out _ rfl rfl ?_; dsimp only [Act.put, reV, reC]) | (refine store_box HB4.out (repN lo (-1) wm.heap.size) rfl _ _ rfl rfl rfl ?_; dsimp only [Act.put]) | go_values | go_skip | go_guarded | go_step | go_upon)
                      go_roundg gk
                      case rel => exact ⟨_, _, ((j + 1) + 1), hk1, HC, HR⟩
                      case measure => omega
                  · have hq1 : ((((lo : Nat) : Int)) != 1) = true := bne_iff_ne.2 h1
                    have HB3 := Lib.hid HI.out.b
                    have HB4 := Lib.hid (HI.out.b.keep ((Below.refl _ _).alloc (Nat.le_refl _) (.cells (reC r).toArray 29)))
                    have HR := Lib.hid (HI.out.rep lo (-1) (by omega) (by omega) (by omega))
                    clear h1
                    repeat' (first | (with_reducible refine load_box HB3.out _ rfl rfl ?_; dsimp only [Act.put, reV, reC]) | (refine store_box HB4.out (repN lo (-1) wm.heap.size) rfl _ _ rfl rfl rfl ?_; dsimp only [Act.put]) | go_values | go_skip | go_guarded | go_step | go_upon)
                    go_roundg gk
                    case rel => exact ⟨_, _, ((j + 1) + 1), hk1, HC, HR⟩
                    case measure => omega
                · rw [if_neg h125] at hC
                  have HC := Lib.hid hC.symm
                  have hm := ps_must_n g S (j + 1) d 125 _ HI.out.ax.ps h125
                  clear hC h125
                  repeat' (first | go_values | go_skip | go_guarded | go_step | go_upon)
                  refine Calls.mono hm ?_
                  rintro _ wm ⟨rfl, he⟩
                  exact ⟨rfl, TPost.badI HC.out ⟨rfl, HI.out.ax.els.trans he⟩⟩
              · rw [if_neg h125] at hC
                have hk := ps_is_n g S (j + 1) d 125 wt HI.out.ax.ps h125
                clear h125
                repeat' (first | go_values | go_skip | go_guarded | go_step | go_upon)
                refine Calls.mono (hk) ?_
                rintro _ wk ⟨rfl, hb⟩
                dsimp only
                have HI := Lib.hid (HI.out.keep hb)
                clear hk hb
                have hnum := ps_num g S (j + 1) d lo hS hj1 wk HI.out.ax.ps
                have hnin := numR_in (s := S.data.toList) (i := j + 1) (by rw [ba_len]; exact hj1) lo
                repeat' (first | go_values | go_skip | go_guarded | go_step | go_upon)
                cases hN : numR S.data.toList lo (j + 1) with
                | out => exact absurd hN numR_out
                | bad e0 k =>
                  rw [hN] at hnum hC
                  have HC := Lib.hid hC.symm
                  clear hC
                  refine Calls.mono hnum ?_
                  rintro _ wm ⟨rfl, he⟩
                  exact ⟨rfl, TPost.badI HC.out ⟨rfl, HI.out.ax.els.trans he⟩⟩
                | ok hi2 k =>
                  have hhi := numR_le hN
                  have hk := (hnin.okB hN).2
                  rw [ba_len] at hk
                  rw [hN] at hnum hC
                  dsimp only at hC
                  clear hN hnin hj1
                  refine Calls.mono (hnum) ?_
                  rintro _ wq ⟨rfl, hp, he⟩
                  dsimp only
                  have HI := Lib.hid (HI.out.go hp he)
                  clear hnum hp he
                  by_cases h125 : isC S.data.toList k 125
                  · rw [if_pos h125] at hC
                    have HC := Lib.hid hC
                    have hm := ps_must_y g S k d 125 (by omega) _ HI.out.ax.ps h125
                    have hk1 : k + 1 ≤ S.size := by have := h125.1; rw [ba_len] at this; omega
                    clear hC h125
                    repeat' (first | go_values | go_skip | go_guarded | go_step | go_upon)
                    refine Calls.mono (hm) ?_
                    rintro _ wm ⟨rfl, hp, he⟩
                    dsimp only
                    have HI := Lib.hid (HI.out.go hp he)
                    clear hm hp he
                    by_cases h1 : ((lo : Nat) : Int) = 1
                    · by_cases h2 : ((hi2 : Int) : Int) = 1
                      · have hq1 : ((((lo : Nat) : Int)) != 1) = false := by rw [h1]; rfl
                        have hq2 : ((((hi2 : Int) : Int)) != 1) = false := by rw [h2]; rfl
                        have HT : Hid (repT lo (hi2 : Int) t = t) := Lib.hid (by unfold repT; rw [if_pos ⟨by omega, h2⟩])
                        rw [HT.out] at HC
                        clear h1 h2
                        repeat' (first | go_values | go_skip | go_guarded | go_step | go_upon)
                        go_roundg gk
                        case rel => exact ⟨_, _, (k + 1), hk1, HC, HI⟩
                        case measure => omega
                      · have hq1 : ((((lo : Nat) : Int)) != 1) = false := by rw [h1]; rfl
                        have hq2 : ((((hi2 : Int) : Int)) != 1) = true := bne_iff_ne.2 h2
                        have HB3 := Lib.hid HI.out.b
                        have HB4 := Lib.hid (HI.out.b.keep ((Below.refl _ _).alloc (Nat.le_refl _) (.cells (reC r).toArray 29)))
                        have HR := Lib.hid (HI.out.rep lo (hi2 : Int) (by omega) (by omega) (by omega))
                        clear h1 h2
                        repeat' (first | (with_reducible refine load_box HB3.out _ rfl rfl ?_; dsimp only [Act.put, reV, reC]) | (refine store_box HB4.out (repN lo (hi2 : Int) wm.heap.size) rfl _ _ rfl rfl rfl ?_; dsimp only [Act.put]) | go_values | go_skip | go_guarded | go_step | go_upon)
                        go_roundg gk
                        case rel => exact ⟨_, _, (k + 1), hk1, HC, HR⟩
                        case measure => omega
                    · have hq1 : ((((lo : Nat) : Int)) != 1) = true := bne_iff_ne.2 h1
                      have HB3 := Lib.hid HI.out.b
                      have HB4 := Lib.hid (HI.out.b.keep ((Below.refl _ _).alloc (Nat.le_refl _) (.cells (reC r).toArray 29)))
                      have HR := Lib.hid (HI.out.rep lo (hi2 : Int) (by omega) (by omega) (by omega))
                      clear h1
                      repeat' (first | (with_reducible refine load_box HB3.out _ rfl rfl ?_; dsimp only [Act.put, reV, reC]) | (refine store_box HB4.out (repN lo (hi2 : Int) wm.heap.size) rfl _ _ rfl rfl rfl ?_; dsimp only [Act.put]) | go_values | go_skip | go_guarded | go_step | go_upon)
                      go_roundg gk
                      case rel => exact ⟨_, _, (k + 1), hk1, HC, HR⟩
                      case measure => omega
                  · rw [if_neg h125] at hC
                    have HC := Lib.hid hC.symm
                    have hm := ps_must_n g S k d 125 _ HI.out.ax.ps h125
                    clear hC h125
                    repeat' (first | go_values | go_skip | go_guarded | go_step | go_upon)
                    refine Calls.mono hm ?_
                    rintro _ wm ⟨rfl, he⟩
                    exact ⟨rfl, TPost.badI HC.out ⟨rfl, HI.out.ax.els.trans he⟩⟩
            · rw [if_neg h44] at hC
              dsimp only at hC
              have ht := ps_take_n g S j d 44 wn HI.out.ax.ps h44
              clear h44
              repeat' (first | go_values | go_skip | go_guarded | go_step | go_upon)
              refine Calls.mono (ht) ?_
              rintro _ wt ⟨rfl, hb⟩
              dsimp only
              have HI := Lib.hid (HI.out.keep hb)
              clear ht hb
              by_cases h125 : isC S.data.toList j 125
              · rw [if_pos h125] at hC
                have HC := Lib.hid hC
                have hm := ps_must_y g S j d 125 (by omega) _ HI.out.ax.ps h125
                have hk1 : j + 1 ≤ S.size := by have := h125.1; rw [ba_len] at this; omega
                clear hC h125
                repeat' (first | go_values | go_skip | go_guarded | go_step | go_upon)
                refine Calls.mono (hm) ?_
                rintro _ wm ⟨rfl, hp, he⟩
                dsimp only
                have HI := Lib.hid (HI.out.go hp he)
                clear hm hp he
                by_cases h1 : ((lo : Nat) : Int) = 1
                · have hq1 : ((((lo : Nat) : Int)) != 1) = false := by rw [h1]; rfl
                  have HT : Hid (repT lo (lo : Int) t = t) := Lib.hid (by unfold repT; rw [if_pos ⟨by omega, h1⟩])
                  rw [HT.out] at HC
                  clear h1
                  repeat' (first | go_values | go_skip | go_guarded | go_step | go_upon)
                  go_roundg gk
                  case rel => exact ⟨_, _, (j + 1), hk1, HC, HI⟩
                  case measure => omega
                · have hq1 : ((((lo : Nat) : Int)) != 1) = true := bne_iff_ne.2 h1
                  have HB3 := Lib.hid HI.out.b
                  have HB4 := Lib.hid (HI.out.b.keep ((Below.refl _ _).alloc (Nat.le_refl _) (.cells (reC r).toArray 29)))
                  have HR := Lib.hid (HI.out.rep lo (lo : Int) (by omega) (by omega) (by omega))
                  clear h1
                  repeat' (first | (with_reducible refine load_box HB3.out _ rfl rfl ?_; dsimp only [Act.put, reV, reC]) | (refine store_box HB4.out (repN lo (lo : Int) wm.heap.size) rfl _ _ rfl rfl rfl ?_; dsimp only [Act.put]) | go_values | go_skip | go_guarded | go_step | go_upon)
                  go_roundg gk
                  case rel => exact ⟨_, _, (j + 1), hk1, HC, HR⟩
                  case measure => omega
              · rw [if_neg h125] at hC
                have HC := Lib.hid hC.symm
                have hm := ps_must_n g S j d 125 _ HI.out.ax.ps h125
                clear hC h125
                repeat' (first | go_values | go_skip | go_guarded | go_step | go_upon)
                refine Calls.mono hm ?_
                rintro _ wm ⟨rfl, he⟩
                exact ⟨rfl, TPost.badI HC.out ⟨rfl, HI.out.ax.els.trans he⟩⟩
        · rw [if_neg h123] at hC
          have HC := Lib.hid hC
          have ht := ps_take_n g S i' d 42 _ HI.out.ax.ps h42
          repeat' (first | go_values | go_skip | go_guarded | go_step | go_upon)
          refine Calls.mono (ht) ?_
          rintro _ wt ⟨rfl, hb⟩
          dsimp only
          have HI := Lib.hid (HI.out.keep hb)
          clear ht hb
          have ht := ps_take_n g S i' d 43 _ HI.out.ax.ps h43
          repeat' (first | go_values | go_skip | go_guarded | go_step | go_upon)
          refine Calls.mono (ht) ?_
          rintro _ wt ⟨rfl, hb⟩
          dsimp only
          have HI := Lib.hid (HI.out.keep hb)
          clear ht hb
          have ht := ps_take_n g S i' d 63 _ HI.out.ax.ps h63
          repeat' (first | go_values | go_skip | go_guarded | go_step | go_upon)
          refine Calls.mono (ht) ?_
          rintro _ wt ⟨rfl, hb⟩
          dsimp only
          have HI := Lib.hid (HI.out.keep hb)
          clear ht hb
          have ht := ps_take_n g S i' d 123 _ HI.out.ax.ps h123
          repeat' (first | go_values | go_skip | go_guarded | go_step | go_upon)
          refine Calls.mono (ht) ?_
          rintro _ wt ⟨rfl, hb⟩
          dsimp only
          have HI := Lib.hid (HI.out.keep hb)
          clear ht hb
          clear hC h42 h43 h63 h123
          have HB3 := Lib.hid HI.out.b
          have HM := Lib.hid HI.out.ax.bx
          have HD := Lib.hid (HI.out.ax.done (HI.out.x.drop (p' := g) (.inl (by have := HI.out.ax.lt; omega))))
          have hone := HI.out.x.one
          repeat' (first | (with_reducible refine load_box HB3.out _ rfl rfl ?_; dsimp only [Act.put]) | (refine store_box HM.out r hone _ _ rfl rfl rfl ?_; dsimp only [Act.put]) | go_values | go_skip | go_guarded | go_step | go_upon)
          refine bodyPost_ret (results_re rfl _ _ _ _ rfl (HM.out.set _)) rfl ?_
          exact TPost.okI HC.out.symm ⟨⟨_, rfl, HD.out.1⟩, HD.out.2.1, HD.out.2.2⟩
end Go.Proofs.Ytnbfifmnigeolaa
