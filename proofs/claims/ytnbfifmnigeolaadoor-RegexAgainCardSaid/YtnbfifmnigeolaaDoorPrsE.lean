/- Walks: a part and how often (item). Conditions: a text of at most 512 bytes; a place within it. Walks: a part (atom). Conditions: a text of at most 512 bytes; a place within it. All parts' contracts, whatever the fuel. Conditions: a text of at most 512 bytes. Walk: what Parse defers (it recovers). No conditions. Walk: a text read as an expression (Parse). Condition: the text is of at most 2^47 bytes. -/
import Derived.Test.YtnbfifmnigeolaaDoorPrsD
import Derived.Test.YtnbfifmnigeolaaDoorPrsAB
import Derived.Defers
import Derived.Recover
import Derived.Test.YtnbfifmnigeolaaDoorAnyC
namespace Go.Proofs.YtnbfifmnigeolaaDoor
open Go.RowKit Go.Lib
theorem numR_le {s : List UInt8} {least i a j : Nat} (h : numR s least i = .ok a j) : a ≤ 20 := by
  unfold numR at h
  split at h
  · rename_i hd
    split at h
    · split at h
      · cases h
      · simp only [PR.ok.injEq] at h; omega
    · split at h
      · cases h
      · simp only [PR.ok.injEq] at h; have := hd.2; omega
  · cases h
/-- the part's box as well -/
structure IX (w : World) (Z g : Nat) (S : ByteArray) (d i b3 : Nat) (r : RN) (t : Re) (W : World) : Prop where
  ax : AX w Z g S d i W
  b : ReBox W b3 r
  x : ReX (Z + 1) b3 W r t
  lt : Z < b3
def repN (lo : Nat) (hi : Int) (q : Nat) : RN := ⟨4, (0, 0, 0, 0), lo, hi, .slice (some ⟨q, 0, none⟩) 1 1⟩
section
variable {w W W' : World} {Z g : Nat} {S : ByteArray} {d i b3 : Nat} {r : RN} {t : Re}
theorem IX.keep (h : IX w Z g S d i b3 r t W) (hb : Below W.heap.size W W') : IX w Z g S d i b3 r t W' := ⟨h.ax.keep hb, h.b.keep hb, h.x.keepB hb (Nat.le_refl _), h.lt⟩
theorem IX.go {j : Nat} (h : IX w Z g S d i b3 r t W) (hp : PsAt W' g S j d) (he : Else g W W') : IX w Z g S d j b3 r t W' :=
  ⟨h.ax.go hp he, he.row h.b (by have := h.lt; have := h.ax.lt; omega), h.x.els he (by have := h.ax.lt; omega), h.lt⟩
theorem AX.row (h : AX w Z g S d i W) {q : Nat} (hq : Z < q) (cs : Array Value) : AX w Z g S d i (W.setRow q cs) :=
  ⟨h.bx.other (by omega), h.ps.row (by have := h.lt; omega), h.els.rowNew (by have := h.sz; omega) _, h.lt, h.sz⟩
theorem repT_mk {lo : Nat} {hi : Int} (hn : ¬ (lo = 1 ∧ hi = 1)) (t : Re) : repT lo hi t = .mk 4 (0, 0, 0, 0) lo hi [t] := by unfold repT; rw [if_neg hn]
theorem IX.rep (h : IX w Z g S d i b3 r t W) (lo : Nat) (hi : Int) (hlo : lo ≤ 20) (hhi : -1 ≤ hi ∧ hi ≤ 20) (hn : ¬ (lo = 1 ∧ hi = 1)) :
    IX w Z g S d i b3 (repN lo hi W.heap.size) (repT lo hi t) ((W.alloc (.cells (reC r).toArray 28)).setRow b3 (reC (repN lo hi W.heap.size)).toArray) := by
  have hk := (Below.refl W.heap.size W).alloc (Nat.le_refl _) (.cells (reC r).toArray 28)
  have hb3 := h.b.lt
  have hq : ((W.alloc (.cells (reC r).toArray 28)).setRow b3 (reC (repN lo hi W.heap.size)).toArray).heap[W.heap.size]? = some (.cells (reC r).toArray 28 (0, 0)) := by
    rw [setRow_other _ _ _ _ (by omega)]; exact Go.heap_alloc_new W _
  refine ⟨(h.ax.keep hk).row h.lt _, (h.b.keep hk).set _, ?_, h.lt⟩
  rw [repT_mk hn]
  have hx : ReX (Z + 1) b3 ((W.alloc (.cells (reC r).toArray 28)).setRow b3 (reC (repN lo hi W.heap.size)).toArray) r t :=
    h.x.keep (fun k _ hk' hne => by rw [setRow_other _ _ _ _ hne]; exact hk.block k hk') (by simp)
  refine .mk (repN lo hi W.heap.size) [t] [r] ⟨by show I64 4; unfold I64; omega, by show I64 (lo : Int); unfold I64; omega, by show I64 hi; unfold I64; omega⟩ (by show 1 ≤ _; omega) ?_ (.inr ⟨W.heap.size, 0, 1, 1, rfl, by have := h.ax.bx.lt; omega, by omega⟩) rfl (Zp.one hx).2
  refine ⟨some ⟨W.heap.size, 0, none⟩, 1, rfl, Nat.le_refl _, by unfold maxLen; omega, rfl, .inr ⟨W.heap.size, 0, rfl, by simp, fun j hj => ?_⟩⟩
  rw [Nat.zero_add, cell_of_row _ _ j _ _ _ hq]
  simp
end
set_option maxRecDepth 100000 in
set_option maxHeartbeats 8000000 in
theorem ps_item (g : Nat) (S : ByteArray) (f : Nat) (hS : S.size ≤ 512) (IH : CT g S 62 .atom f) : CT g S 51 .item (f + 1) := by
  intro d i w hi hd h hn
  rw [prs] at hn ⊢
  have hin := prs_in (s := S.data.toList) f .atom d i (by rw [ba_len]; exact hi)
  have hat := IH d i
  cases hX : prs S.data.toList f .atom d i with
  | out => rw [hX] at hn; exact absurd rfl hn
  | bad e0 j =>
    have hc := fun (W : World) (hp : PsAt W g S i d) => hat W hi hd hp (by rw [hX]; intro e; cases e)
    simp only [hX] at hc
    clear hat hn hin hX
    have HA := Lib.hid (AX.start h)
    clear h
    go_enter Tryd.func51, Tryd.ntmps51
    repeat' (go_not_at_region 1; first | go_values | go_skip | go_guarded | go_step | go_upon)
    generalize hZ : w.heap.size = Z at HA ⊢
    refine gen_wd (fun W => AX w Z g S d i W) HA.out ?_
    clear HA
    rintro w1 hj
    have HA := Lib.hid hj
    clear hj hZ
    repeat' (first | go_values | go_skip | go_guarded | go_step | go_upon)
    have hc := hc w1 HA.out.ps
    refine Calls.mono hc ?_
    rintro _ wy ⟨rfl, he⟩
    exact ⟨rfl, TPost.badI rfl ⟨rfl, HA.out.els.trans he⟩⟩
  | ok t0 j0 =>
    have hc := fun (W : World) (hp : PsAt W g S i d) => hat W hi hd hp (by rw [hX]; intro e; cases e)
    simp only [hX] at hc
    have hj := (hin.okB hX).2
    rw [ba_len] at hj
    rw [hX] at hn
    simp only [PR.bind] at hn ⊢
    obtain ⟨X0, hX0⟩ : ∃ X0, prs S.data.toList f (.itemL t0) d j0 = X0 := ⟨_, rfl⟩
    rw [hX0] at hn ⊢
    have HX0 := Lib.hid hX0
    have HN := Lib.hid hn
    clear hat hn hin hX hX0
    have HA := Lib.hid (AX.start h)
    clear h
    go_enter Tryd.func51, Tryd.ntmps51
    repeat' (go_not_at_region 1; first | go_values | go_skip | go_guarded | go_step | go_upon)
    generalize hZ : w.heap.size = Z at HA ⊢
    refine gen_wd (fun W => AX w Z g S d i W) HA.out ?_
    clear HA
    rintro w1 hj
    have HA := Lib.hid hj
    clear hj hZ
    repeat' (first | go_values | go_skip | go_guarded | go_step | go_upon)
    have hc := hc w1 HA.out.ps
    refine Calls.mono (hc) ?_
    rintro _ w2 ⟨⟨r0, rfl, hx⟩, hp, he⟩
    dsimp only
    have hone := hx.one
    have hzlt := HA.out.bx.lt
    have HA := Lib.hid (HA.out.go hp he)
    have HI : Hid (IX w Z g S d j0 w2.heap.size r0 t0 (w2.alloc (.cells (reC r0).toArray 28))) := Lib.hid ⟨HA.out.keep ((Below.refl _ _).alloc (Nat.le_refl _) _), ReBox.new w2 r0, ((hx.mono hzlt).drop (.inr (Nat.le_refl _))).keepB ((Below.refl _ _).alloc (Nat.le_refl _) _) (Nat.le_refl _), HA.out.bx.lt⟩
    clear hc hx hp he hzlt HA hi
    repeat' (first | (refine store_re (r := r0) hone _ _ rfl rfl rfl rfl ?_; dsimp only [Act.put]) | go_values | go_skip | go_guarded | go_step | go_upon)
    generalize w2.heap.size = b3 at HI ⊢
    go_loopg [4] f (fun gk s4 wr => ∃ (t : Re) (r : RN) (i' : Nat), i' ≤ S.size ∧ Hid (prs S.data.toList gk (.itemL t) d i' = X0) ∧ Hid (IX w Z g S d i' b3 r t wr))
    case atStart => exact ⟨t0, r0, j0, hj, HX0, HI⟩
    case round =>
      clear HX0 HI hj hone
      obtain ⟨t, r, i', hi', HC, HI⟩ := hrel
      cases gk with
      | zero => exact absurd (by rw [← HC.out, prs]) HN.out
      | succ gk =>
        have hC := HC.out
        rw [prs] at hC
        clear HC
        by_cases h42 : isC S.data.toList i' 42
        · rw [if_pos h42] at hC
          have HC := Lib.hid hC
          have hi1 : i' + 1 ≤ S.size := by have := h42.1; rw [ba_len] at this; omega
          have ht := ps_take_y g S i' d 42 (by omega) _ HI.out.ax.ps h42
          repeat' (first | go_values | go_skip | go_guarded | go_step | go_upon)
          refine Calls.mono (ht) ?_
          rintro _ wu ⟨rfl, hp, he⟩
          dsimp only
          have HI := Lib.hid (HI.out.go hp he)
          clear ht hp he
          clear hC h42
          have HB3 := Lib.hid HI.out.b
          have HB4 := Lib.hid (HI.out.b.keep ((Below.refl _ _).alloc (Nat.le_refl _) (.cells (reC r).toArray 28)))
          have HR := Lib.hid (HI.out.rep 0 (-1) (by omega) (by omega) (by omega))
          skip
          repeat' (first | (with_reducible refine load_box HB3.out _ rfl rfl ?_; dsimp only [Act.put, reV, reC]) | (refine store_box HB4.out (repN 0 (-1) wu.heap.size) rfl _ _ rfl rfl rfl ?_; dsimp only [Act.put]) | go_values | go_skip | go_guarded | go_step | go_upon)
          go_roundg gk
          case rel => exact ⟨_, _, (i' + 1), hi1, HC, HR⟩
          case measure => omega
        rw [if_neg h42] at hC
        by_cases h43 : isC S.data.toList i' 43
        · rw [if_pos h43] at hC
          have HC := Lib.hid hC
          have hi1 : i' + 1 ≤ S.size := by have := h43.1; rw [ba_len] at this; omega
          have ht := ps_take_n g S i' d 42 _ HI.out.ax.ps h42
          repeat' (first | go_values | go_skip | go_guarded | go_step | go_upon)
          refine Calls.mono (ht) ?_
          rintro _ wt ⟨rfl, hb⟩
          dsimp only
          have HI := Lib.hid (HI.out.keep hb)
          clear ht hb
          have ht := ps_take_y g S i' d 43 (by omega) _ HI.out.ax.ps h43
          repeat' (first | go_values | go_skip | go_guarded | go_step | go_upon)
          refine Calls.mono (ht) ?_
          rintro _ wu ⟨rfl, hp, he⟩
          dsimp only
          have HI := Lib.hid (HI.out.go hp he)
          clear ht hp he
          clear hC h43 h42
          have HB3 := Lib.hid HI.out.b
          have HB4 := Lib.hid (HI.out.b.keep ((Below.refl _ _).alloc (Nat.le_refl _) (.cells (reC r).toArray 28)))
          have HR := Lib.hid (HI.out.rep 1 (-1) (by omega) (by omega) (by omega))
          skip
          repeat' (first | (with_reducible refine load_box HB3.out _ rfl rfl ?_; dsimp only [Act.put, reV, reC]) | (refine store_box HB4.out (repN 1 (-1) wu.heap.size) rfl _ _ rfl rfl rfl ?_; dsimp only [Act.put]) | go_values | go_skip | go_guarded | go_step | go_upon)
          go_roundg gk
          case rel => exact ⟨_, _, (i' + 1), hi1, HC, HR⟩
          case measure => omega
        rw [if_neg h43] at hC
        by_cases h63 : isC S.data.toList i' 63
        · rw [if_pos h63] at hC
          have HC := Lib.hid hC
          have hi1 : i' + 1 ≤ S.size := by have := h63.1; rw [ba_len] at this; omega
          have ht := ps_take_n g S i' d 42 _ HI.out.ax.ps h42
          repeat' (first | go_values | go_skip | go_guarded | go_step | go_upon)
          refine Calls.mono (ht) ?_
          rintro _ wt ⟨rfl, hb⟩
          dsimp only
          have HI := Lib.hid (HI.out.keep hb)
          clear ht hb
          have ht := ps_take_n g S i' d 43 _ HI.out.ax.ps h43
          repeat' (first | go_values | go_skip | go_guarded | go_step | go_upon)
          refine Calls.mono (ht) ?_
          rintro _ wt ⟨rfl, hb⟩
          dsimp only
          have HI := Lib.hid (HI.out.keep hb)
          clear ht hb
          have ht := ps_take_y g S i' d 63 (by omega) _ HI.out.ax.ps h63
          repeat' (first | go_values | go_skip | go_guarded | go_step | go_upon)
          refine Calls.mono (ht) ?_
          rintro _ wu ⟨rfl, hp, he⟩
          dsimp only
          have HI := Lib.hid (HI.out.go hp he)
          clear ht hp he
          clear hC h43 h42 h63
          have HB3 := Lib.hid HI.out.b
          have HB4 := Lib.hid (HI.out.b.keep ((Below.refl _ _).alloc (Nat.le_refl _) (.cells (reC r).toArray 28)))
          have HR := Lib.hid (HI.out.rep 0 1 (by omega) (by omega) (by omega))
          skip
          repeat' (first | (with_reducible refine load_box HB3.out _ rfl rfl ?_; dsimp only [Act.put, reV, reC]) | (refine store_box HB4.out (repN 0 1 wu.heap.size) rfl _ _ rfl rfl rfl ?_; dsimp only [Act.put]) | go_values | go_skip | go_guarded | go_step | go_upon)
          go_roundg gk
          case rel => exact ⟨_, _, (i' + 1), hi1, HC, HR⟩
          case measure => omega
        rw [if_neg h63] at hC
        by_cases h123 : isC S.data.toList i' 123
        · rw [if_pos h123] at hC
          have hi1 : i' + 1 ≤ S.size := by have := h123.1; rw [ba_len] at this; omega
          have ht := ps_take_n g S i' d 42 _ HI.out.ax.ps h42
          repeat' (first | go_values | go_skip | go_guarded | go_step | go_upon)
          refine Calls.mono (ht) ?_
          rintro _ wt ⟨rfl, hb⟩
          dsimp only
          have HI := Lib.hid (HI.out.keep hb)
          clear ht hb
          have ht := ps_take_n g S i' d 43 _ HI.out.ax.ps h43
          repeat' (first | go_values | go_skip | go_guarded | go_step | go_upon)
          refine Calls.mono (ht) ?_
          rintro _ wt ⟨rfl, hb⟩
          dsimp only
          have HI := Lib.hid (HI.out.keep hb)
          clear ht hb
          have ht := ps_take_n g S i' d 63 _ HI.out.ax.ps h63
          repeat' (first | go_values | go_skip | go_guarded | go_step | go_upon)
          refine Calls.mono (ht) ?_
          rintro _ wt ⟨rfl, hb⟩
          dsimp only
          have HI := Lib.hid (HI.out.keep hb)
          clear ht hb
          have ht := ps_take_y g S i' d 123 (by omega) _ HI.out.ax.ps h123
          repeat' (first | go_values | go_skip | go_guarded | go_step | go_upon)
          refine Calls.mono (ht) ?_
          rintro _ wu ⟨rfl, hp, he⟩
          dsimp only
          have HI := Lib.hid (HI.out.go hp he)
          clear ht hp he
          clear h42 h43 h63 h123
          unfold bndR at hC
          have hnum := ps_num g S (i' + 1) d 0 hS hi1 wu HI.out.ax.ps
          have hnin := numR_in (s := S.data.toList) (i := i' + 1) (by rw [ba_len]; exact hi1) 0
          repeat' (first | go_values | go_skip | go_guarded | go_step | go_upon)
          cases hN : numR S.data.toList 0 (i' + 1) with
          | out => exact absurd hN numR_out
          | bad e0 j =>
            rw [hN] at hnum hC
            have HC := Lib.hid hC.symm
            clear hC
            refine Calls.mono hnum ?_
            rintro _ wm ⟨rfl, he⟩
            exact ⟨rfl, TPost.badI HC.out ⟨rfl, HI.out.ax.els.trans he⟩⟩
          | ok lo j =>
            have hlo := numR_le hN
            have hj := (hnin.okB hN).2
            rw [ba_len] at hj
            rw [hN] at hnum hC
            simp only [PR.bind] at hC
            clear hN hnin
            refine Calls.mono (hnum) ?_
            rintro _ wn ⟨rfl, hp, he⟩
            dsimp only
            have HI := Lib.hid (HI.out.go hp he)
            clear hnum hp he hi1
            by_cases h44 : isC S.data.toList j 44
            · rw [if_pos h44] at hC
              have hj1 : j + 1 ≤ S.size := by have := h44.1; rw [ba_len] at this; omega
              have ht := ps_take_y g S j d 44 (by omega) wn HI.out.ax.ps h44
              clear h44
              repeat' (first | go_values | go_skip | go_guarded | go_step | go_upon)
              refine Calls.mono (ht) ?_
              rintro _ wt ⟨rfl, hp, he⟩
              dsimp only
              have HI := Lib.hid (HI.out.go hp he)
              clear ht hp he hj
              by_cases h125 : isC S.data.toList (j + 1) 125
              · rw [if_pos h125] at hC
                dsimp only at hC
                have hk := ps_is_y g S (j + 1) d 125 wt HI.out.ax.ps h125
                repeat' (first | go_values | go_skip | go_guarded | go_step | go_upon)
                refine Calls.mono (hk) ?_
                rintro _ wk ⟨rfl, hb⟩
                dsimp only
                have HI := Lib.hid (HI.out.keep hb)
                clear hk hb
                by_cases h125 : isC S.data.toList (j + 1) 125
                · rw [if_pos h125] at hC
                  have HC := Lib.hid hC
                  have hm := ps_must_y g S (j + 1) d 125 (by omega) _ HI.out.ax.ps h125
                  have hk1 : (j + 1) + 1 ≤ S.size := by have := h125.1; rw [ba_len] at this; omega
                  clear hC h125
                  repeat' (first | go_values | go_skip | go_guarded | go_step | go_upon)
                  refine Calls.mono (hm) ?_
                  rintro _ wm ⟨rfl, hp, he⟩
                  dsimp only
                  have HI := Lib.hid (HI.out.go hp he)
                  clear hm hp he
                  by_cases h1 : ((lo : Nat) : Int) = 1
                  · by_cases h2 : ((-1) : Int) = 1
                    · have hq1 : ((((lo : Nat) : Int)) != 1) = false := by rw [h1]; rfl
                      have hq2 : ((((-1) : Int)) != 1) = false := by rw [h2]; rfl
                      have HT : Hid (repT lo (-1) t = t) := Lib.hid (by unfold repT; rw [if_pos ⟨by omega, h2⟩])
                      rw [HT.out] at HC
                      clear h1 h2
                      repeat' (first | go_values | go_skip | go_guarded | go_step | go_upon)
                      go_roundg gk
                      case rel => exact ⟨_, _, ((j + 1) + 1), hk1, HC, HI⟩
                      case measure => omega
                    · have hq1 : ((((lo : Nat) : Int)) != 1) = false := by rw [h1]; rfl
                      have hq2 : ((((-1) : Int)) != 1) = true := bne_iff_ne.2 h2
                      have HB3 := Lib.hid HI.out.b
                      have HB4 := Lib.hid (HI.out.b.keep ((Below.refl _ _).alloc (Nat.le_refl _) (.cells (reC r).toArray 28)))
                      have HR := Lib.hid (HI.out.rep lo (-1) (by omega) (by omega) (by omega))
                      clear h1 h2
                      repeat' (first | (with_reducible refine load_box HB3.out _ rfl rfl ?_; dsimp only [Act.put, reV, reC]) | (refine store_box HB4.out (repN lo (-1) wm.heap.size) rfl _ _ rfl rfl rfl ?_; dsimp only [Act.put]) | go_values | go_skip | go_guarded | go_step | go_upon)
                      go_roundg gk
                      case rel => exact ⟨_, _, ((j + 1) + 1), hk1, HC, HR⟩
                      case measure => omega
                  · have hq1 : ((((lo : Nat) : Int)) != 1) = true := bne_iff_ne.2 h1
                    have HB3 := Lib.hid HI.out.b
                    have HB4 := Lib.hid (HI.out.b.keep ((Below.refl _ _).alloc (Nat.le_refl _) (.cells (reC r).toArray 28)))
                    have HR := Lib.hid (HI.out.rep lo (-1) (by omega) (by omega) (by omega))
                    clear h1
                    repeat' (first | (with_reducible refine load_box HB3.out _ rfl rfl ?_; dsimp only [Act.put, reV, reC]) | (refine store_box HB4.out (repN lo (-1) wm.heap.size) rfl _ _ rfl rfl rfl ?_; dsimp only [Act.put]) | go_values | go_skip | go_guarded | go_step | go_upon)
                    go_roundg gk
                    case rel => exact ⟨_, _, ((j + 1) + 1), hk1, HC, HR⟩
                    case measure => omega
                · rw [if_neg h125] at hC
                  have HC := Lib.hid hC.symm
                  have hm := ps_must_n g S (j + 1) d 125 _ HI.out.ax.ps h125
                  clear hC h125
                  repeat' (first | go_values | go_skip | go_guarded | go_step | go_upon)
                  refine Calls.mono hm ?_
                  rintro _ wm ⟨rfl, he⟩
                  exact ⟨rfl, TPost.badI HC.out ⟨rfl, HI.out.ax.els.trans he⟩⟩
              · rw [if_neg h125] at hC
                have hk := ps_is_n g S (j + 1) d 125 wt HI.out.ax.ps h125
                clear h125
                repeat' (first | go_values | go_skip | go_guarded | go_step | go_upon)
                refine Calls.mono (hk) ?_
                rintro _ wk ⟨rfl, hb⟩
                dsimp only
                have HI := Lib.hid (HI.out.keep hb)
                clear hk hb
                have hnum := ps_num g S (j + 1) d lo hS hj1 wk HI.out.ax.ps
                have hnin := numR_in (s := S.data.toList) (i := j + 1) (by rw [ba_len]; exact hj1) lo
                repeat' (first | go_values | go_skip | go_guarded | go_step | go_upon)
                cases hN : numR S.data.toList lo (j + 1) with
                | out => exact absurd hN numR_out
                | bad e0 k =>
                  rw [hN] at hnum hC
                  have HC := Lib.hid hC.symm
                  clear hC
                  refine Calls.mono hnum ?_
                  rintro _ wm ⟨rfl, he⟩
                  exact ⟨rfl, TPost.badI HC.out ⟨rfl, HI.out.ax.els.trans he⟩⟩
                | ok hi2 k =>
                  have hhi := numR_le hN
                  have hk := (hnin.okB hN).2
                  rw [ba_len] at hk
                  rw [hN] at hnum hC
                  dsimp only at hC
                  clear hN hnin hj1
                  refine Calls.mono (hnum) ?_
                  rintro _ wq ⟨rfl, hp, he⟩
                  dsimp only
                  have HI := Lib.hid (HI.out.go hp he)
                  clear hnum hp he
                  by_cases h125 : isC S.data.toList k 125
                  · rw [if_pos h125] at hC
                    have HC := Lib.hid hC
                    have hm := ps_must_y g S k d 125 (by omega) _ HI.out.ax.ps h125
                    have hk1 : k + 1 ≤ S.size := by have := h125.1; rw [ba_len] at this; omega
                    clear hC h125
                    repeat' (first | go_values | go_skip | go_guarded | go_step | go_upon)
                    refine Calls.mono (hm) ?_
                    rintro _ wm ⟨rfl, hp, he⟩
                    dsimp only
                    have HI := Lib.hid (HI.out.go hp he)
                    clear hm hp he
                    by_cases h1 : ((lo : Nat) : Int) = 1
                    · by_cases h2 : ((hi2 : Int) : Int) = 1
                      · have hq1 : ((((lo : Nat) : Int)) != 1) = false := by rw [h1]; rfl
                        have hq2 : ((((hi2 : Int) : Int)) != 1) = false := by rw [h2]; rfl
                        have HT : Hid (repT lo (hi2 : Int) t = t) := Lib.hid (by unfold repT; rw [if_pos ⟨by omega, h2⟩])
                        rw [HT.out] at HC
                        clear h1 h2
                        repeat' (first | go_values | go_skip | go_guarded | go_step | go_upon)
                        go_roundg gk
                        case rel => exact ⟨_, _, (k + 1), hk1, HC, HI⟩
                        case measure => omega
                      · have hq1 : ((((lo : Nat) : Int)) != 1) = false := by rw [h1]; rfl
                        have hq2 : ((((hi2 : Int) : Int)) != 1) = true := bne_iff_ne.2 h2
                        have HB3 := Lib.hid HI.out.b
                        have HB4 := Lib.hid (HI.out.b.keep ((Below.refl _ _).alloc (Nat.le_refl _) (.cells (reC r).toArray 28)))
                        have HR := Lib.hid (HI.out.rep lo (hi2 : Int) (by omega) (by omega) (by omega))
                        clear h1 h2
                        repeat' (first | (with_reducible refine load_box HB3.out _ rfl rfl ?_; dsimp only [Act.put, reV, reC]) | (refine store_box HB4.out (repN lo (hi2 : Int) wm.heap.size) rfl _ _ rfl rfl rfl ?_; dsimp only [Act.put]) | go_values | go_skip | go_guarded | go_step | go_upon)
                        go_roundg gk
                        case rel => exact ⟨_, _, (k + 1), hk1, HC, HR⟩
                        case measure => omega
                    · have hq1 : ((((lo : Nat) : Int)) != 1) = true := bne_iff_ne.2 h1
                      have HB3 := Lib.hid HI.out.b
                      have HB4 := Lib.hid (HI.out.b.keep ((Below.refl _ _).alloc (Nat.le_refl _) (.cells (reC r).toArray 28)))
                      have HR := Lib.hid (HI.out.rep lo (hi2 : Int) (by omega) (by omega) (by omega))
                      clear h1
                      repeat' (first | (with_reducible refine load_box HB3.out _ rfl rfl ?_; dsimp only [Act.put, reV, reC]) | (refine store_box HB4.out (repN lo (hi2 : Int) wm.heap.size) rfl _ _ rfl rfl rfl ?_; dsimp only [Act.put]) | go_values | go_skip | go_guarded | go_step | go_upon)
                      go_roundg gk
                      case rel => exact ⟨_, _, (k + 1), hk1, HC, HR⟩
                      case measure => omega
                  · rw [if_neg h125] at hC
                    have HC := Lib.hid hC.symm
                    have hm := ps_must_n g S k d 125 _ HI.out.ax.ps h125
                    clear hC h125
                    repeat' (first | go_values | go_skip | go_guarded | go_step | go_upon)
                    refine Calls.mono hm ?_
                    rintro _ wm ⟨rfl, he⟩
                    exact ⟨rfl, TPost.badI HC.out ⟨rfl, HI.out.ax.els.trans he⟩⟩
            · rw [if_neg h44] at hC
              dsimp only at hC
              have ht := ps_take_n g S j d 44 wn HI.out.ax.ps h44
              clear h44
              repeat' (first | go_values | go_skip | go_guarded | go_step | go_upon)
              refine Calls.mono (ht) ?_
              rintro _ wt ⟨rfl, hb⟩
              dsimp only
              have HI := Lib.hid (HI.out.keep hb)
              clear ht hb
              by_cases h125 : isC S.data.toList j 125
              · rw [if_pos h125] at hC
                have HC := Lib.hid hC
                have hm := ps_must_y g S j d 125 (by omega) _ HI.out.ax.ps h125
                have hk1 : j + 1 ≤ S.size := by have := h125.1; rw [ba_len] at this; omega
                clear hC h125
                repeat' (first | go_values | go_skip | go_guarded | go_step | go_upon)
                refine Calls.mono (hm) ?_
                rintro _ wm ⟨rfl, hp, he⟩
                dsimp only
                have HI := Lib.hid (HI.out.go hp he)
                clear hm hp he
                by_cases h1 : ((lo : Nat) : Int) = 1
                · have hq1 : ((((lo : Nat) : Int)) != 1) = false := by rw [h1]; rfl
                  have HT : Hid (repT lo (lo : Int) t = t) := Lib.hid (by unfold repT; rw [if_pos ⟨by omega, h1⟩])
                  rw [HT.out] at HC
                  clear h1
                  repeat' (first | go_values | go_skip | go_guarded | go_step | go_upon)
                  go_roundg gk
                  case rel => exact ⟨_, _, (j + 1), hk1, HC, HI⟩
                  case measure => omega
                · have hq1 : ((((lo : Nat) : Int)) != 1) = true := bne_iff_ne.2 h1
                  have HB3 := Lib.hid HI.out.b
                  have HB4 := Lib.hid (HI.out.b.keep ((Below.refl _ _).alloc (Nat.le_refl _) (.cells (reC r).toArray 28)))
                  have HR := Lib.hid (HI.out.rep lo (lo : Int) (by omega) (by omega) (by omega))
                  clear h1
                  repeat' (first | (with_reducible refine load_box HB3.out _ rfl rfl ?_; dsimp only [Act.put, reV, reC]) | (refine store_box HB4.out (repN lo (lo : Int) wm.heap.size) rfl _ _ rfl rfl rfl ?_; dsimp only [Act.put]) | go_values | go_skip | go_guarded | go_step | go_upon)
                  go_roundg gk
                  case rel => exact ⟨_, _, (j + 1), hk1, HC, HR⟩
                  case measure => omega
              · rw [if_neg h125] at hC
                have HC := Lib.hid hC.symm
                have hm := ps_must_n g S j d 125 _ HI.out.ax.ps h125
                clear hC h125
                repeat' (first | go_values | go_skip | go_guarded | go_step | go_upon)
                refine Calls.mono hm ?_
                rintro _ wm ⟨rfl, he⟩
                exact ⟨rfl, TPost.badI HC.out ⟨rfl, HI.out.ax.els.trans he⟩⟩
        · rw [if_neg h123] at hC
          have HC := Lib.hid hC
          have ht := ps_take_n g S i' d 42 _ HI.out.ax.ps h42
          repeat' (first | go_values | go_skip | go_guarded | go_step | go_upon)
          refine Calls.mono (ht) ?_
          rintro _ wt ⟨rfl, hb⟩
          dsimp only
          have HI := Lib.hid (HI.out.keep hb)
          clear ht hb
          have ht := ps_take_n g S i' d 43 _ HI.out.ax.ps h43
          repeat' (first | go_values | go_skip | go_guarded | go_step | go_upon)
          refine Calls.mono (ht) ?_
          rintro _ wt ⟨rfl, hb⟩
          dsimp only
          have HI := Lib.hid (HI.out.keep hb)
          clear ht hb
          have ht := ps_take_n g S i' d 63 _ HI.out.ax.ps h63
          repeat' (first | go_values | go_skip | go_guarded | go_step | go_upon)
          refine Calls.mono (ht) ?_
          rintro _ wt ⟨rfl, hb⟩
          dsimp only
          have HI := Lib.hid (HI.out.keep hb)
          clear ht hb
          have ht := ps_take_n g S i' d 123 _ HI.out.ax.ps h123
          repeat' (first | go_values | go_skip | go_guarded | go_step | go_upon)
          refine Calls.mono (ht) ?_
          rintro _ wt ⟨rfl, hb⟩
          dsimp only
          have HI := Lib.hid (HI.out.keep hb)
          clear ht hb
          clear hC h42 h43 h63 h123
          have HB3 := Lib.hid HI.out.b
          have HM := Lib.hid HI.out.ax.bx
          have HD := Lib.hid (HI.out.ax.done (HI.out.x.drop (p' := g) (.inl (by have := HI.out.ax.lt; omega))))
          have hone := HI.out.x.one
          repeat' (first | (with_reducible refine load_box HB3.out _ rfl rfl ?_; dsimp only [Act.put]) | (refine store_box HM.out r hone _ _ rfl rfl rfl ?_; dsimp only [Act.put]) | go_values | go_skip | go_guarded | go_step | go_upon)
          refine bodyPost_ret (results_re rfl _ _ _ _ rfl (HM.out.set _)) rfl ?_
          exact TPost.okI HC.out.symm ⟨⟨_, rfl, HD.out.1⟩, HD.out.2.1, HD.out.2.2⟩
end Go.Proofs.YtnbfifmnigeolaaDoor
namespace Go.Proofs.YtnbfifmnigeolaaDoor
open Go.RowKit Go.Lib
theorem wp_region_anyP {P : Program} {id : Nat} {Q : Exit → Act → World → Prop} {a : Act} {w : World} {ops : Array Oper} (hm : P.follows .mixedOrders = true) (C : World → Prop)
    (h : wpAnyC P .any ops (CG C) Q ops.size (Array.replicate ops.size false) a w.drew) : (Code.region id ops true).wp P Q a w :=
  wp_region_any hm (wpAnyC.any _ _ _ _ h)
theorem genCp {P : Program} {md : Region.Mode} {ops : Array Oper} {C : World → Prop} {Q : Exit → Act → World → Prop} {fuel : Nat} {listed : Array Bool} {a : Act} {w : World} (F : World → Prop) (hF : F w) (h : ∀ w', F w' → wpAnyC P md ops C Q fuel listed a w') : wpAnyC P md ops C Q fuel listed a w := h w hF
theorem AX.setI {w W : World} {Z g : Nat} {S : ByteArray} {d i : Nat} (h : AX w Z g S d i W) (j : Nat) : AX w Z g S d j (W.setCell ⟨g, 1, none⟩ (.int .i64 (j : Int))) := h.go (h.ps.set1 j) ((Else.refl g W).setCell _ _)
theorem AX.setD {w W : World} {Z g : Nat} {S : ByteArray} {d i : Nat} (h : AX w Z g S d i W) (j : Nat) : AX w Z g S j i (W.setCell ⟨g, 2, none⟩ (.int .i64 (j : Int))) := h.go (h.ps.set2 j) ((Else.refl g W).setCell _ _)
set_option maxRecDepth 100000 in
set_option maxHeartbeats 8000000 in
theorem ps_atom (g : Nat) (S : ByteArray) (f : Nat) (hS : S.size ≤ 512) (IH : CT g S 15 .alt f) : CT g S 62 .atom (f + 1) := by
  intro d i w hi hd h hn
  obtain ⟨X, hX⟩ : ∃ X, prs S.data.toList (f + 1) .atom d i = X := ⟨_, rfl⟩
  rw [hX] at hn ⊢
  rw [prs, ba_len] at hX
  by_cases h40 : isC S.data.toList i 40
  · rw [if_pos h40] at hX
    have hi1 : i + 1 ≤ S.size := by have := h40.1; rw [ba_len] at this; omega
    by_cases hd30 : 30 ≤ d
    · rw [if_pos hd30] at hX
      have HC := Lib.hid hX.symm
      have hd' : (d : Int) ≥ 30 := by omega
      clear hX hn hi hi1
      have HA := Lib.hid (AX.start h)
      clear h
      go_enter Tryd.func62, Tryd.ntmps62
      repeat' (go_not_at_region 1; first | go_values | go_skip | go_guarded | go_step | go_upon)
      generalize hZ : w.heap.size = Z at HA ⊢
      refine gen_wd (fun W => AX w Z g S d i W) HA.out ?_
      clear HA
      rintro w1 hj
      have HA := Lib.hid hj
      clear hj hZ
      repeat' (first | go_values | go_skip | go_guarded | go_step | go_upon)
      have ht := ps_is_y g S i d 40 _ HA.out.ps h40
      repeat' (first | go_values | go_skip | go_guarded | go_step | go_upon)
      refine Calls.mono (ht) ?_
      rintro _ wt ⟨rfl, hb⟩
      dsimp only
      have HA := Lib.hid (HA.out.keep hb)
      clear ht hb
      have c1 := HA.out.ps.c1
      have c2 := HA.out.ps.c2
      clear hd30 hd
      repeat' (first | go_values | go_skip | go_guarded | go_step | go_upon)
      exact ⟨rfl, TPost.badI HC.out ⟨rfl, HA.out.els⟩⟩
    · rw [if_neg hd30] at hX
      have hd' : ¬ (d : Int) ≥ 30 := by omega
      have hw1 : IntKind.i64.wrap ((i : Int) + 1) = ((i + 1 : Nat) : Int) := by rw [wi64 (by unfold I64; omega)]; omega
      have hw2 : IntKind.i64.wrap ((d : Int) + 1) = ((d + 1 : Nat) : Int) := by rw [wi64 (by unfold I64; omega)]; omega
      have hw3 : IntKind.i64.wrap (((d + 1 : Nat) : Int) - 1) = (d : Int) := by rw [wi64 (by unfold I64; omega)]; omega
      have hcall := IH (d + 1) (i + 1)
      have hd1 : d + 1 ≤ 30 := by omega
      have hin := prs_in (s := S.data.toList) f .alt (d + 1) (i + 1) (by rw [ba_len]; exact hi1)
      obtain ⟨i1, hi1e⟩ : ∃ i1, i + 1 = i1 := ⟨_, rfl⟩
      obtain ⟨d1, hd1e⟩ : ∃ d1, d + 1 = d1 := ⟨_, rfl⟩
      rw [hi1e] at hw1 hcall hX hi1 hin
      rw [hd1e] at hw2 hw3 hcall hX hd1 hin
      clear hd30 hd hi hi1e hd1e
      have HA := Lib.hid (AX.start h)
      clear h
      go_enter Tryd.func62, Tryd.ntmps62
      repeat' (go_not_at_region 1; first | go_values | go_skip | go_guarded | go_step | go_upon)
      generalize hZ : w.heap.size = Z at HA ⊢
      refine gen_wd (fun W => AX w Z g S d i W) HA.out ?_
      clear HA
      rintro w1 hj
      have HA := Lib.hid hj
      clear hj hZ
      repeat' (first | go_values | go_skip | go_guarded | go_step | go_upon)
      have ht := ps_is_y g S i d 40 _ HA.out.ps h40
      repeat' (first | go_values | go_skip | go_guarded | go_step | go_upon)
      refine Calls.mono (ht) ?_
      rintro _ wt ⟨rfl, hb⟩
      dsimp only
      have HA := Lib.hid (HA.out.keep hb)
      clear ht hb
      have c1 := HA.out.ps.c1
      have c2 := HA.out.ps.c2
      have f1 := HA.out.ps.free 1
      have f2 := HA.out.ps.free 2
      have HB := Lib.hid ((HA.out.setI i1).setD d1)
      have hc := hcall _ hi1 hd1 HB.out.ps
      clear h40
      repeat' (first | go_values | go_skip | go_guarded | go_step | go_upon)
      clear c1 c2 f1 f2 HA hcall hw1 hw2
      cases hY : prs S.data.toList f .alt d1 i1 with
      | out => rw [hY] at hX; exact absurd hX.symm hn
      | bad e0 j =>
        have hc := hc (by rw [hY]; intro e; cases e)
        rw [hY] at hc hX
        have HC := Lib.hid hX.symm
        refine Calls.mono hc ?_
        rintro _ wy ⟨rfl, he⟩
        exact ⟨rfl, TPost.badI HC.out ⟨rfl, HB.out.els.trans he⟩⟩
      | ok t j =>
        have hc := hc (by rw [hY]; intro e; cases e)
        have hj := (hin.okB hY).2
        rw [ba_len] at hj
        rw [hY] at hc hX
        simp only [PR.bind] at hX
        clear hY hin hn hi1 hd1
        refine Calls.mono (hc) ?_
        rintro _ w2 ⟨⟨r, rfl, hx⟩, hp, he⟩
        dsimp only
        have hone := hx.one
        have hzlt := HB.out.bx.lt
        have HA := Lib.hid (HB.out.go hp he)
        have HR := Lib.hid ((hx.mono hzlt).keepB ((Below.refl _ w2).alloc (Nat.le_refl _) (.cells (reC r).toArray 28)) (Nat.le_refl _))
        have HR3 : Hid (ReX (Z + 1) w2.heap.size w2 r t) := Lib.hid ((hx.mono hzlt).drop (.inr (Nat.le_refl _)))
        have HA := Lib.hid (HA.out.keep ((Below.refl _ w2).alloc (Nat.le_refl _) (.cells (reC r).toArray 28)))
        have HB3 := Lib.hid (ReBox.new w2 r)
        have hz3 : Z < w2.heap.size ∧ g < w2.heap.size := ⟨Nat.lt_of_lt_of_le hzlt he.size, hp.lt⟩
        clear hc hx hp he hzlt HB HR3
        repeat' (first | (refine store_re (r := r) hone _ _ rfl rfl rfl rfl ?_; dsimp only [Act.put]) | go_values | go_skip | go_guarded | go_step | go_upon)
        generalize w2.alloc (.cells (reC r).toArray 28) = w3 at HA HB3 HR ⊢
        generalize w2.heap.size = b3 at HB3 hz3 ⊢
        have HB3 := Lib.hid HB3.out
        by_cases h41 : isC S.data.toList j 41
        · rw [if_pos h41] at hX
          have HC := Lib.hid hX.symm
          have hm := ps_must_y g S j d1 41 (by omega) w3 HA.out.ps h41
          clear hX h41
          refine Calls.mono (hm) ?_
          rintro _ w4 ⟨rfl, hp, he⟩
          dsimp only
          have HB3 := Lib.hid (HB3.out.els he (by omega))
          have HR := Lib.hid (HR.out.els he (by have := HA.out.lt; omega))
          have HA := Lib.hid (HA.out.go hp he)
          clear hm hp he
          have c2 := HA.out.ps.c2
          have f2 := HA.out.ps.free 2
          have HB3 := Lib.hid (show ReBox (w4.setCell ⟨g, 2, none⟩ (.int .i64 (d : Int))) b3 r from HB3.out.cellOther (by omega))
          have HR := Lib.hid (HR.out.els ((Else.refl g w4).setCell 2 (.int .i64 (d : Int))) (by have := HA.out.lt; omega))
          have HA := Lib.hid (HA.out.setD d)
          have HD := Lib.hid (HA.out.done HR.out)
          have HM := Lib.hid HA.out.bx
          repeat' (first | (with_reducible refine load_box HB3.out _ rfl rfl ?_; dsimp only [Act.put, reV, reC]) | (refine store_box HM.out r hone _ _ rfl rfl rfl ?_; dsimp only [Act.put]) | go_values | go_skip | go_guarded | go_step | go_upon)
          refine bodyPost_ret (results_re rfl _ _ _ _ rfl (HM.out.set _)) rfl ?_
          exact TPost.okI HC.out ⟨⟨_, rfl, HD.out.1⟩, HD.out.2.1, HD.out.2.2⟩
        · rw [if_neg h41] at hX
          have HC := Lib.hid hX.symm
          have hm := ps_must_n g S j d1 41 w3 HA.out.ps h41
          clear hX h41
          refine Calls.mono hm ?_
          rintro _ w4 ⟨rfl, he⟩
          exact ⟨rfl, TPost.badI HC.out ⟨rfl, HA.out.els.trans he⟩⟩
  rw [if_neg h40] at hX
  by_cases h91 : isC S.data.toList i 91
  · rw [if_pos h91] at hX
    have hi1 : i + 1 ≤ S.size := by have := h91.1; rw [ba_len] at this; omega
    have hcall := fun W hp => ps_class g S f (i + 1) d hS hi1 (by rw [hX]; exact hn) W hp
    rw [hX] at hcall
    clear hX hi1
    have HA := Lib.hid (AX.start h)
    clear h
    go_enter Tryd.func62, Tryd.ntmps62
    repeat' (go_not_at_region 1; first | go_values | go_skip | go_guarded | go_step | go_upon)
    generalize hZ : w.heap.size = Z at HA ⊢
    refine gen_wd (fun W => AX w Z g S d i W) HA.out ?_
    clear HA
    rintro w1 hj
    have HA := Lib.hid hj
    clear hj hZ
    repeat' (first | go_values | go_skip | go_guarded | go_step | go_upon)
    have ht := ps_is_n g S i d 40 _ HA.out.ps h40
    repeat' (first | go_values | go_skip | go_guarded | go_step | go_upon)
    refine Calls.mono (ht) ?_
    rintro _ wt ⟨rfl, hb⟩
    dsimp only
    have HA := Lib.hid (HA.out.keep hb)
    clear ht hb
    have ht := ps_take_y g S i d 91 (by omega) _ HA.out.ps h91
    repeat' (first | go_values | go_skip | go_guarded | go_step | go_upon)
    refine Calls.mono (ht) ?_
    rintro _ wu ⟨rfl, hp, he⟩
    dsimp only
    have HA := Lib.hid (HA.out.go hp he)
    clear ht hp he
    clear h40 h91
    have hc := hcall _ HA.out.ps
    clear hcall
    repeat' (first | go_values | go_skip | go_guarded | go_step | go_upon)
    cases X with
    | out => exact absurd rfl hn
    | bad e0 j =>
      refine Calls.mono hc ?_
      rintro _ wy ⟨rfl, he⟩
      exact ⟨rfl, TPost.badI rfl ⟨rfl, HA.out.els.trans he⟩⟩
    | ok t j =>
      have HC : Hid (PR.ok t j = PR.ok t j) := Lib.hid rfl
      refine Calls.mono (hc) ?_
      rintro _ w2 ⟨⟨r, rfl, hx⟩, hp, he⟩
      dsimp only
      have hone := hx.one
      have hx2 := hx.mono HA.out.bx.lt
      have HA := Lib.hid (HA.out.go hp he)
      clear hc hp he hx hn hi
      have HD := Lib.hid (HA.out.done hx2)
      have HM := Lib.hid HA.out.bx
      repeat' (first | (refine store_box HM.out r hone _ _ rfl rfl rfl ?_; dsimp only [Act.put]) | go_values | go_skip | go_guarded | go_step | go_upon)
      refine bodyPost_ret (results_re rfl _ _ _ _ rfl (HM.out.set _)) rfl ?_
      exact TPost.okI HC.out ⟨⟨_, rfl, HD.out.1⟩, HD.out.2.1, HD.out.2.2⟩
  rw [if_neg h91] at hX
  by_cases h46 : isC S.data.toList i 46
  · rw [if_pos h46] at hX
    have HC := Lib.hid hX.symm
    clear hX
    have HA := Lib.hid (AX.start h)
    clear h
    go_enter Tryd.func62, Tryd.ntmps62
    repeat' (go_not_at_region 1; first | go_values | go_skip | go_guarded | go_step | go_upon)
    generalize hZ : w.heap.size = Z at HA ⊢
    refine gen_wd (fun W => AX w Z g S d i W) HA.out ?_
    clear HA
    rintro w1 hj
    have HA := Lib.hid hj
    clear hj hZ
    repeat' (first | go_values | go_skip | go_guarded | go_step | go_upon)
    have ht := ps_is_n g S i d 40 _ HA.out.ps h40
    repeat' (first | go_values | go_skip | go_guarded | go_step | go_upon)
    refine Calls.mono (ht) ?_
    rintro _ wt ⟨rfl, hb⟩
    dsimp only
    have HA := Lib.hid (HA.out.keep hb)
    clear ht hb
    have ht := ps_take_n g S i d 91 _ HA.out.ps h91
    repeat' (first | go_values | go_skip | go_guarded | go_step | go_upon)
    refine Calls.mono (ht) ?_
    rintro _ wt ⟨rfl, hb⟩
    dsimp only
    have HA := Lib.hid (HA.out.keep hb)
    clear ht hb
    have ht := ps_take_y g S i d 46 (by omega) _ HA.out.ps h46
    repeat' (first | go_values | go_skip | go_guarded | go_step | go_upon)
    refine Calls.mono (ht) ?_
    rintro _ wu ⟨rfl, hp, he⟩
    dsimp only
    have HA := Lib.hid (HA.out.go hp he)
    clear ht hp he
    clear h40 h91 h46 hn hi
    repeat' (first | go_values | go_skip | go_guarded | go_step | go_upon)
    refine Calls.mono ((k_ln _)) ?_
    rintro _ w2 ⟨rfl, hb⟩
    dsimp only
    have HA := Lib.hid (HA.out.keep hb)
    clear hb
    repeat' (first | go_values | go_skip | go_guarded | go_step | go_upon)
    refine Calls.mono ((k_not _ _)) ?_
    rintro _ w3 ⟨rfl, hb⟩
    dsimp only
    have HA := Lib.hid (HA.out.keep hb)
    clear hb
    have HD := Lib.hid (HA.out.done (ReX.setT _ _ _ (notB (oneB 10))))
    have HM := Lib.hid HA.out.bx
    repeat' (first | (refine store_box HM.out (setN (notB (oneB 10))) rfl _ _ rfl rfl rfl ?_; dsimp only [Act.put]) | go_values | go_skip | go_guarded | go_step | go_upon)
    refine bodyPost_ret (results_re rfl _ _ _ _ rfl (HM.out.set _)) rfl ?_
    exact TPost.okI HC.out ⟨⟨_, rfl, HD.out.1⟩, HD.out.2.1, HD.out.2.2⟩
  rw [if_neg h46] at hX
  by_cases h92 : isC S.data.toList i 92
  · rw [if_pos h92] at hX
    have hi1 : i + 1 ≤ S.size := by have := h92.1; rw [ba_len] at this; omega
    have hk := fun W hp => ps_kind g S (i + 1) d (by omega) W hp
    have hesc := fun W hp => ps_escape g S (i + 1) d hS hi1 W hp
    have HA := Lib.hid (AX.start h)
    clear h
    go_enter Tryd.func62, Tryd.ntmps62
    repeat' (go_not_at_region 1; first | go_values | go_skip | go_guarded | go_step | go_upon)
    generalize hZ : w.heap.size = Z at HA ⊢
    refine gen_wd (fun W => AX w Z g S d i W) HA.out ?_
    clear HA
    rintro w1 hj
    have HA := Lib.hid hj
    clear hj hZ
    repeat' (first | go_values | go_skip | go_guarded | go_step | go_upon)
    have ht := ps_is_n g S i d 40 _ HA.out.ps h40
    repeat' (first | go_values | go_skip | go_guarded | go_step | go_upon)
    refine Calls.mono (ht) ?_
    rintro _ wt ⟨rfl, hb⟩
    dsimp only
    have HA := Lib.hid (HA.out.keep hb)
    clear ht hb
    have ht := ps_take_n g S i d 91 _ HA.out.ps h91
    repeat' (first | go_values | go_skip | go_guarded | go_step | go_upon)
    refine Calls.mono (ht) ?_
    rintro _ wt ⟨rfl, hb⟩
    dsimp only
    have HA := Lib.hid (HA.out.keep hb)
    clear ht hb
    have ht := ps_take_n g S i d 46 _ HA.out.ps h46
    repeat' (first | go_values | go_skip | go_guarded | go_step | go_upon)
    refine Calls.mono (ht) ?_
    rintro _ wt ⟨rfl, hb⟩
    dsimp only
    have HA := Lib.hid (HA.out.keep hb)
    clear ht hb
    have ht := ps_take_y g S i d 92 (by omega) _ HA.out.ps h92
    repeat' (first | go_values | go_skip | go_guarded | go_step | go_upon)
    refine Calls.mono (ht) ?_
    rintro _ wu ⟨rfl, hp, he⟩
    dsimp only
    have HA := Lib.hid (HA.out.go hp he)
    clear ht hp he
    clear h40 h91 h46 h92 hi
    have hk := hk _ HA.out.ps
    repeat' (first | go_values | go_skip | go_guarded | go_step | go_upon)
    cases hK : kndR S.data.toList (i + 1) with
    | some p =>
      rw [hK] at hk hX
      have HC := Lib.hid hX.symm
      clear hX hesc hn
      refine Calls.mono (hk) ?_
      rintro _ w2 ⟨rfl, hp, he⟩
      dsimp only
      have HA := Lib.hid (HA.out.go hp he)
      have HA := Lib.hid (HA.out.keep ((Below.refl _ w2).alloc (Nat.le_refl _) (.cells (sc p) 25)))
      have HL : Hid (SetAt (w2.alloc (.cells (sc p) 25)) w2.heap.size p) := Lib.hid (Go.heap_alloc_new _ _)
      clear hk hp he hK
      have HD := Lib.hid (HA.out.done (ReX.setT (Z + 1) g _ p))
      have HM := Lib.hid HA.out.bx
      repeat' (first | (with_reducible refine load_set1 HL.out _ rfl rfl ?_; dsimp only [Act.put]) | (refine store_box HM.out (setN p) rfl _ _ rfl rfl rfl ?_; dsimp only [Act.put]) | go_values | go_skip | go_guarded | go_step | go_upon)
      refine bodyPost_ret (results_re rfl _ _ _ _ rfl (HM.out.set _)) rfl ?_
      exact TPost.okI HC.out ⟨⟨_, rfl, HD.out.1⟩, HD.out.2.1, HD.out.2.2⟩
    | none =>
      rw [hK] at hk hX
      dsimp only at hX
      refine Calls.mono (hk) ?_
      rintro _ w2 ⟨rfl, hp, he⟩
      dsimp only
      have HA := Lib.hid (HA.out.go hp he)
      have HA := Lib.hid (HA.out.keep ((Below.refl _ w2).alloc (Nat.le_refl _) (.cells (sc fun _ => false) 25)))
      clear hk hp he hK
      have hc := hesc _ HA.out.ps
      clear hesc
      repeat' (first | go_values | go_skip | go_guarded | go_step | go_upon)
      cases hE : escR S.data.toList (i + 1) with
      | out => exact absurd hE escR_out
      | bad e0 j =>
        rw [hE] at hc hX
        have HC := Lib.hid hX.symm
        refine Calls.mono hc ?_
        rintro _ wy ⟨rfl, he⟩
        exact ⟨rfl, TPost.badI HC.out ⟨rfl, HA.out.els.trans he⟩⟩
      | ok c j =>
        have hc256 := escR_lt hE
        rw [hE] at hc hX
        have HC := Lib.hid hX.symm
        clear hX hE hn hi1
        refine Calls.mono (hc) ?_
        rintro _ w3 ⟨rfl, hp, he⟩
        dsimp only
        have HA := Lib.hid (HA.out.go hp he)
        clear hc hp he
        repeat' (first | go_values | go_skip | go_guarded | go_step | go_upon)
        refine Calls.mono ((ps_one c hc256 _)) ?_
        rintro _ w4 ⟨rfl, hb⟩
        dsimp only
        have HA := Lib.hid (HA.out.keep hb)
        clear hb
        have HD := Lib.hid (HA.out.done (ReX.setT _ _ _ (oneB c)))
        have HM := Lib.hid HA.out.bx
        repeat' (first | (refine store_box HM.out (setN (oneB c)) rfl _ _ rfl rfl rfl ?_; dsimp only [Act.put]) | go_values | go_skip | go_guarded | go_step | go_upon)
        refine bodyPost_ret (results_re rfl _ _ _ _ rfl (HM.out.set _)) rfl ?_
        exact TPost.okI HC.out ⟨⟨_, rfl, HD.out.1⟩, HD.out.2.1, HD.out.2.2⟩
  rw [if_neg h92] at hX
  by_cases hlt : i < S.size
  · have hlt' : ¬ (i : Int) ≥ S.size := by omega
    have hx := byte_is S i hlt
    have hb := bt_lt S.data.toList i
    have hw : IntKind.i64.wrap ((i : Int) + 1) = ((i + 1 : Nat) : Int) := by rw [wi64 (by unfold I64; omega)]; omega
    have hw2 : IntKind.i64.wrap (((i + 1 : Nat) : Int) - 1) = (i : Int) := by rw [wi64 (by unfold I64; omega)]; omega
    obtain ⟨x, hxx⟩ : ∃ x, bt S.data.toList i = x := ⟨_, rfl⟩
    rw [hxx] at hx hb hX
    obtain ⟨j, hj⟩ : ∃ j, i + 1 = j := ⟨_, rfl⟩
    rw [hj] at hw hw2 hX
    have hI : ∀ W, Calls Tryd.prog 59 #[.string ⟨#[92, 40, 41, 91, 93, 123, 125, 46, 42, 43, 63, 124, 94, 36]⟩, .int .u8 (x : Nat)] W fun e w' => e = .returned (.int .i64 (Lib.indexByte [92, 40, 41, 91, 93, 123, 125, 46, 42, 43, 63, 124, 94, 36] ((x : Nat) : Int).toNat.toUInt8)) ∧ w' = W := fun W => Tryd.strings_IndexByte ⟨#[92, 40, 41, 91, 93, 123, 125, 46, 42, 43, 63, 124, 94, 36]⟩ (x : Nat) W
    have e1 := ix_sgn ⟨x, hb⟩
    dsimp only at e1
    generalize Lib.indexByte [92, 40, 41, 91, 93, 123, 125, 46, 42, 43, 63, 124, 94, 36] ((x : Nat) : Int).toNat.toUInt8 = v1 at hI e1
    rw [decide_eq_decide] at e1
    have HHj := Lib.hid hj
    clear hj hxx
    by_cases hsg : x ∈ sgP
    · rw [if_neg (fun q => q.2 hsg)] at hX
      have HC := Lib.hid hX.symm
      have hv : v1 ≥ 0 := e1.2 hsg
      clear hX hn hi hw hw2 e1 hsg hlt
      have HA := Lib.hid (AX.start h)
      clear h
      go_enter Tryd.func62, Tryd.ntmps62
      repeat' (go_not_at_region 1; first | go_values | go_skip | go_guarded | go_step | go_upon)
      generalize hZ : w.heap.size = Z at HA ⊢
      refine gen_wd (fun W => AX w Z g S d i W) HA.out ?_
      clear HA
      rintro w1 hj
      have HA := Lib.hid hj
      clear hj hZ
      repeat' (first | go_values | go_skip | go_guarded | go_step | go_upon)
      have ht := ps_is_n g S i d 40 _ HA.out.ps h40
      repeat' (first | go_values | go_skip | go_guarded | go_step | go_upon)
      refine Calls.mono (ht) ?_
      rintro _ wt ⟨rfl, hb⟩
      dsimp only
      have HA := Lib.hid (HA.out.keep hb)
      clear ht hb
      have ht := ps_take_n g S i d 91 _ HA.out.ps h91
      repeat' (first | go_values | go_skip | go_guarded | go_step | go_upon)
      refine Calls.mono (ht) ?_
      rintro _ wt ⟨rfl, hb⟩
      dsimp only
      have HA := Lib.hid (HA.out.keep hb)
      clear ht hb
      have ht := ps_take_n g S i d 46 _ HA.out.ps h46
      repeat' (first | go_values | go_skip | go_guarded | go_step | go_upon)
      refine Calls.mono (ht) ?_
      rintro _ wt ⟨rfl, hb⟩
      dsimp only
      have HA := Lib.hid (HA.out.keep hb)
      clear ht hb
      have ht := ps_take_n g S i d 92 _ HA.out.ps h92
      repeat' (first | go_values | go_skip | go_guarded | go_step | go_upon)
      refine Calls.mono (ht) ?_
      rintro _ wt ⟨rfl, hb⟩
      dsimp only
      have HA := Lib.hid (HA.out.keep hb)
      clear ht hb
      clear h40 h91 h46 h92 hb
      repeat' (first | go_values | go_skip | go_guarded | go_step | go_upon)
      have q0 : ∀ nq : WB wt, nq.1.cell? ⟨g, 0, none⟩ = some (.string S) := fun nq => (HA.out.ps.keep nq.2).c0
      have q1 : ∀ nq : WB wt, nq.1.cell? ⟨g, 1, none⟩ = some (.int .i64 (i : Int)) := fun nq => (HA.out.ps.keep nq.2).c1
      refine wp_region_wb (by kernel_rfl) (by kernel_rfl) wt (Below.refl _ _) ?_
      repeat (go_big_quiet_step ((go_at_call 59; exact calls_wb_same ((hI _).mono fun _ _ ⟨he, hw⟩ => ⟨he, hw.symm⟩))))
      refine wpQuiet_nil ?_
      rintro _ ⟨nr, rfl⟩
      have HA := Lib.hid (HA.out.keep nr.2)
      clear q0 q1 hI
      have hf := ps_fail g S i d nr.1 HA.out.ps
      repeat' (first | go_values | go_skip | go_guarded | go_step | go_upon)
      refine Calls.mono hf ?_
      rintro _ w2 ⟨rfl, rfl⟩
      exact ⟨rfl, TPost.badI HC.out ⟨rfl, HA.out.els⟩⟩
    · rw [if_pos ⟨hlt, hsg⟩] at hX
      have HC := Lib.hid hX.symm
      have hv : ¬ v1 ≥ 0 := mt e1.1 hsg
      clear hX hn hi e1 hsg hlt
      have HA := Lib.hid (AX.start h)
      clear h
      go_enter Tryd.func62, Tryd.ntmps62
      repeat' (go_not_at_region 1; first | go_values | go_skip | go_guarded | go_step | go_upon)
      generalize hZ : w.heap.size = Z at HA ⊢
      refine gen_wd (fun W => AX w Z g S d i W) HA.out ?_
      clear HA
      rintro w1 hj
      have HA := Lib.hid hj
      clear hj hZ
      repeat' (first | go_values | go_skip | go_guarded | go_step | go_upon)
      have ht := ps_is_n g S i d 40 _ HA.out.ps h40
      repeat' (first | go_values | go_skip | go_guarded | go_step | go_upon)
      refine Calls.mono (ht) ?_
      rintro _ wt ⟨rfl, hb⟩
      dsimp only
      have HA := Lib.hid (HA.out.keep hb)
      clear ht hb
      have ht := ps_take_n g S i d 91 _ HA.out.ps h91
      repeat' (first | go_values | go_skip | go_guarded | go_step | go_upon)
      refine Calls.mono (ht) ?_
      rintro _ wt ⟨rfl, hb⟩
      dsimp only
      have HA := Lib.hid (HA.out.keep hb)
      clear ht hb
      have ht := ps_take_n g S i d 46 _ HA.out.ps h46
      repeat' (first | go_values | go_skip | go_guarded | go_step | go_upon)
      refine Calls.mono (ht) ?_
      rintro _ wt ⟨rfl, hb⟩
      dsimp only
      have HA := Lib.hid (HA.out.keep hb)
      clear ht hb
      have ht := ps_take_n g S i d 92 _ HA.out.ps h92
      repeat' (first | go_values | go_skip | go_guarded | go_step | go_upon)
      refine Calls.mono (ht) ?_
      rintro _ wt ⟨rfl, hb⟩
      dsimp only
      have HA := Lib.hid (HA.out.keep hb)
      clear ht hb
      clear h40 h91 h46 h92
      repeat' (first | go_values | go_skip | go_guarded | go_step | go_upon)
      have q0 : ∀ nq : WB wt, nq.1.cell? ⟨g, 0, none⟩ = some (.string S) := fun nq => (HA.out.ps.keep nq.2).c0
      have q1 : ∀ nq : WB wt, nq.1.cell? ⟨g, 1, none⟩ = some (.int .i64 (i : Int)) := fun nq => (HA.out.ps.keep nq.2).c1
      refine wp_region_wb (by kernel_rfl) (by kernel_rfl) wt (Below.refl _ _) ?_
      repeat (go_big_quiet_step ((go_at_call 59; exact calls_wb_same ((hI _).mono fun _ _ ⟨he, hw⟩ => ⟨he, hw.symm⟩))))
      refine wpQuiet_nil ?_
      rintro _ ⟨nr, rfl⟩
      have HA := Lib.hid (HA.out.keep nr.2)
      clear q0 q1 hI
      have c1 := HA.out.ps.c1
      have f1 := HA.out.ps.free 1
      have HA := Lib.hid (HA.out.setI j)
      repeat' (first | go_values | go_skip | go_guarded | go_step | go_upon)
      clear c1 f1
      generalize World.setCell nr.1 ⟨g, 1, none⟩ (.int .i64 (j : Int)) = w5 at HA ⊢
      obtain ⟨C, hC⟩ : ∃ C : World → Prop, C = fun W => PsAt W g S j d := ⟨_, rfl⟩
      have Hmk : Hid (∀ W, PsAt W g S j d → C W) := Lib.hid (fun W h => by rw [hC]; exact h)
      have hC' : ∀ W, C W → PsAt W g S j d := fun W h => by rw [hC] at h; exact h
      have q0 : ∀ nq : GW C, nq.1.cell? ⟨g, 0, none⟩ = some (.string S) := fun nq => (hC' _ nq.2).c0
      have q1 : ∀ nq : GW C, nq.1.cell? ⟨g, 1, none⟩ = some (.int .i64 (j : Int)) := fun nq => (hC' _ nq.2).c1
      clear hC hC'
      refine wp_region_anyP (by kernel_rfl) C ?_
      refine wpAnyC_take (i := 0) (v := _) rfl (by kernel_rfl) (by kernel_rfl) (by kernel_rfl) (fun _ _ _ h => h) (Or.inl ⟨by rfl, fun w ⟨nq, hw⟩ => by (subst hw; go_simp <;> with_reducible rfl)⟩) (by go_simp <;> with_reducible rfl) ?_
      refine wpAnyC_take (i := 1) (v := _) rfl (by kernel_rfl) (by kernel_rfl) (by kernel_rfl) (fun _ _ _ h => h) (Or.inl ⟨by rfl, fun w ⟨nq, hw⟩ => by (subst hw; go_simp <;> with_reducible rfl)⟩) (by go_simp <;> with_reducible rfl) ?_
      refine wpAnyC_take (i := 2) (v := _) rfl (by kernel_rfl) (by kernel_rfl) (by kernel_rfl) (fun _ _ _ h => h) (Or.inl ⟨by rfl, fun w ⟨nq, hw⟩ => by (subst hw; go_simp <;> with_reducible rfl)⟩) (by go_simp <;> with_reducible rfl) ?_
      refine wpAnyC_take (i := 3) (v := _) rfl (by kernel_rfl) (by kernel_rfl) (by kernel_rfl) (fun _ _ _ h => h) (Or.inl ⟨by rfl, fun w ⟨nq, hw⟩ => by (subst hw; go_simp <;> with_reducible rfl)⟩) (by go_simp <;> with_reducible rfl) ?_
      refine wpAnyC_take (i := 4) (v := _) rfl (by kernel_rfl) (by kernel_rfl) (by kernel_rfl) (fun _ _ _ h => h) (Or.inl ⟨by rfl, fun w ⟨nq, hw⟩ => by (subst hw; go_simp <;> with_reducible rfl)⟩) (by go_simp <;> with_reducible rfl) ?_
      refine wpAnyC_take (i := 5) (v := _) rfl (by kernel_rfl) (by kernel_rfl) (by kernel_rfl) (fun _ _ _ h => h) (Or.inl ⟨by rfl, fun w ⟨nq, hw⟩ => by (subst hw; go_simp <;> with_reducible rfl)⟩) (by go_simp <;> with_reducible rfl) ?_
      refine wpAnyC_take (i := 6) (v := _) rfl (by kernel_rfl) (by kernel_rfl) (by kernel_rfl) (fun _ _ _ h => h) (Or.inl ⟨by rfl, fun w ⟨nq, hw⟩ => by (subst hw; go_simp <;> with_reducible rfl)⟩) (by go_simp <;> with_reducible rfl) ?_
      refine wpAnyC_take (i := 7) (v := _) rfl (by kernel_rfl) (by kernel_rfl) (by kernel_rfl) (fun _ _ _ h => h) (Or.inl ⟨by rfl, fun w ⟨nq, hw⟩ => by (subst hw; go_simp <;> with_reducible rfl)⟩) (by go_simp <;> with_reducible rfl) ?_
      refine wpAnyC_take (i := 8) (v := _) rfl (by kernel_rfl) (by kernel_rfl) (by kernel_rfl) (fun _ _ _ h => h) (Or.inl ⟨by rfl, fun w ⟨nq, hw⟩ => by (subst hw; go_simp <;> with_reducible rfl)⟩) (by go_simp <;> with_reducible rfl) ?_
      refine wpAnyC_take (i := 9) (v := _) rfl (by kernel_rfl) (by kernel_rfl) (by kernel_rfl) (fun _ _ _ h => h) (Or.inl ⟨by rfl, fun w ⟨nq, hw⟩ => by (subst hw; go_simp <;> with_reducible rfl)⟩) (by go_simp <;> with_reducible rfl) ?_
      refine genCp (fun W => AX w Z g S d j W) (HA.out.keep (Below.refl _ _).drew) ?_
      clear q0 q1 HA
      intro W0 h0
      refine wpAnyC_ready (CG.of (Hmk.out _ h0.ps)) (rs := [10]) (by kernel_rfl) (by simp) ?_
      refine (AllReadyC.cons rfl (fun K hK => ?_) AllReadyC.nil)
      go_simp
      refine Calls.mono ((ps_one x hb W0)) ?_
      rintro _ W1 ⟨rfl, hbb⟩
      dsimp only
      refine hK _ _ ?_
      clear hK K
      have h1 := h0.keep hbb
      clear hbb h0
      refine wpAnyC_ready (CG.of (Hmk.out _ h1.ps)) (rs := [11]) (by kernel_rfl) (by simp) ?_
      refine (AllReadyC.cons rfl (fun K hK => ?_) AllReadyC.nil)
      refine step_of rfl (store_box h1.bx (setN (oneB x)) rfl _ _ rfl rfl rfl ?_)
      refine hK _ _ ?_
      clear hK K
      have hD := h1.done (ReX.setT (Z + 1) g W1 (oneB x))
      refine wpAnyC_done (by kernel_rfl) (CG.of (Hmk.out _ hD.2.1)) (by go_simp <;> with_reducible rfl) ?_
      have HM := Lib.hid h1.bx
      have HD := Lib.hid hD
      clear hD h1 Hmk
      repeat' (first | go_values | go_skip | go_guarded | go_step | go_upon)
      refine bodyPost_ret (results_re rfl _ _ _ _ rfl (HM.out.set _)) rfl ?_
      exact TPost.okI HC.out ⟨⟨_, rfl, HD.out.1⟩, HD.out.2.1, HD.out.2.2⟩
  · have hlt' : (i : Int) ≥ S.size := by omega
    rw [if_neg (fun q => hlt q.1)] at hX
    have HC := Lib.hid hX.symm
    clear hX hn hi hlt
    have HA := Lib.hid (AX.start h)
    clear h
    go_enter Tryd.func62, Tryd.ntmps62
    repeat' (go_not_at_region 1; first | go_values | go_skip | go_guarded | go_step | go_upon)
    generalize hZ : w.heap.size = Z at HA ⊢
    refine gen_wd (fun W => AX w Z g S d i W) HA.out ?_
    clear HA
    rintro w1 hj
    have HA := Lib.hid hj
    clear hj hZ
    repeat' (first | go_values | go_skip | go_guarded | go_step | go_upon)
    have ht := ps_is_n g S i d 40 _ HA.out.ps h40
    repeat' (first | go_values | go_skip | go_guarded | go_step | go_upon)
    refine Calls.mono (ht) ?_
    rintro _ wt ⟨rfl, hb⟩
    dsimp only
    have HA := Lib.hid (HA.out.keep hb)
    clear ht hb
    have ht := ps_take_n g S i d 91 _ HA.out.ps h91
    repeat' (first | go_values | go_skip | go_guarded | go_step | go_upon)
    refine Calls.mono (ht) ?_
    rintro _ wt ⟨rfl, hb⟩
    dsimp only
    have HA := Lib.hid (HA.out.keep hb)
    clear ht hb
    have ht := ps_take_n g S i d 46 _ HA.out.ps h46
    repeat' (first | go_values | go_skip | go_guarded | go_step | go_upon)
    refine Calls.mono (ht) ?_
    rintro _ wt ⟨rfl, hb⟩
    dsimp only
    have HA := Lib.hid (HA.out.keep hb)
    clear ht hb
    have ht := ps_take_n g S i d 92 _ HA.out.ps h92
    repeat' (first | go_values | go_skip | go_guarded | go_step | go_upon)
    refine Calls.mono (ht) ?_
    rintro _ wt ⟨rfl, hb⟩
    dsimp only
    have HA := Lib.hid (HA.out.keep hb)
    clear ht hb
    clear h40 h91 h46 h92
    repeat' (first | go_values | go_skip | go_guarded | go_step | go_upon)
    have q0 : ∀ nq : WB wt, nq.1.cell? ⟨g, 0, none⟩ = some (.string S) := fun nq => (HA.out.ps.keep nq.2).c0
    have q1 : ∀ nq : WB wt, nq.1.cell? ⟨g, 1, none⟩ = some (.int .i64 (i : Int)) := fun nq => (HA.out.ps.keep nq.2).c1
    refine wp_region_wb (by kernel_rfl) (by kernel_rfl) wt (Below.refl _ _) ?_
    repeat (go_big_quiet_step (fail))
    refine wpQuiet_nil ?_
    rintro _ ⟨nr, rfl⟩
    have HA := Lib.hid (HA.out.keep nr.2)
    clear q0 q1
    have hf := ps_fail g S i d nr.1 HA.out.ps
    repeat' (first | go_values | go_skip | go_guarded | go_step | go_upon)
    refine Calls.mono hf ?_
    rintro _ w2 ⟨rfl, rfl⟩
    exact ⟨rfl, TPost.badI HC.out ⟨rfl, HA.out.els⟩⟩
end Go.Proofs.YtnbfifmnigeolaaDoor
namespace Go.Proofs.YtnbfifmnigeolaaDoor
open Go.RowKit Go.Lib
theorem CT.zero (g : Nat) (S : ByteArray) (fn : Nat) (k : Tk) : CT g S fn k 0 := fun _ _ _ _ _ _ hn => absurd (by rw [prs]) hn
theorem ps_all (g : Nat) (S : ByteArray) (hS : S.size ≤ 512) : ∀ n f, f ≤ n → CT g S 15 .alt f ∧ CT g S 28 (.cat []) f ∧ CT g S 51 .item f ∧ CT g S 62 .atom f
  | 0, f, hf => by
    rw [Nat.le_zero.1 hf]
    exact ⟨CT.zero _ _ _ _, CT.zero _ _ _ _, CT.zero _ _ _ _, CT.zero _ _ _ _⟩
  | n + 1, f, hf => by
    have ih := ps_all g S hS n
    cases f with
    | zero => exact ⟨CT.zero _ _ _ _, CT.zero _ _ _ _, CT.zero _ _ _ _, CT.zero _ _ _ _⟩
    | succ f =>
      have h1 := ih f (by omega)
      exact ⟨ps_alt g S f hS fun f' hf' => (ih f' (by omega)).2.1, ps_cat g S (f + 1) hS fun f' hf' => (ih f' (by omega)).2.2.1, ps_item g S f hS h1.2.2.2, ps_atom g S f hS h1.1⟩
end Go.Proofs.YtnbfifmnigeolaaDoor
namespace Go.Proofs.YtnbfifmnigeolaaDoor
open Go.RowKit Go.Lib
/-- a variable of one number -/
def IB (w : World) (b : Nat) (ty : TypeId) (n : Int) : Prop := w.heap[b]? = some (.cells #[.int .i64 n] ty (0, 0))
section
variable {w w' : World} {b : Nat} {ty : TypeId} {n : Int}
theorem IB.lt (h : IB w b ty n) : b < w.heap.size := (Array.getElem?_eq_some_iff.1 h).1
theorem IB.keep (h : IB w b ty n) (hb : Below w.heap.size w w') : IB w' b ty n := by unfold IB; rw [hb.block b h.lt]; exact h
theorem IB.els {g : Nat} (h : IB w b ty n) (he : Else g w w') (hne : b ≠ g) : IB w' b ty n := he.row h hne
theorem IB.cell (h : IB w b ty n) : w.cell? ⟨b, 0, none⟩ = some (.int .i64 n) := by rw [cell_of_row w b 0 _ _ _ h]; rfl
theorem IB.free (h : IB w b ty n) (k : Nat) : w.frozen? ⟨b, k, none⟩ = false := frozen_of_row _ _ _ _ _ h
theorem IB.set (h : IB w b ty n) (m : Int) : IB (w.setCell ⟨b, 0, none⟩ (.int .i64 m)) b ty m := by
  unfold IB; rw [setCell_eq_setRow _ _ _ _ _ _ _ h, setRow_heap _ _ _ _ _ _ h]; simp
theorem IB.other {q o : Nat} {u : Value} (h : IB w b ty n) (hq : b ≠ q) : IB (w.setCell ⟨q, o, none⟩ u) b ty n := by
  unfold IB; rw [show (w.setCell ⟨q, o, none⟩ u).heap[b]? = w.heap[b]? from Below.heap_setCell _ _ _ _ (by dsimp only; omega)]; exact h
theorem IB.row {q : Nat} {cs : Array Value} (h : IB w b ty n) (hq : b ≠ q) : IB (w.setRow q cs) b ty n := by unfold IB; rw [setRow_other _ _ _ _ hq]; exact h
theorem IB.new (w : World) (ty : TypeId) : IB (w.alloc (.cells #[.int .i64 0] ty)) w.heap.size ty 0 := Go.heap_alloc_new _ _
end
/-- Parse's three results, each in its variable -/
structure PB (B b2 b3 b4 : Nat) (w0 : World) (r : RN) (er at' : Int) (W : World) : Prop where
  r : ReBox W b2 r
  e : IB W b3 29 er
  a : IB W b4 3 at'
  bel : Below B w0 W
  lt : B ≤ b2 ∧ b2 < b3 ∧ b3 < b4
theorem PB.keep {B b2 b3 b4 : Nat} {w0 W W' : World} {r : RN} {er at' : Int} (h : PB B b2 b3 b4 w0 r er at' W) (hb : Below W.heap.size W W') : PB B b2 b3 b4 w0 r er at' W' :=
  ⟨h.r.keep hb, h.e.keep hb, h.a.keep hb, h.bel.trans (hb.mono (by have := h.r.lt; have := h.lt; omega)), h.lt⟩
section
variable {B b2 b3 b4 : Nat} {w0 W : World} {r : RN} {er at' : Int}
theorem PB.setR (h : PB B b2 b3 b4 w0 r er at' W) (r' : RN) : PB B b2 b3 b4 w0 r' er at' (W.setRow b2 (reC r').toArray) :=
  ⟨h.r.set r', h.e.row (by have := h.lt; omega), h.a.row (by have := h.lt; omega), Below.row h.bel (by have := h.lt; omega) _, h.lt⟩
theorem PB.setE (h : PB B b2 b3 b4 w0 r er at' W) (n : Int) : PB B b2 b3 b4 w0 r n at' (W.setCell ⟨b3, 0, none⟩ (.int .i64 n)) :=
  ⟨h.r.cellOther (by have := h.lt; omega), h.e.set n, h.a.other (by have := h.lt; omega), h.bel.setCell (by dsimp only; have := h.lt; omega) _, h.lt⟩
theorem PB.setA (h : PB B b2 b3 b4 w0 r er at' W) (n : Int) : PB B b2 b3 b4 w0 r er n (W.setCell ⟨b4, 0, none⟩ (.int .i64 n)) :=
  ⟨h.r.cellOther (by have := h.lt; omega), h.e.other (by have := h.lt; omega), h.a.set n, h.bel.setCell (by dsimp only; have := h.lt; omega) _, h.lt⟩
/-- the box of what was thrown -/
def SB (W : World) (b : Nat) (e j : Int) : Prop := W.heap[b]? = some (.cells #[.int .i64 e, .int .i64 j] 41 (0, 0))
theorem SB.c0 {b : Nat} {e j : Int} (h : SB W b e j) : W.cell? ⟨b, 0, none⟩ = some (.int .i64 e) := by rw [cell_of_row W b 0 _ _ _ h]; rfl
theorem SB.c1 {b : Nat} {e j : Int} (h : SB W b e j) : W.cell? ⟨b, 1, none⟩ = some (.int .i64 j) := by rw [cell_of_row W b 1 _ _ _ h]; rfl
theorem SB.row {b q : Nat} {e j : Int} {cs : Array Value} (h : SB W b e j) (hq : b ≠ q) : SB (W.setRow q cs) b e j := by unfold SB; rw [setRow_other _ _ _ _ hq]; exact h
theorem SB.other {b q o : Nat} {e j : Int} {u : Value} (h : SB W b e j) (hq : b ≠ q) : SB (W.setCell ⟨q, o, none⟩ u) b e j := by
  unfold SB; rw [show (W.setCell ⟨q, o, none⟩ u).heap[b]? = W.heap[b]? from Below.heap_setCell _ _ _ _ (by dsimp only; omega)]; exact h
end
theorem wp_region_anyD {P : Program} {id : Nat} {Q : Exit → Act → World → Prop} {a : Act} {w : World} {ops : Array Oper} (hm : P.follows .mixedOrders = true) (C : World → Prop)
    (h : wpAnyC P .any ops (CG C) Q ops.size (Array.replicate ops.size false) a w.drew) : (Code.region id ops true).wp P Q a w :=
  wp_region_any hm (wpAnyC.any _ _ _ _ h)
theorem genCd {P : Program} {md : Region.Mode} {ops : Array Oper} {C : World → Prop} {Q : Exit → Act → World → Prop} {fuel : Nat} {listed : Array Bool} {a : Act} {w : World} (F : World → Prop) (hF : F w) (h : ∀ w', F w' → wpAnyC P md ops C Q fuel listed a w') : wpAnyC P md ops C Q fuel listed a w := h w hF
theorem as_stop (v : Value) (w : World) : (Instr.typeAssert (.iface 41 v) 20 41 false).run Tryd.prog w = .ok v w := by kernel_rfl
set_option maxRecDepth 100000 in
theorem door_panicking (B b2 b3 b4 : Nat) (w0 : World) (r : RN) (er at' : Int) (e j : Nat) (older : List PanicEntry) (w : World) (h : PB B b2 b3 b4 w0 r er at' w) :
    CallsD Tryd.prog 14 #[.pointer (some ⟨b2, 0, none⟩), .pointer (some ⟨b3, 0, none⟩), .pointer (some ⟨b4, 0, none⟩)] (.panicking ({ v := .iface 41 (.agg #[.int .i64 (e : Int), .int .i64 (j : Int)]), recovered := false } :: older)) w fun e' u' w' =>
      e' = .returned (.tuple #[]) ∧ u' = .panicking ({ v := .iface 41 (.agg #[.int .i64 (e : Int), .int .i64 (j : Int)]), recovered := true } :: older) ∧ PB B b2 b3 b4 w0 reZ e j w' := by
  refine callsD_of_wpS Tryd.func14 rfl fun c₀ cs hu => ?_
  apply wpS_seq
  apply wpS_region
  simp [wpOpsS, go_sem, recoverD, hu, Tryd.ntmps14, Exit.thenS]
  refine wpS_of_wp ?_
  have H := Lib.hid h
  clear h hu
  obtain ⟨V, hV⟩ : ∃ V, V = Value.iface 41 (.agg #[.int .i64 (e : Int), .int .i64 (j : Int)]) := ⟨_, rfl⟩
  have ha : (#[Value.pointer (some ⟨b2, 0, none⟩), .pointer (some ⟨b3, 0, none⟩), .pointer (some ⟨b4, 0, none⟩)] ++ ((Array.replicate 12 undef).setIfInBounds 2 V).setIfInBounds 0 V) = #[Value.pointer (some ⟨b2, 0, none⟩), .pointer (some ⟨b3, 0, none⟩), .pointer (some ⟨b4, 0, none⟩), V, undef, V, undef, undef, undef, undef, undef, undef, undef, undef, undef] := rfl
  rw [hV] at ha
  rw [ha]
  clear ha hV V
  have has := fun v w => as_stop v w
  repeat' (first | go_values | go_skip | go_guarded | go_step | go_upon)
  have hk := (Below.refl w.heap.size w).alloc (Nat.le_refl _) (.cells #[.int .i64 (e : Int), .int .i64 (j : Int)] 41)
  have HP := Lib.hid (H.out.keep hk)
  have HS : Hid (SB (w.alloc (.cells #[.int .i64 (e : Int), .int .i64 (j : Int)] 41)) w.heap.size e j) := Lib.hid (Go.heap_alloc_new _ _)
  have hlt : b4 < w.heap.size ∧ b2 < b3 ∧ b3 < b4 := ⟨H.out.a.lt, H.out.lt.2.1, H.out.lt.2.2⟩
  clear hk H has
  generalize w.alloc (.cells #[.int .i64 (e : Int), .int .i64 (j : Int)] 41) = w5 at HP HS ⊢
  generalize w.heap.size = b5 at HS hlt ⊢
  obtain ⟨C, hC⟩ : ∃ C : World → Prop, C = fun W => SB W b5 e j := ⟨_, rfl⟩
  have Hmk : Hid (∀ W, SB W b5 e j → C W) := Lib.hid (fun W h => by rw [hC]; exact h)
  have hC' : ∀ W, C W → SB W b5 e j := fun W h => by rw [hC] at h; exact h
  have q0 : ∀ nq : GW C, nq.1.cell? ⟨b5, 0, none⟩ = some (.int .i64 (e : Int)) := fun nq => (hC' _ nq.2).c0
  have q1 : ∀ nq : GW C, nq.1.cell? ⟨b5, 1, none⟩ = some (.int .i64 (j : Int)) := fun nq => (hC' _ nq.2).c1
  clear hC hC'
  refine wp_region_anyD (by kernel_rfl) C ?_
  refine wpAnyC_take (i := 0) (v := _) rfl (by kernel_rfl) (by kernel_rfl) (by kernel_rfl) (fun _ _ _ h => h) (Or.inl ⟨by rfl, fun w ⟨nq, hw⟩ => by (subst hw; go_simp <;> with_reducible rfl)⟩) (by go_simp <;> with_reducible rfl) ?_
  refine wpAnyC_take (i := 1) (v := _) rfl (by kernel_rfl) (by kernel_rfl) (by kernel_rfl) (fun _ _ _ h => h) (Or.inl ⟨by rfl, fun w ⟨nq, hw⟩ => by (subst hw; go_simp <;> with_reducible rfl)⟩) (by go_simp <;> with_reducible rfl) ?_
  refine wpAnyC_take (i := 2) (v := _) rfl (by kernel_rfl) (by kernel_rfl) (by kernel_rfl) (fun _ _ _ h => h) (Or.inl ⟨by rfl, fun w ⟨nq, hw⟩ => by (subst hw; go_simp <;> with_reducible rfl)⟩) (by go_simp <;> with_reducible rfl) ?_
  refine wpAnyC_take (i := 3) (v := _) rfl (by kernel_rfl) (by kernel_rfl) (by kernel_rfl) (fun _ _ _ h => h) (Or.inl ⟨by rfl, fun w ⟨nq, hw⟩ => by (subst hw; go_simp <;> with_reducible rfl)⟩) (by go_simp <;> with_reducible rfl) ?_
  refine wpAnyC_take (i := 4) (v := _) rfl (by kernel_rfl) (by kernel_rfl) (by kernel_rfl) (fun _ _ _ h => h) (Or.inl ⟨by rfl, fun w ⟨nq, hw⟩ => by (subst hw; go_simp <;> with_reducible rfl)⟩) (by go_simp <;> with_reducible rfl) ?_
  refine genCd (fun W => PB B b2 b3 b4 w0 r er at' W ∧ SB W b5 e j) ⟨HP.out.keep (Below.refl _ _).drew, HS.out⟩ ?_
  clear q0 q1 HP HS
  intro W0 ⟨hp, hs⟩
  refine wpAnyC_ready (CG.of (Hmk.out _ hs)) (rs := [5]) (by kernel_rfl) (by simp) ?_
  refine (AllReadyC.cons rfl (fun K hK => ?_) AllReadyC.nil)
  refine step_of rfl (store_box hp.r reZ rfl _ _ rfl rfl rfl ?_)
  refine hK _ _ ?_
  clear hK K
  refine genCd (fun W => PB B b2 b3 b4 w0 reZ er at' W ∧ SB W b5 e j) ⟨hp.setR reZ, hs.row (by omega)⟩ ?_
  clear hp hs W0
  intro W0 ⟨hp, hs⟩
  have d1 := hp.e.cell
  have f1 := hp.e.free 0
  refine wpAnyC_ready (CG.of (Hmk.out _ hs)) (rs := [6]) (by kernel_rfl) (by simp) ?_
  refine (AllReadyC.cons rfl (fun K hK => ?_) AllReadyC.nil)
  go_simp
  refine hK _ _ ?_
  clear hK K
  refine genCd (fun W => PB B b2 b3 b4 w0 reZ e at' W ∧ SB W b5 e j) ⟨hp.setE e, hs.other (by omega)⟩ ?_
  clear d1 f1 hp hs W0
  intro W0 ⟨hp, hs⟩
  have d1 := hp.a.cell
  have f1 := hp.a.free 0
  refine wpAnyC_ready (CG.of (Hmk.out _ hs)) (rs := [7]) (by kernel_rfl) (by simp) ?_
  refine (AllReadyC.cons rfl (fun K hK => ?_) AllReadyC.nil)
  go_simp
  refine hK _ _ ?_
  clear hK K
  refine genCd (fun W => PB B b2 b3 b4 w0 reZ e j W ∧ SB W b5 e j) ⟨hp.setA j, hs.other (by omega)⟩ ?_
  clear d1 f1 hp hs W0
  intro W0 ⟨hp, hs⟩
  refine wpAnyC_done (by kernel_rfl) (CG.of (Hmk.out _ hs)) (by go_simp <;> with_reducible rfl) ?_
  have HP := Lib.hid hp
  clear hp hs
  repeat' (first | go_values | go_skip | go_guarded | go_step | go_upon)
  exact ⟨rfl, _, rfl, .tuple #[], results_none rfl _ _ _, rfl, rfl, HP.out⟩
set_option maxRecDepth 100000 in
theorem door_idle (p2 p3 p4 : Value) (w : World) :
    CallsD Tryd.prog 14 #[p2, p3, p4] .returning w fun e' u' w' => e' = .returned (.tuple #[]) ∧ u' = .returning ∧ w' = w := by
  refine callsD_of_wpS Tryd.func14 rfl fun c₀ cs hu => ?_
  apply wpS_seq
  apply wpS_region
  simp [wpOpsS, go_sem, recoverD, hu, Tryd.ntmps14, Exit.thenS]
  refine wpS_of_wp ?_
  have ha : (#[p2, p3, p4] ++ ((Array.replicate 12 undef).setIfInBounds 2 Value.nilIface).setIfInBounds 0 Value.nilIface) = #[p2, p3, p4, Value.nilIface, undef, Value.nilIface, undef, undef, undef, undef, undef, undef, undef, undef, undef] := rfl
  rw [ha]
  clear ha
  repeat' (first | go_values | go_skip | go_guarded | go_step | go_upon)
  refine ⟨rfl, .returning, ?_, .tuple #[], results_none rfl _ _ _, rfl, rfl, rfl⟩
  rw [← hu]
end Go.Proofs.YtnbfifmnigeolaaDoor
namespace Go.Proofs.YtnbfifmnigeolaaDoor
open Go.RowKit Go.Lib
theorem dep_eq : ∀ {h h' : Nat} {w w' : World} {r r' : RN} {t : Re}, ReAt w h r t → ReAt w' h' r' t → dep h t = dep h' t
  | 0, _, _, _, _, _, _, h, _ => h.elim
  | _ + 1, 0, _, _, _, _, _, _, h => h.elim
  | h + 1, h' + 1, w, w', r, r', .mk k s mn mx kids, hr, hr' => by
    obtain ⟨_, _, _, rs, _, hl, hk⟩ := hr
    obtain ⟨_, _, _, rs', _, hl', hk'⟩ := hr'
    have e : kids.map (dep h) = kids.map (dep h') := by
      apply List.map_congr_left
      intro u hu
      obtain ⟨i, hi⟩ := List.getElem?_of_mem hu
      have hlt := (List.getElem?_eq_some_iff.1 hi).1
      exact dep_eq (hk i _ u (List.getElem?_eq_getElem (by omega)) hi) (hk' i _ u (List.getElem?_eq_getElem (by omega)) hi)
    rw [dep, dep]
    show 1 + mxl (kids.map (dep h)) = 1 + mxl (kids.map (dep h'))
    rw [e]
/-- what Parse tells of a text -/
def ParsP (s : List UInt8) (r : RN) (er at' : Int) (w : World) : Prop :=
  match prsA s with
  | .bad e0 j => er = e0 ∧ at' = j ∧ r = reZ
  | .ok t _ => at' = 0 ∧ ((er = 0 ∧ ∃ h, ReAt w h r t ∧ dep h t ≤ 30) ∨ (er = 2 ∧ r = reZ ∧ ∃ h w0 r0, ReAt w0 h r0 t ∧ 30 < dep h t))
  | .out => False
theorem PB.start (w : World) : PB w.heap.size w.heap.size (w.heap.size + 1) (w.heap.size + 1 + 1) w reZ 0 0 (((w.alloc (.cells #[.int .i64 0, .int .u64 0, .int .u64 0, .int .u64 0, .int .u64 0, .int .i64 0, .int .i64 0, .slice none 0 0] 28)).alloc (.cells #[.int .i64 0] 29)).alloc (.cells #[.int .i64 0] 3)) := by
  have k1 := (Below.refl _ w).alloc (Nat.le_refl _) (.cells #[.int .i64 0, .int .u64 0, .int .u64 0, .int .u64 0, .int .u64 0, .int .i64 0, .int .i64 0, .slice none 0 0] 28)
  have k2 := (Below.refl _ (w.alloc (.cells #[.int .i64 0, .int .u64 0, .int .u64 0, .int .u64 0, .int .u64 0, .int .i64 0, .int .i64 0, .slice none 0 0] 28))).alloc (Nat.le_refl _) (.cells #[.int .i64 0] 29)
  have k3 := (Below.refl _ ((w.alloc (.cells #[.int .i64 0, .int .u64 0, .int .u64 0, .int .u64 0, .int .u64 0, .int .i64 0, .int .i64 0, .slice none 0 0] 28)).alloc (.cells #[.int .i64 0] 29))).alloc (Nat.le_refl _) (.cells #[.int .i64 0] 3)
  refine ⟨((ReBox.zero w).keep k2).keep k3, ?_, ?_, k1.trans ((k2.trans (k3.mono k2.size)).mono k1.size), by omega⟩
  · have h := IB.new (w.alloc (.cells #[.int .i64 0, .int .u64 0, .int .u64 0, .int .u64 0, .int .u64 0, .int .i64 0, .int .i64 0, .slice none 0 0] 28)) 29
    rw [World.size_alloc] at h
    exact h.keep k3
  · have h := IB.new ((w.alloc (.cells #[.int .i64 0, .int .u64 0, .int .u64 0, .int .u64 0, .int .u64 0, .int .i64 0, .int .i64 0, .slice none 0 0] 28)).alloc (.cells #[.int .i64 0] 29)) 3
    rw [World.size_alloc, World.size_alloc] at h
    exact h
theorem mkf (fn : Fn) (first cap : Array Value) (w : World) : (Instr.makeFunc fn first cap).run Tryd.prog w = .ok (.func fn first cap) w := rfl
theorem PB.res {B b2 b3 b4 : Nat} {w0 W : World} {r : RN} {er at' : Int} (h : PB B b2 b3 b4 w0 r er at' W) {fn : Func} {p2 p3 p4 : Tmp} (hf : fn.results = #[.cell p2 28, .cell p3 29, .cell p4 3]) (tmps : Array Value)
    (h2 : tmps.getD p2 undef = .pointer (some ⟨b2, 0, none⟩)) (h3 : tmps.getD p3 undef = .pointer (some ⟨b3, 0, none⟩)) (h4 : tmps.getD p4 undef = .pointer (some ⟨b4, 0, none⟩)) : (results fn tmps).run Tryd.prog W = .ok (.tuple #[reV r, .int .i64 er, .int .i64 at']) W := by
  have h2' : tmps[p2]?.getD undef = .pointer (some ⟨b2, 0, none⟩) := by simpa using h2
  have h3' : tmps[p3]?.getD undef = .pointer (some ⟨b3, 0, none⟩) := by simpa using h3
  have h4' : tmps[p4]?.getD undef = .pointer (some ⟨b4, 0, none⟩) := by simpa using h4
  have e1 := run_loadVar_row W b2 28 28 (reC r).toArray (0, 0) _ h.r Tryd.underlying28 rfl info_re
  have c3 := h.e.cell
  have c4 := h.a.cell
  have e3 : (loadVar 29 ⟨b3, 0, none⟩).run Tryd.prog W = .ok (.int .i64 er) W := by simp [go_sem, c3]
  have e4 : (loadVar 3 ⟨b4, 0, none⟩).run Tryd.prog W = .ok (.int .i64 at') W := by simp [go_sem, c4]
  simp [results, hf, h2', h3', h4', asAddr, e1, e3, e4, reV]
theorem PB.els {B b2 b3 b4 g : Nat} {w0 W W' : World} {r : RN} {er at' : Int} (h : PB B b2 b3 b4 w0 r er at' W) (he : Else g W W') (hg : b4 < g) : PB B b2 b3 b4 w0 r er at' W' :=
  ⟨h.r.els he (by have := h.lt; omega), h.e.els he (by have := h.lt; omega), h.a.els he (by have := h.lt; omega), ⟨he.os.trans h.bel.os, he.tape.trans h.bel.tape, he.output.trans h.bel.output, Nat.le_trans h.bel.size he.size, fun k hk => (he.block k (by have := h.r.lt; have := h.lt; omega) (by have := h.lt; omega)).trans (h.bel.block k hk)⟩, h.lt⟩
theorem ReX.row {B p q : Nat} {W : World} {r : RN} {t : Re} {cs : Array Value} (h : ReX B p W r t) (hq : q < B) : ReX B p (W.setRow q cs) r t := h.keep (fun k hk _ _ => setRow_other _ _ _ _ (by omega)) (by simp)
theorem ReX.cell {B p q o : Nat} {W : World} {r : RN} {t : Re} {u : Value} (h : ReX B p W r t) (hq : q < B) : ReX B p (W.setCell ⟨q, o, none⟩ u) r t := h.keep (fun k hk _ _ => Below.heap_setCell _ _ _ _ (by dsimp only; omega)) (by simp [World.setCell])
set_option maxRecDepth 100000 in
set_option maxHeartbeats 4000000 in
theorem rx_parse (S : ByteArray) (w : World) :
    Calls Tryd.prog 7 #[.string S] w fun e w' => ∃ r er at', e = .returned (.tuple #[reV r, .int .i64 er, .int .i64 at']) ∧ Below w.heap.size w w' ∧ ParsP S.data.toList r er at' w' := by
  have hmf := mkf
  have HP := Lib.hid (PB.start w)
  obtain ⟨X, hX⟩ : ∃ X, prsA S.data.toList = X := ⟨_, rfl⟩
  unfold ParsP
  rw [hX]
  unfold prsA at hX
  rw [ba_len] at hX
  by_cases hl : 512 < S.size
  · rw [if_pos hl] at hX
    have hl' : (S.size : Int) > 512 := by omega
    subst hX
    clear hl
    go_enter_defers Tryd.func7, Tryd.ntmps7
    repeat' (go_not_at_region 1; first | go_values | go_skip | go_guarded | go_step | go_upon)
    generalize hb4 : w.heap.size + 1 + 1 = b4 at HP ⊢
    generalize hb3 : w.heap.size + 1 = b3 at HP ⊢
    generalize hb2 : w.heap.size = b2 at HP ⊢
    refine gen_wd (fun W => PB b2 b2 b3 b4 w reZ 0 0 W) HP.out ?_
    clear HP hb4 hb3
    rintro w1 hp
    have HP := Lib.hid hp
    have HZ := Lib.hid hb2
    clear hp hb2
    repeat' (go_not_at_region 2; first | go_values | go_skip | go_guarded | go_step | go_upon)
    have HP1 := Lib.hid (HP.out.setR reZ)
    have c3 := HP1.out.e.cell
    have f3 := HP1.out.e.free 0
    have HP2 := Lib.hid (HP1.out.setE 2)
    have c4 := HP2.out.a.cell
    have f4 := HP2.out.a.free 0
    have HP3 := Lib.hid (HP2.out.setA 0)
    repeat' (first | (refine store_box HP.out.r reZ rfl _ _ rfl rfl rfl ?_; dsimp only [Act.put]) | go_values | go_skip | go_guarded | go_step | go_upon)
    exact ⟨_, HP3.out.res rfl _ rfl rfl rfl, _, _, _, rfl, by rw [HZ.out]; exact HP3.out.bel, rfl, rfl, rfl⟩
  · rw [if_neg hl] at hX
    have hl' : ¬ (S.size : Int) > 512 := by omega
    have hS : S.size ≤ 512 := by omega
    have hout := prs_out (s := S.data.toList) 4200 .alt 0 0 (Nat.zero_le _) (by rw [ba_len]; simp only [Tk.need]; omega)
    have hin := prs_in (s := S.data.toList) 4200 .alt 0 0 (Nat.zero_le _)
    have hall := fun g => (ps_all g S hS 4200 4200 (Nat.le_refl _)).1 0 0
    clear hl
    go_enter_defers Tryd.func7, Tryd.ntmps7
    repeat' (go_not_at_region 1; first | go_values | go_skip | go_guarded | go_step | go_upon)
    generalize hb4 : w.heap.size + 1 + 1 = b4 at HP ⊢
    generalize hb3 : w.heap.size + 1 = b3 at HP ⊢
    generalize hb2 : w.heap.size = b2 at HP ⊢
    refine gen_wd (fun W => PB b2 b2 b3 b4 w reZ 0 0 W) HP.out ?_
    clear HP hb4 hb3
    rintro w1 hp
    have HP := Lib.hid hp
    have HZ := Lib.hid hb2
    clear hp hb2
    repeat' (go_not_at_region 4; first | go_values | go_skip | go_guarded | go_step | go_upon)
    have hgl : b4 < w1.heap.size := HP.out.a.lt
    have HQ : Hid (PsAt (w1.alloc (.cells #[.string S, .int .i64 0, .int .i64 0] 44)) w1.heap.size S 0 0) := Lib.hid (PsAt.new w1 S)
    have HP := Lib.hid (HP.out.keep ((Below.refl _ w1).alloc (Nat.le_refl _) (.cells #[.string S, .int .i64 0, .int .i64 0] 44)))
    have hc := hall w1.heap.size _ (Nat.zero_le _) (by omega) HQ.out hout
    repeat' (first | go_values | go_skip | go_guarded | go_step | go_upon)
    clear hall HQ
    cases hY : prs S.data.toList 4200 .alt 0 0 with
    | out => exact absurd hY hout
    | bad e0 j =>
      rw [hY] at hc hX
      subst hX
      refine Calls.mono hc ?_
      rintro _ wy ⟨rfl, he⟩
      have HP2 := HP.out.els he hgl
      refine leaves_cons (f := 14) (args := #[.pointer (some ⟨b2, 0, none⟩), .pointer (some ⟨b3, 0, none⟩), .pointer (some ⟨b4, 0, none⟩)]) (by simp) (by simp [go_sem]) ?_
      refine (door_panicking b2 b2 b3 b4 w reZ 0 0 e0 j [] wy HP2).mono ?_
      rintro e u' w'' ⟨rfl, rfl, hp⟩
      exact ⟨_, hp.res rfl _ rfl rfl rfl, _, _, _, rfl, by rw [HZ.out]; exact hp.bel, rfl, rfl, rfl⟩
    | ok t j =>
      rw [hY] at hc hX hin
      dsimp only at hX
      have hjS := hin.2
      rw [ba_len] at hjS
      clear hout hin hY
      refine Calls.mono (hc) ?_
      rintro _ w2 ⟨⟨r, rfl, hx⟩, hp, he⟩
      dsimp only
      have HP2 := Lib.hid (HP.out.els he hgl)
      have hone := hx.one
      have hgz : b4 < w1.heap.size ∧ b2 < w1.heap.size ∧ b3 < w1.heap.size ∧ b2 < b3 ∧ b3 < b4 := by have := HP.out.lt; omega
      have HXr := Lib.hid ((hx.mono (B' := w1.heap.size) (by simp)).row (q := b2) (cs := (reC r).toArray) hgz.2.1)
      have HS := Lib.hid (hp.row (q := b2) (cs := (reC r).toArray) (by omega))
      have HP3 := Lib.hid (HP2.out.setR r)
      clear hc hx hp he HP
      have c0 := HS.out.c0
      have c1 := HS.out.c1
      by_cases hjn : j < S.size
      · rw [if_pos hjn] at hX
        subst hX
        have hjn' : (j : Int) < S.size := by omega
        repeat' (first | (refine store_box HP2.out.r r hone _ _ rfl rfl rfl ?_; dsimp only [Act.put]) | go_values | go_skip | go_guarded | go_step | go_upon)
        have hf := ps_fail w1.heap.size S j 0 _ HS.out
        refine Calls.mono hf ?_
        rintro _ wy ⟨rfl, rfl⟩
        refine leaves_cons (f := 14) (args := #[.pointer (some ⟨b2, 0, none⟩), .pointer (some ⟨b3, 0, none⟩), .pointer (some ⟨b4, 0, none⟩)]) (by simp) (by simp [go_sem]) ?_
        refine (door_panicking b2 b2 b3 b4 w r 0 0 60 j [] _ HP3.out).mono ?_
        rintro e u' w'' ⟨rfl, rfl, hp⟩
        exact ⟨_, hp.res rfl _ rfl rfl rfl, _, _, _, rfl, by rw [HZ.out]; exact hp.bel, rfl, rfl, rfl⟩
      · rw [if_neg hjn] at hX
        subst hX
        have hjn' : ¬ (j : Int) < S.size := by omega
        obtain ⟨n, hn⟩ := HXr.out.at'
        have hdeep := regex_deep n r t 30 _ (by omega) hn
        have HP2b := HP2
        repeat' (first | (refine store_box HP2.out.r r hone _ _ rfl rfl rfl ?_; dsimp only [Act.put]) | (with_reducible refine load_box HP3.out.r _ rfl rfl ?_; dsimp only [Act.put]) | go_values | go_skip | go_guarded | go_step | go_upon)
        refine Calls.mono (hdeep) ?_
        rintro _ w4 ⟨rfl, hb4⟩
        dsimp only
        have HP := Lib.hid (HP3.out.keep hb4)
        have Hn := Lib.hid (hn.keep hb4)
        have HXr := Lib.hid (HXr.out.keepB hb4 (Nat.le_refl _))
        clear hdeep hb4 HP2 HP2b HP3 c0 c1 HS hn
        by_cases hdp : 30 < dep n t
        · have hdb : decide (30 < dep n t) = true := decide_eq_true hdp
          have HP1 := Lib.hid (HP.out.setR reZ)
          have c3 := HP1.out.e.cell
          have f3 := HP1.out.e.free 0
          have HP2 := Lib.hid (HP1.out.setE 2)
          have c4 := HP2.out.a.cell
          have f4 := HP2.out.a.free 0
          have HP3 := Lib.hid (HP2.out.setA 0)
          repeat' (first | (refine store_box HP.out.r reZ rfl _ _ rfl rfl rfl ?_; dsimp only [Act.put]) | go_values | go_skip | go_guarded | go_step | go_upon)
          refine leaves_cons (f := 14) (args := #[.pointer (some ⟨b2, 0, none⟩), .pointer (some ⟨b3, 0, none⟩), .pointer (some ⟨b4, 0, none⟩)]) (by simp) (by simp [go_sem]) ?_
          refine (door_idle _ _ _ _).mono ?_
          rintro e u' w'' ⟨rfl, rfl, rfl⟩
          exact ⟨_, HP3.out.res rfl _ rfl rfl rfl, _, _, _, rfl, by rw [HZ.out]; exact HP3.out.bel, rfl, .inr ⟨rfl, rfl, n, _, _, Hn.out, hdp⟩⟩
        · have hdb : decide (30 < dep n t) = false := decide_eq_false hdp
          have HP1 := Lib.hid (HP.out.setR r)
          have c3 := HP1.out.e.cell
          have f3 := HP1.out.e.free 0
          have HP2 := Lib.hid (HP1.out.setE 0)
          have c4 := HP2.out.a.cell
          have f4 := HP2.out.a.free 0
          have HP3 := Lib.hid (HP2.out.setA 0)
          have HX3 := Lib.hid (((HXr.out.row (q := b2) (cs := (reC r).toArray) hgz.2.1).cell (q := b3) (o := 0) (u := .int .i64 0) hgz.2.2.1).cell (q := b4) (o := 0) (u := .int .i64 0) hgz.1)
          repeat' (first | (with_reducible refine load_box HP.out.r _ rfl rfl ?_; dsimp only [Act.put]) | (refine store_box HP.out.r r hone _ _ rfl rfl rfl ?_; dsimp only [Act.put]) | go_values | go_skip | go_guarded | go_step | go_upon)
          refine leaves_cons (f := 14) (args := #[.pointer (some ⟨b2, 0, none⟩), .pointer (some ⟨b3, 0, none⟩), .pointer (some ⟨b4, 0, none⟩)]) (by simp) (by simp [go_sem]) ?_
          refine (door_idle _ _ _ _).mono ?_
          rintro e u' w'' ⟨rfl, rfl, rfl⟩
          obtain ⟨m, hm⟩ := HX3.out.at'
          exact ⟨_, HP3.out.res rfl _ rfl rfl rfl, _, _, _, rfl, by rw [HZ.out]; exact HP3.out.bel, rfl, .inl ⟨rfl, m, hm, by rw [dep_eq hm Hn.out]; omega⟩⟩
end Go.Proofs.YtnbfifmnigeolaaDoor
