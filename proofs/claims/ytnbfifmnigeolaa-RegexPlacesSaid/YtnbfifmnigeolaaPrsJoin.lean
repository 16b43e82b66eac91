/- Walk: a node of several (join). Conditions: at most 100000 nodes. -/
import Derived.Test.YtnbfifmnigeolaaPrsTree
import Derived.Test.YtnbfifmnigeolaaPrsSize
namespace Go.Proofs.Ytnbfifmnigeolaa
open Go.RowKit Go.Lib
def Zp (B g : Nat) (w : World) (ks : List RN) (ts : List Re) : Prop := ks.length = ts.length ∧ ∀ (i : Nat) r t, ks[i]? = some r → ts[i]? = some t → ReX B g w r t
theorem Zp.append {B g : Nat} {w : World} {ks ks2 : List RN} {ts ts2 : List Re} (h : Zp B g w ks ts) (h2 : Zp B g w ks2 ts2) : Zp B g w (ks ++ ks2) (ts ++ ts2) := by
  refine ⟨by rw [List.length_append, List.length_append, h.1, h2.1], fun i r t hr ht => ?_⟩
  by_cases hi : i < ks.length
  · rw [List.getElem?_append_left hi] at hr
    rw [List.getElem?_append_left (by rw [← h.1]; exact hi)] at ht
    exact h.2 i r t hr ht
  · rw [List.getElem?_append_right (by omega)] at hr
    rw [List.getElem?_append_right (by rw [← h.1]; omega), ← h.1] at ht
    exact h2.2 _ r t hr ht
theorem Zp.one {B g : Nat} {w : World} {r : RN} {t : Re} (h : ReX B g w r t) : Zp B g w [r] [t] := ⟨rfl, fun i r' t' hr ht => by
  have hi : i = 0 := by have := (List.getElem?_eq_some_iff.1 hr).1; simpa using this
  subst hi
  simp only [List.getElem?_cons_zero, Option.some.injEq] at hr ht
  subst hr ht; exact h⟩
theorem ReX.open {B p : Nat} {w : World} {r : RN} {t : Re} (h : ReX B p w r t) : ∃ rs, RowOf reC 8 w r.v rs ∧ Zp B p w rs t.kidsP ∧ ∀ y, y ∈ rs → ∀ u ∈ reC y, u.oneCell' = true := by
  cases h with
  | mk _ kids rs hI hk hrow hb hl hs =>
    refine ⟨rs, hrow, ⟨hl, hs⟩, fun y hy => ?_⟩
    obtain ⟨i, hi⟩ := List.getElem?_of_mem hy
    have hlt : i < kids.length := by rw [← hl]; exact (List.getElem?_eq_some_iff.1 hi).1
    exact reC_oneAll (hs i y _ hi (List.getElem?_eq_getElem hlt)).one
/-- the world within the loop of 'join' -/
structure JW (w : World) (Z : Nat) (W : World) : Prop where
  bel : Below Z w W
  box : ReBox W Z reZ
  sz : Z < W.heap.size
theorem JW.keep {w W W' : World} {Z : Nat} (h : JW w Z W) (hb : Below W.heap.size W W') : JW w Z W' := ⟨h.bel.trans (hb.mono (Nat.le_of_lt h.sz)), h.box.keep hb, Nat.lt_of_lt_of_le h.sz hb.size⟩
theorem JW.grow {w W W' : World} {Z : Nat} {v : Option Nat} (h : JW w Z W) (hg : W.grownBy W' v) (hv : ∀ k, v = some k → Z + 1 ≤ k) : JW w Z W' :=
  ⟨h.bel.trans ((Below.refl _ _).grown hg (Nat.le_of_lt h.sz) fun k hk => by have := hv k hk; omega), by
    unfold ReBox; rw [hg.block Z h.sz (fun e => by have := hv Z e.symm; omega)]; exact h.box, Nat.lt_of_lt_of_le h.sz hg.size⟩
set_option maxRecDepth 100000 in
set_option maxHeartbeats 4000000 in
theorem re_join (kind : Int) (hkI : I64 kind) (B g : Nat) (v : Value) (rs : List RN) (l : List Re) (w : World) (hrow : RowOf reC 8 w v rs) (hx : Zp B g w rs l) (hB : B ≤ w.heap.size) (hg : g < B) (hsz : Re.szL l ≤ 100000) :
    Calls Try.prog 14 #[.int .i64 kind, v] w fun e w' => ∃ r, e = .returned (reV r) ∧ ReX B g w' r (joinT kind l) ∧ Below w.heap.size w w' := by
  obtain ⟨a, cap, hv, _, _, hc⟩ := hrow.open reC_length
  subst hv
  obtain ⟨n, hn⟩ : ∃ n, rs.length = n := ⟨_, rfl⟩
  have hnl : n ≤ 100000 := by rw [← hn, hx.1]; exact Nat.le_trans (szL_len l) hsz
  have HX := Lib.hid hx
  have HN := Lib.hid hn
  have HF := Lib.hid (fun k => Nat.le_trans (szL_len _) (Nat.le_trans (flatT_le kind (l.take k)) (Nat.le_trans (by
    have := szL_append (l.take k) (l.drop k); rw [List.take_append_drop] at this; omega) hsz)))
  have HG := Lib.hid hg
  have HBz := Lib.hid hB
  rw [hn] at hc ⊢
  clear hx hn hsz hrow hg hB
  have HJ : Hid (JW w w.heap.size (w.alloc (.cells #[.int .i64 0, .int .u64 0, .int .u64 0, .int .u64 0, .int .u64 0, .int .i64 0, .int .i64 0, .slice none 0 0] 29))) := Lib.hid ⟨(Below.refl _ _).alloc (Nat.le_refl _) _, ReBox.zero w, by simp⟩
  go_enter Try.func14, Try.ntmps14
  repeat' (go_not_at_region 1; first | go_values | go_skip | go_guarded | go_step | go_upon)
  generalize hZ : w.heap.size = Z at HJ hc HBz ⊢
  refine gen_wd (fun W => JW w Z W) HJ.out ?_
  clear HJ
  rintro w1 hj
  have HJ1 := Lib.hid hj
  have HZ := Lib.hid hZ
  clear hj hZ
  repeat' (first | go_values | go_skip | go_guarded | go_step | go_upon)
  go_loopg [5, 10] n (fun gk s5 s10 wr => ∃ (k : Nat) (ks : List RN), s10 = .int .i64 k ∧ k + gk = n ∧ Hid (OwnR reC 8 (Z + 1) 29 wr s5 ks) ∧ Hid (Zp B g w ks (flatT kind (l.take k))) ∧ Hid (JW w Z wr))
  case atStart => exact ⟨0, [], rfl, by omega, Lib.hid OwnR.nil, Lib.hid ⟨rfl, fun i r t h => by simp at h⟩, HJ1⟩
  case round =>
    clear HJ1
    obtain ⟨k, ks, rfl, hkn, HO, HK, HJ⟩ := hrel
    have hown := HO.out
    have hwB : Z + 1 ≤ wr.heap.size := HJ.out.sz
    have hks : ks.length ≤ 100000 := by rw [HK.out.1]; exact HF.out k
    by_cases hlt : k < n
    · have hlt' : (k : Int) < n := by omega
      rcases hc with hc | ⟨b, off, rfl, hb, hc⟩
      · omega
      obtain ⟨r, hr⟩ : ∃ r, rs[k]? = some r := ⟨_, List.getElem?_eq_getElem (by rw [HN.out]; exact hlt)⟩
      obtain ⟨t, ht⟩ : ∃ t, l[k]? = some t := ⟨_, List.getElem?_eq_getElem (by rw [← HX.out.1, HN.out]; exact hlt)⟩
      have hxr := HX.out.2 k r t hr ht
      have hbZ : b < Z := by have := HZ.out; omega
      obtain ⟨c0, c1, c2, c3, c4, c5, c6, c7⟩ := (row_load hc hr).keep HJ.out.bel hbZ
      have hone := hxr.one
      have HKr := Lib.hid (hxr.kindIs)
      have Htk : Hid (flatT kind (l.take (k + 1)) = flatT kind (l.take k) ++ (if t.kindP = kind then t.kidsP else [t])) := Lib.hid (by
        rw [List.take_add_one, ht]; exact flatT_snoc kind _ t)
      have HXr := Lib.hid hxr
      have Hlen := Lib.hid (HF.out (k + 1))
      have HJb : Hid (JW w Z (wr.alloc (.cells (reC r).toArray 29))) := Lib.hid (HJ.out.keep ((Below.refl _ _).alloc (Nat.le_refl _) _))
      have HOb : Hid (OwnR reC 8 (Z + 1) 29 (wr.alloc (.cells (reC r).toArray 29)) u5 ks) := Lib.hid (hown.keep ((Below.refl _ _).alloc (Nat.le_refl _) _) (Nat.le_refl _))
      clear hc hxr hown
      repeat' (go_not_at_region 5; first | (refine store_re (r := r) hone _ _ rfl rfl rfl rfl ?_; dsimp only [Act.put]) | go_values | go_skip | go_guarded | go_step | go_upon)
      have HB7 : Hid (ReBox (wr.alloc (.cells (reC r).toArray 29)) wr.heap.size r) := Lib.hid (ReBox.new wr r)
      clear HO HJ c0 c1 c2 c3 c4 c5 c6 c7 hwB hr ht hb hbZ
      generalize hb7 : wr.heap.size = b7 at HB7 ⊢
      refine gen_wd (fun W => JW w Z W ∧ OwnR reC 8 (Z + 1) 29 W u5 ks ∧ ReBox W b7 r) ⟨HJb.out, HOb.out, HB7.out⟩ ?_
      clear HJb HOb HB7 hb7
      rintro wb ⟨hj, ho, hb7⟩
      have HJ := Lib.hid hj
      have hown := ho
      have hwB : Z + 1 ≤ wb.heap.size := hj.sz
      have HB := Lib.hid hb7
      have d0 : wb.cell? ⟨b7, 0, none⟩ = some (.int .i64 r.k) := by rw [cell_of_row _ _ _ _ _ _ hb7]; rfl
      have d7 : wb.cell? ⟨b7, 7, none⟩ = some r.v := by rw [cell_of_row _ _ _ _ _ _ hb7]; rfl
      have hbel : Hid (Below w.heap.size w wb) := Lib.hid (by rw [HZ.out]; exact hj.bel)
      clear hj ho hb7
      have hown2 := fun q (hq : u5.ownBlock = some q) => (hown.below hq).1
      have HW2 := Lib.hid hown2
      clear hown2
      by_cases hk : r.k = kind
      · have hq : (r.k == kind) = true := by rw [beq_iff_eq]; exact hk
        obtain ⟨rs', hrow', hz', hone'⟩ := HXr.out.open
        have hrk := hrow'.keep hbel.out
        have HT : Hid (flatT kind (l.take (k + 1)) = flatT kind (l.take k) ++ t.kidsP) := Lib.hid (by rw [Htk.out, if_pos (by rw [HKr.out]; exact hk)])
        have hll : ks.length + rs'.length ≤ 100000 := by
          have h1 := Hlen.out
          rw [HT.out, List.length_append, ← HK.out.1, ← hz'.1] at h1
          exact h1
        have Hz := Lib.hid hz'
        clear Htk Hlen hk hrow' hz' HXr HKr
        repeat' (first | (at_builtin; go_loud (refine app_res hone' rfl _ _ rfl rfl rfl hrk hown hwB hll ?_); intro v4 w4 ho4 hg4) | go_values | go_skip | go_guarded | go_step | go_upon)
        go_roundg (gk - 1)
        case rel => exact ⟨k + 1, ks ++ rs', by go_num, by omega, Lib.hid ho4, Lib.hid (by rw [HT.out]; exact HK.out.append Hz.out), Lib.hid (HJ.out.grow hg4 HW2.out)⟩
        case measure => omega
      · have hq : (r.k == kind) = false := beq_false_of_ne hk
        have HT : Hid (flatT kind (l.take (k + 1)) = flatT kind (l.take k) ++ [t]) := Lib.hid (by rw [Htk.out, if_neg (by rw [HKr.out]; exact hk)])
        clear Htk Hlen hk HKr
        repeat' (first | (with_reducible refine load_box HB.out _ rfl rfl ?_; dsimp only [Act.put, reV, reC]) | (at_builtin; go_loud (refine app_two 80 wb.heap.size rfl r reC_length (reC_oneAll hone) Try.underlying27 info_re3 rfl rfl _ _ rfl rfl rfl rfl hown hwB (by omega) (by unfold maxLen; omega) ?_); intro v4 w4 ho4 hg4 hs4) | go_values | go_skip | go_guarded | go_step | go_upon)
        go_roundg (gk - 1)
        case rel => exact ⟨k + 1, ks ++ [r], by go_num, by omega, Lib.hid ho4, Lib.hid (by rw [HT.out]; exact HK.out.append (Zp.one HXr.out)), Lib.hid ((HJ.out.keep ((Below.refl _ _).alloc (Nat.le_refl _) _)).grow hg4 HW2.out)⟩
        case measure => omega
    · have hlt' : ¬ (k : Int) < n := by omega
      have HT : Hid (flatT kind (l.take k) = flatT kind l) := Lib.hid (by rw [List.take_of_length_le (by rw [← HX.out.1, HN.out]; omega)])
      have HK2 : Hid (Zp B g w ks (flatT kind l)) := Lib.hid (by rw [← HT.out]; exact HK.out)
      have HB := Lib.hid HJ.out.box
      clear hc HK HT hlt hkn
      by_cases h1 : ks.length = 1
      · obtain ⟨r, hr⟩ := List.length_eq_one_iff.1 h1
        subst hr
        obtain ⟨t, ht⟩ := List.length_eq_one_iff.1 (HK2.out.1.symm.trans h1)
        obtain ⟨q, cap5, rfl⟩ := hown.somewhere (by simp)
        have hxr : ReX B g w r t := HK2.out.2 0 r t rfl (by rw [ht]; rfl)
        have hqr := (hown.below rfl).1
        have hcc := fun j (hj : j < 8) => hown.cellAt reC_length 0 r j rfl hj
        have c0 := hcc 0 (by omega)
        have c1 := hcc 1 (by omega)
        have c2 := hcc 2 (by omega)
        have c3 := hcc 3 (by omega)
        have c4 := hcc 4 (by omega)
        have c5 := hcc 5 (by omega)
        have c6 := hcc 6 (by omega)
        have c7 := hcc 7 (by omega)
        simp only [reC, Nat.zero_mul, Nat.zero_add, List.getElem?_cons_zero, List.getElem?_cons_succ] at c0 c1 c2 c3 c4 c5 c6 c7
        have hone := hxr.one
        have HXr := Lib.hid hxr
        have HTt : Hid (joinT kind l = t) := Lib.hid (joinT_one ht)
        clear hcc HO hown hxr ht h1
        repeat' (first | (with_reducible refine store_box HB.out r hone _ _ rfl rfl rfl ?_; dsimp only [Act.put]) | go_values | go_skip | go_guarded | go_step | go_upon)
        refine bodyPost_ret (results_re rfl _ _ _ _ rfl (HB.out.set _)) rfl ?_
        have hbw : Below w.heap.size w (wr.setRow Z (reC r).toArray) := by rw [HZ.out]; exact Below.row HJ.out.bel (Nat.le_refl _) _
        exact ⟨r, rfl, by rw [HTt.out]; exact HXr.out.keepB hbw (Nat.le_refl _), hbw⟩
      · have h1' : (((ks.length : Nat) : Int) == 1) = false := beq_false_of_ne (by omega)
        have HTt : Hid (joinT kind l = .mk kind (0, 0, 0, 0) 0 0 (flatT kind l)) := Lib.hid (joinT_many (by rw [← HK2.out.1]; exact h1))
        obtain ⟨a5, cap5, rfl, _, _⟩ := hown.form
        clear h1 HO
        repeat' (first | (with_reducible refine store_box HB.out ⟨kind, (0, 0, 0, 0), 0, 0, .slice a5 ks.length cap5⟩ rfl _ _ rfl rfl rfl ?_; dsimp only [Act.put]) | go_values | go_skip | go_guarded | go_step | go_upon)
        refine bodyPost_ret (results_re rfl _ _ _ _ rfl (HB.out.set _)) rfl ?_
        have hbw : Below w.heap.size w (wr.setRow Z (reC ⟨kind, (0, 0, 0, 0), 0, 0, .slice a5 ks.length cap5⟩).toArray) := by rw [HZ.out]; exact Below.row HJ.out.bel (Nat.le_refl _) _
        refine ⟨_, rfl, ?_, hbw⟩
        rw [HTt.out]
        have ho2 : OwnR reC 8 (Z + 1) 29 (wr.setRow Z (reC ⟨kind, (0, 0, 0, 0), 0, 0, .slice a5 ks.length cap5⟩).toArray) (.slice a5 ks.length cap5) ks := hown.other fun q hq => setRow_other _ _ _ _ (by have := (hown.below hq).1; omega)
        refine .mk ⟨kind, (0, 0, 0, 0), 0, 0, .slice a5 ks.length cap5⟩ (flatT kind l) ks ⟨hkI, by show I64 0; unfold I64; omega, by show I64 0; unfold I64; omega⟩ (by rw [← HK2.out.1]; omega) ho2.row ?_ HK2.out.1 fun i r t hr ht => (HK2.out.2 i r t hr ht).keepB hbw (Nat.le_refl _)
        rcases Nat.eq_zero_or_pos ks.length with h0 | h0
        · exact .inl h0
        · obtain ⟨q, cap6, e⟩ := hown.somewhere h0
          have hq1 := (hown.below (g := q) (by rw [e]; rfl)).1
          exact .inr ⟨q, 0, _, _, e, by have := HBz.out; omega, by have := HBz.out; have := HG.out; omega⟩
end Go.Proofs.Ytnbfifmnigeolaa
