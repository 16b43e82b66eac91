/- Walk: a text read as an expression (Parse). Condition: the text is of at most 2^47 bytes. -/
import Derived.Test.YtnbfifmnigeolaaPrsAll
import Derived.Test.YtnbfifmnigeolaaPrsDoor
namespace Go.Proofs.Ytnbfifmnigeolaa
open Go.RowKit Go.Lib
theorem dep_eq : ∀ {h h' : Nat} {w w' : World} {r r' : RN} {t : Re}, ReAt w h r t → ReAt w' h' r' t → dep h t = dep h' t
  | 0, _, _, _, _, _, _, h, _ => h.elim
  | _ + 1, 0, _, _, _, _, _, _, h => h.elim
  | h + 1, h' + 1, w, w', r, r', .mk k s mn mx kids, hr, hr' => by
    obtain ⟨_, _, _, rs, _, hl, hk⟩ := hr
    obtain ⟨_, _, _, rs', _, hl', hk'⟩ := hr'
    have e : kids.map (dep h) = kids.map (dep h') := by
      apply List.map_congr_left
      intro u hu
      obtain ⟨i, hi⟩ := List.getElem?_of_mem hu
      have hlt := (List.getElem?_eq_some_iff.1 hi).1
      exact dep_eq (hk i _ u (List.getElem?_eq_getElem (by omega)) hi) (hk' i _ u (List.getElem?_eq_getElem (by omega)) hi)
    rw [dep, dep]
    show 1 + mxl (kids.map (dep h)) = 1 + mxl (kids.map (dep h'))
    rw [e]
/-- what Parse tells of a text -/
def ParsP (s : List UInt8) (r : RN) (er at' : Int) (w : World) : Prop :=
  match prsA s with
  | .bad e0 j => er = e0 ∧ at' = j ∧ r = reZ
  | .ok t _ => at' = 0 ∧ ((er = 0 ∧ ∃ h, ReAt w h r t ∧ dep h t ≤ 30) ∨ (er = 2 ∧ r = reZ ∧ ∃ h w0 r0, ReAt w0 h r0 t ∧ 30 < dep h t))
  | .out => False
theorem PB.start (w : World) : PB w.heap.size w.heap.size (w.heap.size + 1) (w.heap.size + 1 + 1) w reZ 0 0 (((w.alloc (.cells #[.int .i64 0, .int .u64 0, .int .u64 0, .int .u64 0, .int .u64 0, .int .i64 0, .int .i64 0, .slice none 0 0] 29)).alloc (.cells #[.int .i64 0] 30)).alloc (.cells #[.int .i64 0] 3)) := by
  have k1 := (Below.refl _ w).alloc (Nat.le_refl _) (.cells #[.int .i64 0, .int .u64 0, .int .u64 0, .int .u64 0, .int .u64 0, .int .i64 0, .int .i64 0, .slice none 0 0] 29)
  have k2 := (Below.refl _ (w.alloc (.cells #[.int .i64 0, .int .u64 0, .int .u64 0, .int .u64 0, .int .u64 0, .int .i64 0, .int .i64 0, .slice none 0 0] 29))).alloc (Nat.le_refl _) (.cells #[.int .i64 0] 30)
  have k3 := (Below.refl _ ((w.alloc (.cells #[.int .i64 0, .int .u64 0, .int .u64 0, .int .u64 0, .int .u64 0, .int .i64 0, .int .i64 0, .slice none 0 0] 29)).alloc (.cells #[.int .i64 0] 30))).alloc (Nat.le_refl _) (.cells #[.int .i64 0] 3)
  refine ⟨((ReBox.zero w).keep k2).keep k3, ?_, ?_, k1.trans ((k2.trans (k3.mono k2.size)).mono k1.size), by omega⟩
  · have h := IB.new (w.alloc (.cells #[.int .i64 0, .int .u64 0, .int .u64 0, .int .u64 0, .int .u64 0, .int .i64 0, .int .i64 0, .slice none 0 0] 29)) 30
    rw [World.size_alloc] at h
    exact h.keep k3
  · have h := IB.new ((w.alloc (.cells #[.int .i64 0, .int .u64 0, .int .u64 0, .int .u64 0, .int .u64 0, .int .i64 0, .int .i64 0, .slice none 0 0] 29)).alloc (.cells #[.int .i64 0] 30)) 3
    rw [World.size_alloc, World.size_alloc] at h
    exact h
theorem mkf (fn : Fn) (first cap : Array Value) (w : World) : (Instr.makeFunc fn first cap).run Try.prog w = .ok (.func fn first cap) w := rfl
theorem PB.res {B b2 b3 b4 : Nat} {w0 W : World} {r : RN} {er at' : Int} (h : PB B b2 b3 b4 w0 r er at' W) {fn : Func} {p2 p3 p4 : Tmp} (hf : fn.results = #[.cell p2 29, .cell p3 30, .cell p4 3]) (tmps : Array Value)
    (h2 : tmps.getD p2 undef = .pointer (some ⟨b2, 0, none⟩)) (h3 : tmps.getD p3 undef = .pointer (some ⟨b3, 0, none⟩)) (h4 : tmps.getD p4 undef = .pointer (some ⟨b4, 0, none⟩)) : (results fn tmps).run Try.prog W = .ok (.tuple #[reV r, .int .i64 er, .int .i64 at']) W := by
  have h2' : tmps[p2]?.getD undef = .pointer (some ⟨b2, 0, none⟩) := by simpa using h2
  have h3' : tmps[p3]?.getD undef = .pointer (some ⟨b3, 0, none⟩) := by simpa using h3
  have h4' : tmps[p4]?.getD undef = .pointer (some ⟨b4, 0, none⟩) := by simpa using h4
  have e1 := run_loadVar_row W b2 29 29 (reC r).toArray (0, 0) _ h.r Try.underlying29 rfl info_re
  have c3 := h.e.cell
  have c4 := h.a.cell
  have e3 : (loadVar 30 ⟨b3, 0, none⟩).run Try.prog W = .ok (.int .i64 er) W := by simp [go_sem, c3]
  have e4 : (loadVar 3 ⟨b4, 0, none⟩).run Try.prog W = .ok (.int .i64 at') W := by simp [go_sem, c4]
  simp [results, hf, h2', h3', h4', asAddr, e1, e3, e4, reV]
theorem PB.els {B b2 b3 b4 g : Nat} {w0 W W' : World} {r : RN} {er at' : Int} (h : PB B b2 b3 b4 w0 r er at' W) (he : Else g W W') (hg : b4 < g) : PB B b2 b3 b4 w0 r er at' W' :=
  ⟨h.r.els he (by have := h.lt; omega), h.e.els he (by have := h.lt; omega), h.a.els he (by have := h.lt; omega), ⟨he.os.trans h.bel.os, he.tape.trans h.bel.tape, he.output.trans h.bel.output, Nat.le_trans h.bel.size he.size, fun k hk => (he.block k (by have := h.r.lt; have := h.lt; omega) (by have := h.lt; omega)).trans (h.bel.block k hk)⟩, h.lt⟩
theorem ReX.row {B p q : Nat} {W : World} {r : RN} {t : Re} {cs : Array Value} (h : ReX B p W r t) (hq : q < B) : ReX B p (W.setRow q cs) r t := h.keep (fun k hk _ _ => setRow_other _ _ _ _ (by omega)) (by simp)
theorem ReX.cell {B p q o : Nat} {W : World} {r : RN} {t : Re} {u : Value} (h : ReX B p W r t) (hq : q < B) : ReX B p (W.setCell ⟨q, o, none⟩ u) r t := h.keep (fun k hk _ _ => Below.heap_setCell _ _ _ _ (by dsimp only; omega)) (by simp [World.setCell])
set_option maxRecDepth 100000 in
set_option maxHeartbeats 4000000 in
theorem rx_parse (S : ByteArray) (w : World) :
    Calls Try.prog 5 #[.string S] w fun e w' => ∃ r er at', e = .returned (.tuple #[reV r, .int .i64 er, .int .i64 at']) ∧ Below w.heap.size w w' ∧ ParsP S.data.toList r er at' w' := by
  have hmf := mkf
  have HP := Lib.hid (PB.start w)
  obtain ⟨X, hX⟩ : ∃ X, prsA S.data.toList = X := ⟨_, rfl⟩
  unfold ParsP
  rw [hX]
  unfold prsA at hX
  rw [ba_len] at hX
  by_cases hl : 512 < S.size
  · rw [if_pos hl] at hX
    have hl' : (S.size : Int) > 512 := by omega
    subst hX
    clear hl
    go_enter_defers Try.func5, Try.ntmps5
    repeat' (go_not_at_region 1; first | go_values | go_skip | go_guarded | go_step | go_upon)
    generalize hb4 : w.heap.size + 1 + 1 = b4 at HP ⊢
    generalize hb3 : w.heap.size + 1 = b3 at HP ⊢
    generalize hb2 : w.heap.size = b2 at HP ⊢
    refine gen_wd (fun W => PB b2 b2 b3 b4 w reZ 0 0 W) HP.out ?_
    clear HP hb4 hb3
    rintro w1 hp
    have HP := Lib.hid hp
    have HZ := Lib.hid hb2
    clear hp hb2
    repeat' (go_not_at_region 2; first | go_values | go_skip | go_guarded | go_step | go_upon)
    have HP1 := Lib.hid (HP.out.setR reZ)
    have c3 := HP1.out.e.cell
    have f3 := HP1.out.e.free 0
    have HP2 := Lib.hid (HP1.out.setE 2)
    have c4 := HP2.out.a.cell
    have f4 := HP2.out.a.free 0
    have HP3 := Lib.hid (HP2.out.setA 0)
    repeat' (first | (refine store_box HP.out.r reZ rfl _ _ rfl rfl rfl ?_; dsimp only [Act.put]) | go_values | go_skip | go_guarded | go_step | go_upon)
    exact ⟨_, HP3.out.res rfl _ rfl rfl rfl, _, _, _, rfl, by rw [HZ.out]; exact HP3.out.bel, rfl, rfl, rfl⟩
  · rw [if_neg hl] at hX
    have hl' : ¬ (S.size : Int) > 512 := by omega
    have hS : S.size ≤ 512 := by omega
    have hout := prs_out (s := S.data.toList) 4200 .alt 0 0 (Nat.zero_le _) (by rw [ba_len]; simp only [Tk.need]; omega)
    have hin := prs_in (s := S.data.toList) 4200 .alt 0 0 (Nat.zero_le _)
    have hall := fun g => (ps_all g S hS 4200 4200 (Nat.le_refl _)).1 0 0
    clear hl
    go_enter_defers Try.func5, Try.ntmps5
    repeat' (go_not_at_region 1; first | go_values | go_skip | go_guarded | go_step | go_upon)
    generalize hb4 : w.heap.size + 1 + 1 = b4 at HP ⊢
    generalize hb3 : w.heap.size + 1 = b3 at HP ⊢
    generalize hb2 : w.heap.size = b2 at HP ⊢
    refine gen_wd (fun W => PB b2 b2 b3 b4 w reZ 0 0 W) HP.out ?_
    clear HP hb4 hb3
    rintro w1 hp
    have HP := Lib.hid hp
    have HZ := Lib.hid hb2
    clear hp hb2
    repeat' (go_not_at_region 4; first | go_values | go_skip | go_guarded | go_step | go_upon)
    have hgl : b4 < w1.heap.size := HP.out.a.lt
    have HQ : Hid (PsAt (w1.alloc (.cells #[.string S, .int .i64 0, .int .i64 0] 39)) w1.heap.size S 0 0) := Lib.hid (PsAt.new w1 S)
    have HP := Lib.hid (HP.out.keep ((Below.refl _ w1).alloc (Nat.le_refl _) (.cells #[.string S, .int .i64 0, .int .i64 0] 39)))
    have hc := hall w1.heap.size _ (Nat.zero_le _) (by omega) HQ.out hout
    repeat' (first | go_values | go_skip | go_guarded | go_step | go_upon)
    clear hall HQ
    cases hY : prs S.data.toList 4200 .alt 0 0 with
    | out => exact absurd hY hout
    | bad e0 j =>
      rw [hY] at hc hX
      subst hX
      refine Calls.mono hc ?_
      rintro _ wy ⟨rfl, he⟩
      have HP2 := HP.out.els he hgl
      refine leaves_cons (f := 7) (args := #[.pointer (some ⟨b2, 0, none⟩), .pointer (some ⟨b3, 0, none⟩), .pointer (some ⟨b4, 0, none⟩)]) (by simp) (by simp [go_sem]) ?_
      refine (door_panicking b2 b2 b3 b4 w reZ 0 0 e0 j [] wy HP2).mono ?_
      rintro e u' w'' ⟨rfl, rfl, hp⟩
      exact ⟨_, hp.res rfl _ rfl rfl rfl, _, _, _, rfl, by rw [HZ.out]; exact hp.bel, rfl, rfl, rfl⟩
    | ok t j =>
      rw [hY] at hc hX hin
      dsimp only at hX
      have hjS := hin.2
      rw [ba_len] at hjS
      clear hout hin hY
      refine Calls.mono (hc) ?_
      rintro _ w2 ⟨⟨r, rfl, hx⟩, hp, he⟩
      dsimp only
      have HP2 := Lib.hid (HP.out.els he hgl)
      have hone := hx.one
      have hgz : b4 < w1.heap.size ∧ b2 < w1.heap.size ∧ b3 < w1.heap.size ∧ b2 < b3 ∧ b3 < b4 := by have := HP.out.lt; omega
      have HXr := Lib.hid ((hx.mono (B' := w1.heap.size) (by simp)).row (q := b2) (cs := (reC r).toArray) hgz.2.1)
      have HS := Lib.hid (hp.row (q := b2) (cs := (reC r).toArray) (by omega))
      have HP3 := Lib.hid (HP2.out.setR r)
      clear hc hx hp he HP
      have c0 := HS.out.c0
      have c1 := HS.out.c1
      by_cases hjn : j < S.size
      · rw [if_pos hjn] at hX
        subst hX
        have hjn' : (j : Int) < S.size := by omega
        repeat' (first | (refine store_box HP2.out.r r hone _ _ rfl rfl rfl ?_; dsimp only [Act.put]) | go_values | go_skip | go_guarded | go_step | go_upon)
        have hf := ps_fail w1.heap.size S j 0 _ HS.out
        refine Calls.mono hf ?_
        rintro _ wy ⟨rfl, rfl⟩
        refine leaves_cons (f := 7) (args := #[.pointer (some ⟨b2, 0, none⟩), .pointer (some ⟨b3, 0, none⟩), .pointer (some ⟨b4, 0, none⟩)]) (by simp) (by simp [go_sem]) ?_
        refine (door_panicking b2 b2 b3 b4 w r 0 0 60 j [] _ HP3.out).mono ?_
        rintro e u' w'' ⟨rfl, rfl, hp⟩
        exact ⟨_, hp.res rfl _ rfl rfl rfl, _, _, _, rfl, by rw [HZ.out]; exact hp.bel, rfl, rfl, rfl⟩
      · rw [if_neg hjn] at hX
        subst hX
        have hjn' : ¬ (j : Int) < S.size := by omega
        obtain ⟨n, hn⟩ := HXr.out.at'
        have hdeep := regex_deep n r t 30 _ (by omega) hn
        have HP2b := HP2
        repeat' (first | (refine store_box HP2.out.r r hone _ _ rfl rfl rfl ?_; dsimp only [Act.put]) | (with_reducible refine load_box HP3.out.r _ rfl rfl ?_; dsimp only [Act.put]) | go_values | go_skip | go_guarded | go_step | go_upon)
        refine Calls.mono (hdeep) ?_
        rintro _ w4 ⟨rfl, hb4⟩
        dsimp only
        have HP := Lib.hid (HP3.out.keep hb4)
        have Hn := Lib.hid (hn.keep hb4)
        have HXr := Lib.hid (HXr.out.keepB hb4 (Nat.le_refl _))
        clear hdeep hb4 HP2 HP2b HP3 c0 c1 HS hn
        by_cases hdp : 30 < dep n t
        · have hdb : decide (30 < dep n t) = true := decide_eq_true hdp
          have HP1 := Lib.hid (HP.out.setR reZ)
          have c3 := HP1.out.e.cell
          have f3 := HP1.out.e.free 0
          have HP2 := Lib.hid (HP1.out.setE 2)
          have c4 := HP2.out.a.cell
          have f4 := HP2.out.a.free 0
          have HP3 := Lib.hid (HP2.out.setA 0)
          repeat' (first | (refine store_box HP.out.r reZ rfl _ _ rfl rfl rfl ?_; dsimp only [Act.put]) | go_values | go_skip | go_guarded | go_step | go_upon)
          refine leaves_cons (f := 7) (args := #[.pointer (some ⟨b2, 0, none⟩), .pointer (some ⟨b3, 0, none⟩), .pointer (some ⟨b4, 0, none⟩)]) (by simp) (by simp [go_sem]) ?_
          refine (door_idle _ _ _ _).mono ?_
          rintro e u' w'' ⟨rfl, rfl, rfl⟩
          exact ⟨_, HP3.out.res rfl _ rfl rfl rfl, _, _, _, rfl, by rw [HZ.out]; exact HP3.out.bel, rfl, .inr ⟨rfl, rfl, n, _, _, Hn.out, hdp⟩⟩
        · have hdb : decide (30 < dep n t) = false := decide_eq_false hdp
          have HP1 := Lib.hid (HP.out.setR r)
          have c3 := HP1.out.e.cell
          have f3 := HP1.out.e.free 0
          have HP2 := Lib.hid (HP1.out.setE 0)
          have c4 := HP2.out.a.cell
          have f4 := HP2.out.a.free 0
          have HP3 := Lib.hid (HP2.out.setA 0)
          have HX3 := Lib.hid (((HXr.out.row (q := b2) (cs := (reC r).toArray) hgz.2.1).cell (q := b3) (o := 0) (u := .int .i64 0) hgz.2.2.1).cell (q := b4) (o := 0) (u := .int .i64 0) hgz.1)
          repeat' (first | (with_reducible refine load_box HP.out.r _ rfl rfl ?_; dsimp only [Act.put]) | (refine store_box HP.out.r r hone _ _ rfl rfl rfl ?_; dsimp only [Act.put]) | go_values | go_skip | go_guarded | go_step | go_upon)
          refine leaves_cons (f := 7) (args := #[.pointer (some ⟨b2, 0, none⟩), .pointer (some ⟨b3, 0, none⟩), .pointer (some ⟨b4, 0, none⟩)]) (by simp) (by simp [go_sem]) ?_
          refine (door_idle _ _ _ _).mono ?_
          rintro e u' w'' ⟨rfl, rfl, rfl⟩
          obtain ⟨m, hm⟩ := HX3.out.at'
          exact ⟨_, HP3.out.res rfl _ rfl rfl rfl, _, _, _, rfl, by rw [HZ.out]; exact HP3.out.bel, rfl, .inl ⟨rfl, m, hm, by rw [dep_eq hm Hn.out]; omega⟩⟩
end Go.Proofs.Ytnbfifmnigeolaa
