/- Walk: lines are read (isa.Parse). Conditions: the library's variables are as they are laid. -/
import Derived.Test.YtpelngkhipcneaaDoorIsaRead
import Derived.Test.YtpelngkhipcneaaDoorIsaGet
namespace Go.Proofs.YtpelngkhipcneaaDoor
open Go.RowKit
/-- a text's length -/
def txtOf : Value → Nat
  | .string b => b.size
  | _ => 0
theorem txtOf_str (l : List UInt8) : txtOf (.string ⟨l.toArray⟩) = l.length := sz_arr l
theorem isa_read2 (s : List UInt8) (hs : s.length ≤ 262144) (w : World) (hT : TabR w) :
    Calls Tryd.prog 28 #[.string ⟨s.toArray⟩] w fun e w' => ∃ u b, e = .returned (.tuple #[vI u, .bool b]) ∧ Below w.heap.size w w' ∧ (b = true → rdI s = some u) ∧ (b = false → rdI s = none) :=
  (isa_read s hs w hT).mono fun e w' ⟨u, b, he, hb, h1, h2⟩ => by
    cases b with
    | false =>
      refine ⟨u, false, he, hb, fun h => (by cases h), fun _ => ?_⟩
      cases h : rdI s with
      | none => rfl
      | some x => exact absurd (rdI_some h).2 (h2 rfl x (rdI_some h).1)
    | true =>
      obtain ⟨x, hx, hux⟩ := rdI_of (h1 rfl).1 (h1 rfl).2
      exact ⟨x, true, by rw [he, hux.v], hb, fun _ => hx, fun h => (by cases h)⟩
set_option maxRecDepth 100000 in
set_option maxHeartbeats 4000000 in
theorem isa_Parse (t : List UInt8) (ht : t.length ≤ 1000000000000000) (w : World) (hT : TabR w) :
    Calls Tryd.prog 11 #[.string ⟨t.toArray⟩] w fun e w' => ∃ v, e = .returned (.tuple #[v, .int .i64 (parseI t).2.1, .int .i64 (parseI t).2.2]) ∧ RowOf icL 5 w' v (parseI t).1 ∧ Below w.heap.size w w' := by
  have HT := Lib.hid hT
  have hsz := sz_arr t
  clear hT
  by_cases hl : 262144 < t.length
  · rw [parseI_long hl]
    go_enter Tryd.func11, Tryd.ntmps11
    repeat' (first | go_values | go_skip | go_guarded | go_step | go_upon)
    go_ret3
    exact ⟨_, rfl, rowI_nil, Below.refl _ _⟩
  · have hG := parseI_short hl
    obtain ⟨G, hG1⟩ : ∃ G, G = parseI t := ⟨_, rfl⟩
    rw [← hG1] at hG ⊢
    have HG := Lib.hid hG
    have hl2 : t.length ≤ 262144 := by omega
    clear hG1 hl hG
    go_enter Tryd.func11, Tryd.ntmps11
    repeat' (first | go_values | go_skip | go_guarded | go_step | go_upon)
    go_loopw [0, 5, 6] (fun s0 s5 s6 wr => ∃ (r : List UInt8) (acc : List (Nat → Int)) (f : Nat), s0 = .string ⟨r.toArray⟩ ∧ s6 = .int .i64 ((acc.length : Int) + 1) ∧ r.length ≤ 262144 ∧ acc.length ≤ 4096 ∧ Hid (r.length < f) ∧ Hid (G = pgo f r acc) ∧ Hid (OwnR icL 5 w.heap.size 49 wr s5 acc) ∧ Hid (Below w.heap.size w wr)) (fun s0 _ _ _ => txtOf s0)
    case atStart => exact ⟨t, [], t.length + 1, rfl, rfl, hl2, by simp, Lib.hid (by omega), HG, Lib.hid OwnR.nil, Lib.hid (Below.refl _ _)⟩
    case round =>
      obtain ⟨r, acc, f, rfl, rfl, hr, ha, Hf, He, Ho, Hb⟩ := hrel
      clear HG hl2 hsz
      have hrs := sz_arr r
      obtain ⟨f', hf'⟩ : ∃ f', f = f' + 1 := ⟨f - 1, by have := Hf.out; omega⟩
      have HTr := Lib.hid (HT.out.keep Hb.out)
      subst hf'
      by_cases hz : r = []
      · have hzb : (r == []) = true := by simp [hz]
        have E : Hid (G = (acc, 0, 0)) := Lib.hid (by rw [He.out, hz, pgo_end])
        have hzb2 : (r != []) = false := by simp [hz]
        have e := E.out
        clear He Hf hz E
        subst e
        repeat' (first | go_values | go_skip | go_guarded | go_step | go_upon)
        go_ret3
        exact ⟨_, rfl, Ho.out.row, Hb.out⟩
      · have hzb : (r == []) = false := by simpa using hz
        have hzb2 : (r != []) = true := by simpa using hz
        have HC := Lib.hid fun w hT => cut_c r (by omega) w hT
        have Hno : Hid (((10 : UInt8) ∉ r ∨ 4096 < acc.length + 1) → G = ([], 211, (acc.length : Int) + 1)) := Lib.hid fun h => by rw [He.out]; exact pgo_no hz h
        have Hnone : Hid (rdI (bef r) = none → G = ([], 211, (acc.length : Int) + 1)) := Lib.hid fun h => by rw [He.out]; exact pgo_none hz h
        have Hon : Hid (∀ x, rdI (bef r) = some x → (10 : UInt8) ∈ r → acc.length + 1 ≤ 4096 → G = pgo f' (aft r) (acc ++ [x])) := Lib.hid fun x h h1 h2 => by rw [He.out]; exact pgo_on hz h h1 h2
        have Hal := Lib.hid (aft_len r hz)
        have hbl := bef_len r
        have Hfl : Hid ((aft r).length < f') := Lib.hid (by have := Hal.out; have := Hf.out; omega)
        obtain ⟨d, hd⟩ : ∃ d, d = decide ((10 : UInt8) ∈ r) := ⟨_, rfl⟩
        rw [← hd] at HC
        have Hd := Lib.hid hd
        have HR := Lib.hid fun w hT => isa_read2 (bef r) (by omega) w hT
        have hbs := sz_arr (bef r)
        clear He Hf hd hz
        generalize hbf : bef r = b at *
        have Hbf := Lib.hid hbf
        generalize haf : aft r = af at *
        clear hbf haf
        repeat' (first | go_values | go_skip | go_guarded | go_step | go_upon)
        refine Calls.mono (HC.out _ HTr.out) ?_
        rintro _ w1 ⟨rfl, hb1⟩
        dsimp only
        have HT1 := Lib.hid (HTr.out.keep hb1)
        have Ho1 := Lib.hid (Ho.out.keep hb1 (Nat.le_refl _))
        have Hb1 := Lib.hid (Hb.out.trans (hb1.mono Hb.out.size))
        clear hb1 Ho Hb HC HTr
        repeat' (first | go_values | go_skip | go_guarded | go_step | go_upon)
        refine Calls.mono (HR.out _ HT1.out) ?_
        rintro _ w2 ⟨u, ok, rfl, hb2, hyes, hnot⟩
        dsimp only
        have Ho2 := Lib.hid (Ho1.out.keep hb2 (Nat.le_refl _))
        have Hb2 := Lib.hid (Hb1.out.trans (hb2.mono Hb1.out.size))
        have Hyes := Lib.hid hyes
        have Hnot := Lib.hid hnot
        clear hb2 Ho1 Hb1 HR HT1 hyes hnot
        by_cases hbad : d = false ∨ 4096 < acc.length + 1 ∨ ok = false
        · have e : G = ([], 211, (acc.length : Int) + 1) := by
            rcases hbad with h | h | h
            · exact Hno.out (.inl fun hm => by have := Hd.out; rw [decide_eq_true hm, h] at this; cases this)
            · exact Hno.out (.inr h)
            · exact Hnone.out (Hnot.out h)
          clear Hno Hnone Hon Hd
          subst e
          cases d with
          | false =>
            repeat' (first | go_values | go_skip | go_guarded | go_step | go_upon)
            go_ret3
            exact ⟨_, rfl, rowI_nil, Hb2.out.alloc Hb2.out.size _⟩
          | true =>
            cases ok with
            | false =>
              repeat' (first | go_values | go_skip | go_guarded | go_step | go_upon)
              go_ret3
              exact ⟨_, rfl, rowI_nil, Hb2.out.alloc Hb2.out.size _⟩
            | true =>
              have hn : (4096 : Int) < (acc.length : Int) + 1 := by
                rcases hbad with h | h | h
                · cases h
                · omega
                · cases h
              clear hbad
              repeat' (first | go_values | go_skip | go_guarded | go_step | go_upon)
              go_ret3
              exact ⟨_, rfl, rowI_nil, Hb2.out.alloc Hb2.out.size _⟩
        · obtain ⟨rfl, hn4, rfl⟩ : d = true ∧ acc.length + 1 ≤ 4096 ∧ ok = true := by
            simp only [not_or] at hbad
            exact ⟨by simpa using hbad.1, by omega, by simpa using hbad.2.2⟩
          have hn : (acc.length : Int) + 1 ≤ 4096 := by omega
          have HGn : Hid (G = pgo f' af (acc ++ [u])) := Lib.hid (Hon.out u (Hyes.out rfl) (of_decide_eq_true Hd.out.symm) hn4)
          have Hin0 := Lib.hid (InsAt.new w2 u)
          have Hown0 := Lib.hid (Ho2.out.keep ((Below.refl _ _).alloc (Nat.le_refl _) (.cells (ic u) 49)) (Nat.le_refl _) : OwnR icL 5 w.heap.size 49 (w2.alloc (.cells (ic u) 49)) u5 acc)
          have Hbn0 := Lib.hid (Hb2.out.trans (((Below.refl w2.heap.size w2).alloc (Nat.le_refl _) (.cells (ic u) 49)).mono Hb2.out.size))
          clear hbad Hno Hnone Hon Hyes Hnot Hd Ho2 Hb2
          have hown := Hown0.out
          have hwB : w.heap.size ≤ (w2.alloc (.cells (ic u) 49)).heap.size := Hbn0.out.size
          repeat' (first | (with_reducible refine load_ins Hin0.out _ rfl rfl ?_) | (at_builtin; go_loud (refine app_one 40 (w2.heap.size + 1) (by simp) u icL_len (by intro y hy; simp [icL] at hy; rcases hy with rfl | rfl | rfl | rfl | rfl <;> rfl) Tryd.underlying22 info_ins3 rfl rfl _ _ rfl rfl rfl rfl hown hwB (by omega) (by unfold maxLen; omega) ?_); intro v4 w4 hown4 hb4 hk4 _) | go_values | go_skip | go_guarded | go_step | go_upon)
          go_roundw
          case rel => exact ⟨af, acc ++ [u], f', rfl, by simp, by have := Hal.out; omega, by simp; omega, Hfl, HGn, Lib.hid hown4, Lib.hid (Hbn0.out.trans hb4)⟩
          case measure => rw [txtOf_str, txtOf_str]; exact Hal.out
end Go.Proofs.YtpelngkhipcneaaDoor
