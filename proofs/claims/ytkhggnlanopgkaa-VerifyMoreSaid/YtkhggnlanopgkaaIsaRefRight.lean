/- Walk: the reference's answer whether an instruction may be (P21.1). No conditions. -/
import Derived.Test.YtkhggnlanopgkaaIsaRef
namespace Go.Proofs.Ytkhggnlanopgkaa
open Go.RowKit
theorem bsT_rlet (l : List Nat) (k : Nat) (hk : k < l.length) (h : k < (bsT (l.map rlet)).size) (hl : ∀ x ∈ l, IsL x) : ((bsT (l.map rlet))[k]'h).toNat = rlet l[k] := by
  rw [bsT_get _ k h (by simpa using hk) fun x hx => by
    obtain ⟨y, hy, rfl⟩ := List.mem_map.1 hx
    have := rlet_lt (hl y hy); omega]
  simp
/-- two instructions in the call's own variables -/
structure In2 (B : Nat) (w0 : World) (v u : Nat → Int) (w : World) : Prop where
  bel : Below B w0 w
  h0 : InsAt w B v
  h1 : InsAt w (B + 1) u
theorem In2.step {B : Nat} {w0 w w' : World} {v u : Nat → Int} (h : In2 B w0 v u w) (hb : Below w.heap.size w w') : In2 B w0 v u w' :=
  ⟨h.bel.trans (hb.mono (Nat.le_of_lt h.h0.lt)), h.h0.keep hb, h.h1.keep hb⟩
theorem in2_calls {P : Program} {f : FuncId} {args : Array Value} {r : Value} {B : Nat} {w0 w : World} {v u : Nat → Int} (h : In2 B w0 v u w) (hc : Calls P f args w fun e w' => e = .returned r ∧ Below w.heap.size w w') :
    Calls P f args w fun e w' => e = .returned r ∧ In2 B w0 v u w' := hc.mono fun _ _ ⟨he, hb⟩ => ⟨he, h.step hb⟩
theorem In2.start (w : World) (v : Nat → Int) : In2 w.heap.size w v (bar v []) ((w.alloc (.cells (ic v) 39)).alloc (.cells #[.int .i64 (v 0), .int .i64 0, .int .i64 0, .int .i64 0, .int .i64 0] 39)) := by
  refine ⟨((Below.refl _ _).alloc (Nat.le_refl _) _).alloc (by simp) _, (InsAt.new w v).keep ((Below.refl _ _).alloc (Nat.le_refl _) _), ?_⟩
  have h := InsAt.new1 w (.cells (ic v) 39) (bar v [])
  have e0 : ic (bar v []) = #[.int .i64 (v 0), .int .i64 0, .int .i64 0, .int .i64 0, .int .i64 0] := by unfold ic; rw [bar_nil0, bar_nil v (by decide), bar_nil v (by decide), bar_nil v (by decide), bar_nil v (by decide)]
  rw [e0] at h
  exact h
theorem In2.store {B : Nat} {w0 w : World} {v u u' : Nat → Int} (h : In2 B w0 v u w) : In2 B w0 v u' (w.setRow (B + 1) (ic u')) :=
  ⟨Below.row h.bel (by omega) _, h.h0.rowOther (by omega), h.h1.row⟩
set_option maxRecDepth 100000 in
set_option maxHeartbeats 1000000 in
theorem ref_Right (v : Nat → Int) (w : World) :
    Calls Try.prog 23 #[vI v] w fun e w' => e = .returned (.bool (okI v)) ∧ Below w.heap.size w w' := by
  by_cases hlo : v 0 < 1
  · have hok : okI v = false := by unfold okI; simp; omega
    go_enter Try.func23, Try.ntmps23
    repeat' (first | go_values | go_skip | go_guarded | go_step | go_upon)
    go_ret
    exact ⟨ret_b hok.symm, (Below.refl _ _).alloc (Nat.le_refl _) _⟩
  by_cases hhi : 17 < v 0
  · have hok : okI v = false := by unfold okI; simp; omega
    go_enter Try.func23, Try.ntmps23
    repeat' (first | go_values | go_skip | go_guarded | go_step | go_upon)
    go_ret
    exact ⟨ret_b hok.symm, (Below.refl _ _).alloc (Nat.le_refl _) _⟩
  obtain ⟨o, ho⟩ : ∃ o : Nat, v 0 = (o : Int) := ⟨(v 0).toNat, by omega⟩
  have hkn : (decide (1 ≤ v 0) && decide (v 0 ≤ 17)) = true := by simp; omega
  have HFd : Hid (∀ w, Calls Try.prog 36 #[.int .i64 (v 0)] w fun e w' => e = .returned (.string (bsT ((letr o).map rlet))) ∧ Below w.heap.size w w') := Lib.hid (by rw [ho]; exact fun w => ref_Fields o (by omega) (by omega) w)
  have hlet := Lib.hid (letr_is o)
  have Ho := Lib.hid ho
  clear ho
  have HokF : Hid (∀ x ∈ letr o, inb v x = false → okI v = false) := Lib.hid fun x hx hi => by
    unfold okI
    have e : (letr (v 0).toNat).all (inb v) = false := by
      rw [Ho.out, Int.toNat_natCast, List.all_eq_false]; exact ⟨x, hx, by rw [hi]; decide⟩
    rw [e]; simp
  have HokT : Hid ((letr o).all (inb v) = true → okI v = sameI (bar v (letr o)) v) := Lib.hid fun h => by
    unfold okI sameI
    rw [hkn, Ho.out, Int.toNat_natCast, h]
    simp [bar, Ho.out]
  have hl3 := letr_len o
  generalize letr o = l at *
  clear hkn Ho
  have htz : (bsT (l.map rlet)).size = l.length := by rw [bsT_size, List.length_map]
  have HX : Hid (∀ k (hk : k < l.length) (h : k < (bsT (l.map rlet)).size), ((bsT (l.map rlet))[k]'h).toNat = rlet l[k]) := Lib.hid fun k hk h => bsT_rlet l k hk h hlet.out
  generalize bsT (l.map rlet) = t at *
  go_enter Try.func23, Try.ntmps23
  repeat' (first | go_values | go_skip | go_guarded | go_step | go_upon)
  go_loopw [4] (fun s4 wr => ∃ k : Nat, s4 = .int .i64 k ∧ k ≤ l.length ∧ Hid (In2 w.heap.size w v (bar v (l.take k)) wr) ∧ Hid ((l.take k).all (inb v) = true)) (fun s4 _ => l.length - (intOf s4).toNat)
  case atStart =>
    exact ⟨0, rfl, Nat.zero_le _, Lib.hid (In2.start w v), Lib.hid rfl⟩
  case round =>
    obtain ⟨k, rfl, hkl, G, Hall⟩ := hrel
    have hc0 := G.out.h0.cell 0 (by decide)
    by_cases hks : k < l.length
    · obtain ⟨x, hx⟩ : ∃ x, x = l[k] := ⟨_, rfl⟩
      have hkt : k < t.size := by rw [htz]; exact hks
      have hx8 : (t[k]'hkt).toNat = rlet x := by rw [HX.out k hks hkt, hx]
      have hxl : x ∈ l := by rw [hx]; exact List.getElem_mem hks
      have hxi := hlet.out x hxl
      have htk : l.take (k + 1) = l.take k ++ [x] := by rw [List.take_succ_eq_append_getElem hks, hx]
      have HV := Lib.hid (ref_Value v x hxi)
      have HM := Lib.hid (ref_Most x hxi)
      have HW := Lib.hid fun a => ref_With (bar v (l.take k)) x hxi a
      obtain ⟨ps, hps⟩ : ∃ ps, ps = pos x := ⟨_, rfl⟩
      have hp1 : ps < 5 := by have := pos_ge x; omega
      obtain ⟨m, hm⟩ : ∃ m, m = mst x := ⟨_, rfl⟩
      obtain ⟨a, ha⟩ : ∃ a, a = v ps := ⟨_, rfl⟩
      rw [← hps, ← ha] at HV
      rw [← hm] at HM
      rw [← hps] at HW
      have Hinb : Hid (inb v x = (decide (0 ≤ a) && decide (a ≤ (m : Int)))) := Lib.hid (by unfold inb; rw [← hps, ← hm, ← ha])
      have Hsn : Hid (upd (bar v (l.take k)) ps a = bar v (l.take (k + 1))) := Lib.hid (by
        funext j
        rw [htk, bar_snoc, ← hps]
        unfold upd
        split
        · rename_i e; rw [e, ha]
        · rfl)
      have Htk := Lib.hid htk
      have Hxl := Lib.hid hxl
      obtain ⟨c, hc⟩ : ∃ c, c = rlet x := ⟨_, rfl⟩
      rw [← hc] at hx8 HV HM HW
      have hcl : c < 128 := by rw [hc]; exact rlet_lt hxi
      clear htk hps hm ha hx hxl hc
      repeat' (first | go_values | go_skip | go_guarded | go_step | go_upon)
      refine Calls.mono (in2_calls G.out (HFd.out _)) ?_
      rintro _ w2 ⟨rfl, g2⟩
      dsimp only
      have hc2 := g2.h0.cell 0 (by decide)
      have K2 := Lib.hid g2
      clear hc0 G g2
      repeat' (first | go_values | go_skip | go_guarded | go_step | go_upon)
      refine Calls.mono (in2_calls K2.out (HFd.out _)) ?_
      rintro _ w3 ⟨rfl, g3⟩
      dsimp only
      have K3 := Lib.hid g3
      clear hc2 K2 g3
      repeat' (first | (with_reducible refine load_ins K3.out.h0 _ rfl rfl ?_) | go_values | go_skip | go_guarded | go_step | go_upon)
      refine Calls.mono (in2_calls K3.out (HV.out _)) ?_
      rintro _ w4 ⟨rfl, g4⟩
      dsimp only
      have K4 := Lib.hid g4
      clear K3 g4
      by_cases ha0 : a < 0
      · repeat' (first | go_values | go_skip | go_guarded | go_step | go_upon)
        go_ret
        exact ⟨ret_b (HokF.out x Hxl.out (by rw [Hinb.out]; simp; omega)).symm, K4.out.bel⟩
      · by_cases ham : (m : Int) < a
        · repeat' (first | go_values | go_skip | go_guarded | go_step | go_upon)
          refine Calls.mono (HM.out _) ?_
          rintro _ w5 ⟨rfl, rfl⟩
          dsimp only
          repeat' (first | go_values | go_skip | go_guarded | go_step | go_upon)
          go_ret
          exact ⟨ret_b (HokF.out x Hxl.out (by rw [Hinb.out]; simp; omega)).symm, K4.out.bel⟩
        · repeat' (first | go_values | go_skip | go_guarded | go_step | go_upon)
          refine Calls.mono (HM.out _) ?_
          rintro _ w5 ⟨rfl, rfl⟩
          dsimp only
          repeat' (first | (with_reducible refine load_ins K4.out.h1 _ rfl rfl ?_) | go_values | go_skip | go_guarded | go_step | go_upon)
          refine Calls.mono (in2_calls K4.out (HW.out a _)) ?_
          rintro _ w6 ⟨rfl, g6⟩
          dsimp only
          have K6 := Lib.hid g6
          clear K4 g6
          repeat' (first | (with_reducible refine store_ins K6.out.h1 (upd (bar v (l.take k)) ps a) _ _ rfl rfl rfl ?_) | go_values | go_skip | go_guarded | go_step | go_upon)
          go_roundw
          case rel => exact ⟨k + 1, by go_num, hks, Lib.hid (by rw [Hsn.out]; exact K6.out.store), Lib.hid (by rw [Htk.out, List.all_append, Hall.out]; simp [Hinb.out]; omega)⟩
          case measure => simp [intOf]; omega
    · obtain rfl : k = l.length := by omega
      rw [List.take_length] at G Hall
      repeat' (first | go_values | go_skip | go_guarded | go_step | go_upon)
      refine Calls.mono (in2_calls G.out (HFd.out _)) ?_
      rintro _ w2 ⟨rfl, g2⟩
      dsimp only
      have K2 := Lib.hid g2
      clear hc0 G g2
      repeat' (first | (with_reducible refine load_ins K2.out.h1 _ rfl rfl ?_) | (with_reducible refine load_ins K2.out.h0 _ rfl rfl ?_) | go_values | go_skip | go_guarded | go_step | go_upon)
      all_goals
        go_ret
        exact ⟨ret_b (by rw [HokT.out Hall.out]; unfold sameI; simp [*]), K2.out.bel⟩
end Go.Proofs.Ytkhggnlanopgkaa
