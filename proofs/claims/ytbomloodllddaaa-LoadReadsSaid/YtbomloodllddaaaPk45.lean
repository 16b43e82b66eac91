/- Walk: instructions are read from bytes, by the reference (P21.2). Condition: the text is of at most 10^15 bytes. -/
import Derived.Test.YtbomloodllddaaaPk17
import Derived.Test.YtbomloodllddaaaPk03
namespace Go.Proofs.Ytbomloodllddaaa
open Go.RowKit
theorem OwnR.lit0 {α : Type} {f : α → List Value} {sz B : Nat} {e : TypeId} (w : World) (hB : B ≤ w.heap.size) : OwnR f sz B e (w.alloc (.cells #[] e)) (.slice (some ⟨w.heap.size, 0, none⟩) 0 0) ([] : List α) := by
  have h := World.ownsRow_lit (base := B) (e := e) (size := sz) w #[] 0 hB (by decide) (by simp)
  exact OwnC.of_own (by simpa using h)
def lenS : Value → Nat
  | .slice _ n _ => n
  | _ => 0
/-- the list, an instruction in a later variable -/
structure RG (B gi : Nat) (w0 : World) (v : Value) (acc : List (Nat → Int)) (u : Nat → Int) (w : World) : Prop where
  bel : Below B w0 w
  own : OwnR icL 5 B 118 w v acc
  ins : InsAt w gi u
  low : ∀ k, v.ownBlock = some k → k < gi
  hB : B ≤ gi
theorem RG.step {B gi : Nat} {w0 w w' : World} {v : Value} {acc : List (Nat → Int)} {u : Nat → Int} (h : RG B gi w0 v acc u w) (hb : Below w.heap.size w w') : RG B gi w0 v acc u w' :=
  ⟨h.bel.trans (hb.mono (Nat.le_trans h.hB (Nat.le_of_lt h.ins.lt))), h.own.keep hb (Nat.le_refl _), h.ins.keep hb, h.low, h.hB⟩
theorem rg_calls {P : Program} {f : FuncId} {args : Array Value} {r : Value} {B gi : Nat} {w0 w : World} {v : Value} {acc : List (Nat → Int)} {u : Nat → Int} (h : RG B gi w0 v acc u w) (hc : Calls P f args w fun e w' => e = .returned r ∧ Below w.heap.size w w') :
    Calls P f args w fun e w' => e = .returned r ∧ RG B gi w0 v acc u w' := hc.mono fun _ _ ⟨he, hb⟩ => ⟨he, h.step hb⟩
theorem RG.store {B gi : Nat} {w0 w : World} {v : Value} {acc : List (Nat → Int)} {u u' : Nat → Int} (h : RG B gi w0 v acc u w) : RG B gi w0 v acc u' (w.setRow gi (ic u')) :=
  ⟨Below.row h.bel h.hB _, h.own.other fun k hk => setRow_other _ _ _ _ (Nat.ne_of_lt (h.low k hk)), h.ins.row, h.low, h.hB⟩
set_option maxRecDepth 100000 in
set_option maxHeartbeats 4000000 in
theorem rg_Get (t : List UInt8) (ht : t.length ≤ 1000000000000000) (w : World) :
    Calls Try.prog 42 #[.string ⟨t.toArray⟩] w fun e w' => ∃ v, e = .returned (.tuple #[v, .int .i64 (getI t).1]) ∧ RowOf icL 5 w' v (getI t).2 ∧ Below w.heap.size w w' := by
  have hsz := arrI_size t
  have HG : Hid (∀ a : Int, I64 a → ∀ w : World, Calls Try.prog 87 #[.string ⟨t.toArray⟩, .int .i64 a] w fun e w' => e = .returned (.tuple #[.int .u64 (vget t a).1, .int .i64 (vget t a).2.1, .int .i64 (vget t a).2.2]) ∧ Below w.heap.size w w') :=
    Lib.hid fun a ha w => ref_Get ⟨t.toArray⟩ (by rw [arrI_size]; exact ht) a ha w
  have h0 := HG.out 0 (i64_small (by omega))
  obtain ⟨n, hn⟩ : ∃ n, n = (vget t 0).1 := ⟨_, rfl⟩
  obtain ⟨a1, ha1⟩ : ∃ a, a = (vget t 0).2.1 := ⟨_, rfl⟩
  obtain ⟨e1, he1⟩ : ∃ e, e = (vget t 0).2.2 := ⟨_, rfl⟩
  have Hi1 : Hid (I64 a1) := Lib.hid (by rw [ha1]; exact vgetI_i64 ht 0)
  rw [← hn, ← ha1, ← he1] at h0
  have H0 := Lib.hid h0; clear h0
  have Hn := Lib.hid hn; have Ha1 := Lib.hid ha1; have He1 := Lib.hid he1
  clear hn ha1 he1
  have Ht := Lib.hid ht
  clear ht
  obtain ⟨N, hN⟩ : ∃ N : Int, N = (n : Int) := ⟨_, rfl⟩
  rw [← hN] at H0
  have hN0 : 0 ≤ N := by omega
  have HN := Lib.hid hN
  clear hN
  by_cases hz : e1 = 0
  · subst hz
    by_cases hbig : 4096 < N
    · have e := getI_long (t := t) He1.out.symm (by rw [← Hn.out]; have := HN.out; omega)
      rw [e]
      clear e He1 Hn Ha1
      go_enter Try.func42, Try.ntmps42
      repeat' (first | go_values | go_skip | go_guarded | go_step | go_upon)
      refine Calls.mono (H0.out _) ?_
      rintro _ w1 ⟨rfl, hb1⟩
      dsimp only
      repeat' (first | go_values | go_skip | go_guarded | go_step | go_upon)
      go_ret2
      exact ⟨_, rfl, rowI_nil, hb1⟩
    · have Hbad : Hid (∀ e : Int, e ≠ 0 → (many t n a1 []).1 = e → getI t = (e, [])) := Lib.hid fun e h h' => getI_many He1.out.symm (by have := HN.out; omega) Hn.out Ha1.out h' h
      have Hend : Hid (∀ (b : Int) l, many t n a1 [] = (0, l, b) → getI t = if b ≠ (t.length : Int) then (210, []) else (0, l)) := Lib.hid fun b l h => getI_end He1.out.symm (by have := HN.out; omega) Hn.out Ha1.out h
      clear Hn Ha1 He1
      generalize getI t = G at Hbad Hend ⊢
      have hN4 : N ≤ 4096 := by omega
      clear hbig
      go_enter Try.func42, Try.ntmps42
      repeat' (first | go_values | go_skip | go_guarded | go_step | go_upon)
      refine Calls.mono (H0.out _) ?_
      rintro _ w1 ⟨rfl, hb1⟩
      dsimp only
      repeat' (first | go_values | go_skip | go_guarded | go_step | go_upon)
      have Hl0 : Hid (OwnR icL 5 w.heap.size 118 (w1.alloc (.cells #[] 118)) (.slice (some ⟨w1.heap.size, 0, none⟩) 0 0) ([] : List (Nat → Int))) := Lib.hid (OwnR.lit0 w1 hb1.size)
      have Hbs := Lib.hid (hb1.alloc hb1.size (.cells #[] 118))
      clear H0 hb1
      go_loopw [5, 7] (fun s5 s7 wr => ∃ (k : Nat) (a : Int) (acc : List (Nat → Int)), s5 = .int .i64 a ∧ k ≤ n ∧ Hid (acc.length = k) ∧ Hid (I64 a) ∧ Hid (many t n a1 [] = many t (n - k) a acc) ∧ Hid (OwnR icL 5 w.heap.size 118 wr s7 acc) ∧ Hid (Below w.heap.size w wr)) (fun _ s7 _ => n - lenS s7)
      case atStart => exact ⟨0, a1, [], rfl, Nat.zero_le _, Lib.hid rfl, Hi1, Lib.hid rfl, Hl0, Hbs⟩
      case round =>
        clear Hl0 Hbs
        obtain ⟨k, a, acc, rfl, hk, Hal, Ha, Hm, Ho, Hb⟩ := hrel
        obtain ⟨ad, cap, hform, hcap, hmx⟩ := Ho.out.form
        rw [Hal.out] at hform hcap
        subst hform
        unfold maxLen at hmx
        by_cases hlt : (k : Int) < N
        · have hkn : k < n := by have := HN.out; omega
          have h1 := HG.out a Ha.out
          obtain ⟨g1, hg1⟩ : ∃ g, g = vget t a := ⟨_, rfl⟩
          have hI2 : I64 g1.2.1 := by rw [hg1]; exact vgetI_i64 Ht.out a
          have hnk : n - k = (n - (k + 1)) + 1 := by omega
          have Hb1 : Hid (g1.2.2 ≠ 0 → G = (g1.2.2, [])) := Lib.hid fun h => Hbad.out _ h (by rw [Hm.out, hnk]; exact many_bad (ins1_bad (by rw [hg1]) h) h)
          have Hop : Hid (g1.2.2 = 0 → (g1.1 < 1 ∨ 17 < g1.1) → G = (210, [])) := Lib.hid fun h h' => Hbad.out _ (by decide) (by rw [Hm.out, hnk]; exact many_bad (ins1_op (by rw [← hg1]; exact h) (by rw [← hg1]; exact h')) (by decide))
          have Hon : Hid (g1.2.2 = 0 → 1 ≤ g1.1 → g1.1 ≤ 17 → ∀ r, flds t (letr g1.1) (opI (g1.1 : Nat)) g1.2.1 = r → (r.1 ≠ 0 → G = (r.1, [])) ∧ (r.1 = 0 → many t n a1 [] = many t (n - (k + 1)) r.2.2 (acc ++ [r.2.1]))) := Lib.hid fun h h1 h2 r hr => by
            have e : ins1 t a = r := by rw [ins1_on (by rw [← hg1]; exact h) (by rw [← hg1]; exact h1) (by rw [← hg1]; exact h2), ← hg1]; exact hr
            refine ⟨fun h0 => Hbad.out _ h0 (by rw [Hm.out, hnk]; exact many_bad (by rw [e]) h0), fun h0 => ?_⟩
            rw [Hm.out, hnk, many_on (by rw [e]; exact h0), e]
          rw [← hg1] at h1
          clear hg1 hnk Hm
          obtain ⟨n1, a2, e2⟩ := g1
          dsimp only at h1 hI2 Hb1 Hop Hon
          have H1 := Lib.hid h1; have HI2 := Lib.hid hI2
          clear h1 hI2
          by_cases he : e2 = 0
          · subst he
            by_cases hop : 17 < n1
            · have EG := Lib.hid (Hop.out rfl (.inr hop))
              repeat' (first | go_values | go_skip | go_guarded | go_step | go_upon)
              refine Calls.mono (H1.out _) ?_
              rintro _ w2 ⟨rfl, hb2⟩
              dsimp only
              repeat' (first | go_values | go_skip | go_guarded | go_step | go_upon)
              go_ret2
              have eG := EG.out; subst eG
              exact ⟨_, rfl, rowI_nil, Hb.out.trans (hb2.mono Hb.out.size)⟩
            · by_cases hop1 : n1 < 1
              · have EG := Lib.hid (Hop.out rfl (.inl hop1))
                repeat' (first | go_values | go_skip | go_guarded | go_step | go_upon)
                refine Calls.mono (H1.out _) ?_
                rintro _ w2 ⟨rfl, hb2⟩
                dsimp only
                repeat' (first | go_values | go_skip | go_guarded | go_step | go_upon)
                go_ret2
                have eG := EG.out; subst eG
                exact ⟨_, rfl, rowI_nil, Hb.out.trans (hb2.mono Hb.out.size)⟩
              · have Hon2 := Lib.hid (Hon.out rfl (by omega) (by omega))
                have HFd := Lib.hid (ref_Fields n1 (by omega) (by omega))
                clear Hb1 Hop Hon
                repeat' (first | go_values | go_skip | go_guarded | go_step | go_upon)
                refine Calls.mono (H1.out _) ?_
                rintro _ w2 ⟨rfl, hb2⟩
                dsimp only
                have Ho2 := Lib.hid (Ho.out.keep hb2 (Nat.le_refl _))
                have Hb2 := Lib.hid (Hb.out.trans (hb2.mono Hb.out.size))
                clear hb2 Ho Hb
                repeat' (first | go_values | go_skip | go_guarded | go_step | go_upon)
                have e0 : ic (opI (n1 : Int)) = #[.int .i64 (n1 : Int), .int .i64 0, .int .i64 0, .int .i64 0, .int .i64 0] := by simp [ic, opI]
                obtain ⟨gi, hgi⟩ : ∃ g, g = w2.heap.size := ⟨_, rfl⟩
                have Hlet := Lib.hid (letr_is n1)
                have hl3 := letr_len n1
                obtain ⟨wq, hwq⟩ : ∃ wq, wq = w2.alloc (.cells #[.int .i64 (n1 : Int), .int .i64 0, .int .i64 0, .int .i64 0, .int .i64 0] 118) := ⟨_, rfl⟩
                have hbq : Below w2.heap.size w2 wq := by rw [hwq]; exact (Below.refl _ _).alloc (Nat.le_refl _) _
                have Hq0 : Hid (RG w.heap.size gi w (.slice ad k cap) acc (opI n1) wq) := Lib.hid ⟨Hb2.out.trans (hbq.mono Hb2.out.size), Ho2.out.keep hbq (Nat.le_refl _), by
                  have h := InsAt.new w2 (opI (n1 : Int))
                  rw [e0] at h
                  rw [hwq, hgi]; exact h, fun k hk => by rw [hgi]; exact (Ho2.out.below hk).2, by rw [hgi]; exact Hb2.out.size⟩
                rw [← hwq, ← hgi]
                clear hwq hgi hbq e0 Ho2 Hb2 Ha H1
                have htz : (bsT ((letr n1).map rlet)).size = (letr n1).length := by rw [bsT_size, List.length_map]
                have HX : Hid (∀ k (hk : k < (letr n1).length) (h : k < (bsT ((letr n1).map rlet)).size), ((bsT ((letr n1).map rlet))[k]'h).toNat = rlet (letr n1)[k]) := Lib.hid fun k hk h => bsT_rlet (letr n1) k hk h Hlet.out
                generalize letr n1 = l at Hlet Hon2 hl3 HFd htz HX
                generalize bsT (l.map rlet) = tx at HFd htz HX
                go_loopw [9, 12] (fun s9 s12 wi => ∃ (j : Nat) (b : Int) (u : Nat → Int), s9 = .int .i64 b ∧ s12 = .int .i64 j ∧ j ≤ l.length ∧ Hid (I64 b) ∧ Hid (u 0 = (n1 : Int)) ∧ Hid (flds t l (opI n1) a2 = flds t (l.drop j) u b) ∧ Hid (RG w.heap.size gi w (.slice ad k cap) acc u wi)) (fun _ s12 _ => l.length - (intOf s12).toNat)
                case atStart => exact ⟨0, a2, opI n1, rfl, rfl, Nat.zero_le _, HI2, Lib.hid rfl, Lib.hid rfl, Hq0⟩
                case round =>
                  clear Hq0
                  obtain ⟨j, b, u, rfl, rfl, hjl, Hbi, Hu0, Hfl, Gr⟩ := hrel
                  have hc0 := Gr.out.ins.cell 0 (by decide)
                  rw [Hu0.out] at hc0
                  by_cases hjs : j < l.length
                  · obtain ⟨x, hx⟩ : ∃ x, x = l[j] := ⟨_, rfl⟩
                    have hkt : j < tx.size := by rw [htz]; exact hjs
                    have hx8 : (tx[j]'hkt).toNat = rlet x := by rw [HX.out j hjs hkt, hx]
                    have hxl : x ∈ l := by rw [hx]; exact List.getElem_mem hjs
                    have hxi := Hlet.out x hxl
                    have hdr : l.drop j = x :: l.drop (j + 1) := by rw [hx]; exact List.drop_eq_getElem_cons hjs
                    have h1 := HG.out b Hbi.out
                    obtain ⟨g3, hg3⟩ : ∃ g, g = vget t b := ⟨_, rfl⟩
                    have hI3 : I64 g3.2.1 := by rw [hg3]; exact vgetI_i64 Ht.out b
                    have Hq1 : Hid (g3.2.2 ≠ 0 → G = (g3.2.2, [])) := Lib.hid fun h => by
                      have e : (flds t l (opI n1) a2).1 = g3.2.2 := by rw [Hfl.out, hdr]; exact flds_bad (by rw [hg3]) h
                      have := (Hon2.out _ rfl).1 (by rw [e]; exact h)
                      rwa [e] at this
                    have Hq2 : Hid (g3.2.2 = 0 → mst x < g3.1 → G = (210, [])) := Lib.hid fun h hm => by
                      have e : (flds t l (opI n1) a2).1 = 210 := by rw [Hfl.out, hdr]; exact flds_most (by rw [← hg3]; exact h) (by rw [← hg3]; exact hm)
                      have := (Hon2.out _ rfl).1 (by rw [e]; decide)
                      rwa [e] at this
                    have Hq3 : Hid (g3.2.2 = 0 → ¬ mst x < g3.1 → flds t l (opI n1) a2 = flds t (l.drop (j + 1)) (upd u (pos x) (g3.1 : Nat)) g3.2.1) := Lib.hid fun h hm => by
                      rw [Hfl.out, hdr, flds_on (by rw [← hg3]; exact h) (by rw [← hg3]; exact hm), ← hg3]
                    rw [← hg3] at h1
                    clear hg3 Hfl Hbi
                    obtain ⟨n3, a3, e3⟩ := g3
                    dsimp only at h1 hI3 Hq1 Hq2 Hq3
                    have H3 := Lib.hid h1; have HI3 := Lib.hid hI3
                    clear h1 hI3
                    have HM := Lib.hid (ref_Most x hxi)
                    have HW := Lib.hid fun a => ref_With u x hxi a
                    obtain ⟨ps, hps⟩ : ∃ ps, ps = pos x := ⟨_, rfl⟩
                    have hp1 : 1 ≤ ps := by have := pos_ge x; omega
                    obtain ⟨m, hm⟩ : ∃ m, m = mst x := ⟨_, rfl⟩
                    have Hml : Hid (m ≤ 1073741824) := Lib.hid (by rw [hm]; exact mst_le x)
                    rw [← hm] at HM Hq2 Hq3
                    rw [← hps] at HW Hq3
                    have Hup : Hid (upd u ps (n3 : Int) 0 = (n1 : Int)) := Lib.hid (by unfold upd; rw [if_neg (by omega)]; exact Hu0.out)
                    obtain ⟨c, hc⟩ : ∃ c, c = rlet x := ⟨_, rfl⟩
                    rw [← hc] at hx8 HM HW
                    have hcl : c < 128 := by rw [hc]; exact rlet_lt hxi
                    have hwm : IntKind.u64.wrap (m : Int) = m := wu64 (by omega) (u64_small (by have := Hml.out; omega))
                    clear hdr hps hm hx hxl hc
                    repeat' (first | go_values | go_skip | go_guarded | go_step | go_upon)
                    refine Calls.mono (rg_calls Gr.out (HFd.out _)) ?_
                    rintro _ w4 ⟨rfl, g4⟩
                    dsimp only
                    have hc2 := g4.ins.cell 0 (by decide)
                    rw [Hu0.out] at hc2
                    have K4 := Lib.hid g4
                    clear hc0 g4 Gr
                    repeat' (first | go_values | go_skip | go_guarded | go_step | go_upon)
                    refine Calls.mono (rg_calls K4.out (HFd.out _)) ?_
                    rintro _ w5 ⟨rfl, g5⟩
                    dsimp only
                    have K5 := Lib.hid g5
                    clear hc2 K4 g5
                    by_cases he : e3 = 0
                    · subst he
                      by_cases hgt : m < n3
                      · have EG := Lib.hid (Hq2.out rfl hgt)
                        clear Hq1 Hq2 Hq3
                        have hgt' : (m : Int) < n3 := by omega
                        clear hgt
                        repeat' (first | go_values | go_skip | go_guarded | go_step | go_upon)
                        refine Calls.mono (rg_calls K5.out (H3.out _)) ?_
                        rintro _ w6 ⟨rfl, g6⟩
                        dsimp only
                        repeat' (first | go_values | go_skip | go_guarded | go_step | go_upon)
                        refine Calls.mono (HM.out _) ?_
                        rintro _ w7 ⟨rfl, rfl⟩
                        dsimp only
                        repeat' (first | go_values | go_skip | go_guarded | go_step | go_upon)
                        go_ret2
                        have eG := EG.out; subst eG
                        exact ⟨_, rfl, rowI_nil, g6.bel⟩
                      · have Hq := Lib.hid (Hq3.out rfl hgt)
                        clear Hq1 Hq2 Hq3
                        have hle : (n3 : Int) ≤ m := by omega
                        have hw3 : IntKind.i64.wrap (n3 : Int) = n3 := IntWalk.i64_in _ (by have := Hml.out; omega)
                        clear hgt
                        repeat' (first | go_values | go_skip | go_guarded | go_step | go_upon)
                        refine Calls.mono (rg_calls K5.out (H3.out _)) ?_
                        rintro _ w6 ⟨rfl, g6⟩
                        dsimp only
                        have K6 := Lib.hid g6
                        clear K5 g6
                        repeat' (first | go_values | go_skip | go_guarded | go_step | go_upon)
                        refine Calls.mono (HM.out _) ?_
                        rintro _ w7 ⟨rfl, rfl⟩
                        dsimp only
                        repeat' (first | (with_reducible refine load_ins K6.out.ins _ rfl rfl ?_) | go_values | go_skip | go_guarded | go_step | go_upon)
                        refine Calls.mono (rg_calls K6.out (HW.out (n3 : Int) _)) ?_
                        rintro _ w8 ⟨rfl, g8⟩
                        dsimp only
                        have K8 := Lib.hid g8
                        clear K6 g8
                        repeat' (first | (with_reducible refine store_ins K8.out.ins (upd u ps (n3 : Int)) _ _ rfl rfl rfl ?_) | go_values | go_skip | go_guarded | go_step | go_upon)
                        go_roundw
                        case rel => exact ⟨j + 1, a3, upd u ps n3, rfl, by go_num, hjs, HI3, Hup, Hq, Lib.hid K8.out.store⟩
                        case measure => simp [intOf]; omega
                    · have EG := Lib.hid (Hq1.out he)
                      have hne : (e3 != 0) = true := by simpa using he
                      clear he Hq1 Hq2 Hq3
                      repeat' (first | go_values | go_skip | go_guarded | go_step | go_upon)
                      refine Calls.mono (rg_calls K5.out (H3.out _)) ?_
                      rintro _ w6 ⟨rfl, g6⟩
                      dsimp only
                      repeat' (first | go_values | go_skip | go_guarded | go_step | go_upon)
                      go_ret2
                      have eG := EG.out; subst eG
                      exact ⟨_, rfl, rowI_nil, g6.bel⟩
                  · obtain rfl : j = l.length := by omega
                    rw [List.drop_length] at Hfl
                    have Hm2 := Lib.hid ((Hon2.out _ Hfl.out).2 rfl)
                    simp only [flds] at Hm2
                    clear hjs hjl
                    repeat' (first | go_values | go_skip | go_guarded | go_step | go_upon)
                    refine Calls.mono (rg_calls Gr.out (HFd.out _)) ?_
                    rintro _ w4 ⟨rfl, g4⟩
                    dsimp only
                    have K4 := Lib.hid g4
                    clear hc0 g4 Gr
                    have hown := K4.out.own
                    have hwB : w.heap.size ≤ w4.heap.size := K4.out.bel.size
                    have hll : acc.length ≤ 4096 := by have := Hal.out; have := HN.out; omega
                    repeat' (first | (with_reducible refine load_ins K4.out.ins _ rfl rfl ?_) | (at_builtin; go_loud (refine app_one 40 w4.heap.size rfl u icL_len (by intro y hy; simp [icL] at hy; rcases hy with rfl | rfl | rfl | rfl | rfl <;> rfl) Try.underlying22 info_ins3 rfl rfl _ _ rfl rfl rfl rfl hown hwB (by omega) (by unfold maxLen; omega) ?_); intro v5 w5 hown5 hb5 hk5 _) | go_values | go_skip | go_guarded | go_step | go_upon)
                    obtain ⟨ad5, cap5, hform5, _, _⟩ := hown5.form
                    rw [List.length_append, Hal.out] at hform5
                    subst hform5
                    go_roundw
                    case rel => exact ⟨k + 1, b, acc ++ [u], rfl, hkn, Lib.hid (by rw [List.length_append, Hal.out]; rfl), Hbi, Hm2, Lib.hid hown5, Lib.hid (K4.out.bel.trans hb5)⟩
                    case measure => simp [lenS]; omega
          · have EG := Lib.hid (Hb1.out he)
            have hne : (e2 != 0) = true := by simpa using he
            clear he
            repeat' (first | go_values | go_skip | go_guarded | go_step | go_upon)
            refine Calls.mono (H1.out _) ?_
            rintro _ w2 ⟨rfl, hb2⟩
            dsimp only
            repeat' (first | go_values | go_skip | go_guarded | go_step | go_upon)
            go_ret2
            have eG := EG.out; subst eG
            exact ⟨_, rfl, rowI_nil, Hb.out.trans (hb2.mono Hb.out.size)⟩
        · obtain rfl : k = n := by have := HN.out; omega
          rw [Nat.sub_self] at Hm
          have hres := Hend.out a acc (by rw [Hm.out]; rfl)
          by_cases hal : a = (t.length : Int)
          · rw [if_neg (by simpa using hal)] at hres
            have hab : (a != (t.length : Int)) = false := by simpa using hal
            have EG := Lib.hid hres
            clear hres hal Hm Hend Hbad
            repeat' (first | go_values | go_skip | go_guarded | go_step | go_upon)
            go_ret2
            have eG := EG.out; subst eG
            exact ⟨_, rfl, Ho.out.row, Hb.out⟩
          · rw [if_pos hal] at hres
            have hab : (a != (t.length : Int)) = true := by simpa using hal
            have EG := Lib.hid hres
            clear hres hal Hm Hend Hbad
            repeat' (first | go_values | go_skip | go_guarded | go_step | go_upon)
            go_ret2
            have eG := EG.out; subst eG
            exact ⟨_, rfl, rowI_nil, Hb.out⟩
  · have e := getI_bad (t := t) He1.out.symm hz
    rw [e]
    clear e He1 Hn Ha1
    go_enter Try.func42, Try.ntmps42
    repeat' (first | go_values | go_skip | go_guarded | go_step | go_upon)
    refine Calls.mono (H0.out _) ?_
    rintro _ w1 ⟨rfl, hb1⟩
    dsimp only
    repeat' (first | go_values | go_skip | go_guarded | go_step | go_upon)
    go_ret2
    exact ⟨_, rfl, rowI_nil, hb1⟩
end Go.Proofs.Ytbomloodllddaaa
/- Walk: the reference's Get of a program (fretsawref21.Get); the row is the call's own. Condition: at most 10^15 bytes. -/
namespace Go.Proofs.Ytbomloodllddaaa
open Go.RowKit
set_option maxRecDepth 100000 in
set_option maxHeartbeats 4000000 in
theorem rg_GetO (t : List UInt8) (ht : t.length ≤ 1000000000000000) (w : World) :
    Calls Try.prog 42 #[.string ⟨t.toArray⟩] w fun e w' => ∃ v, e = .returned (.tuple #[v, .int .i64 (getI t).1]) ∧ OwnR icL 5 w.heap.size 118 w' v (getI t).2 ∧ Below w.heap.size w w' := by
  have hsz := arrI_size t
  have HG : Hid (∀ a : Int, I64 a → ∀ w : World, Calls Try.prog 87 #[.string ⟨t.toArray⟩, .int .i64 a] w fun e w' => e = .returned (.tuple #[.int .u64 (vget t a).1, .int .i64 (vget t a).2.1, .int .i64 (vget t a).2.2]) ∧ Below w.heap.size w w') :=
    Lib.hid fun a ha w => ref_Get ⟨t.toArray⟩ (by rw [arrI_size]; exact ht) a ha w
  have h0 := HG.out 0 (i64_small (by omega))
  obtain ⟨n, hn⟩ : ∃ n, n = (vget t 0).1 := ⟨_, rfl⟩
  obtain ⟨a1, ha1⟩ : ∃ a, a = (vget t 0).2.1 := ⟨_, rfl⟩
  obtain ⟨e1, he1⟩ : ∃ e, e = (vget t 0).2.2 := ⟨_, rfl⟩
  have Hi1 : Hid (I64 a1) := Lib.hid (by rw [ha1]; exact vgetI_i64 ht 0)
  rw [← hn, ← ha1, ← he1] at h0
  have H0 := Lib.hid h0; clear h0
  have Hn := Lib.hid hn; have Ha1 := Lib.hid ha1; have He1 := Lib.hid he1
  clear hn ha1 he1
  have Ht := Lib.hid ht
  clear ht
  obtain ⟨N, hN⟩ : ∃ N : Int, N = (n : Int) := ⟨_, rfl⟩
  rw [← hN] at H0
  have hN0 : 0 ≤ N := by omega
  have HN := Lib.hid hN
  clear hN
  by_cases hz : e1 = 0
  · subst hz
    by_cases hbig : 4096 < N
    · have e := getI_long (t := t) He1.out.symm (by rw [← Hn.out]; have := HN.out; omega)
      rw [e]
      clear e He1 Hn Ha1
      go_enter Try.func42, Try.ntmps42
      repeat' (first | go_values | go_skip | go_guarded | go_step | go_upon)
      refine Calls.mono (H0.out _) ?_
      rintro _ w1 ⟨rfl, hb1⟩
      dsimp only
      repeat' (first | go_values | go_skip | go_guarded | go_step | go_upon)
      go_ret2
      exact ⟨_, rfl, OwnR.nil, hb1⟩
    · have Hbad : Hid (∀ e : Int, e ≠ 0 → (many t n a1 []).1 = e → getI t = (e, [])) := Lib.hid fun e h h' => getI_many He1.out.symm (by have := HN.out; omega) Hn.out Ha1.out h' h
      have Hend : Hid (∀ (b : Int) l, many t n a1 [] = (0, l, b) → getI t = if b ≠ (t.length : Int) then (210, []) else (0, l)) := Lib.hid fun b l h => getI_end He1.out.symm (by have := HN.out; omega) Hn.out Ha1.out h
      clear Hn Ha1 He1
      generalize getI t = G at Hbad Hend ⊢
      have hN4 : N ≤ 4096 := by omega
      clear hbig
      go_enter Try.func42, Try.ntmps42
      repeat' (first | go_values | go_skip | go_guarded | go_step | go_upon)
      refine Calls.mono (H0.out _) ?_
      rintro _ w1 ⟨rfl, hb1⟩
      dsimp only
      repeat' (first | go_values | go_skip | go_guarded | go_step | go_upon)
      have Hl0 : Hid (OwnR icL 5 w.heap.size 118 (w1.alloc (.cells #[] 118)) (.slice (some ⟨w1.heap.size, 0, none⟩) 0 0) ([] : List (Nat → Int))) := Lib.hid (OwnR.lit0 w1 hb1.size)
      have Hbs := Lib.hid (hb1.alloc hb1.size (.cells #[] 118))
      clear H0 hb1
      go_loopw [5, 7] (fun s5 s7 wr => ∃ (k : Nat) (a : Int) (acc : List (Nat → Int)), s5 = .int .i64 a ∧ k ≤ n ∧ Hid (acc.length = k) ∧ Hid (I64 a) ∧ Hid (many t n a1 [] = many t (n - k) a acc) ∧ Hid (OwnR icL 5 w.heap.size 118 wr s7 acc) ∧ Hid (Below w.heap.size w wr)) (fun _ s7 _ => n - lenS s7)
      case atStart => exact ⟨0, a1, [], rfl, Nat.zero_le _, Lib.hid rfl, Hi1, Lib.hid rfl, Hl0, Hbs⟩
      case round =>
        clear Hl0 Hbs
        obtain ⟨k, a, acc, rfl, hk, Hal, Ha, Hm, Ho, Hb⟩ := hrel
        obtain ⟨ad, cap, hform, hcap, hmx⟩ := Ho.out.form
        rw [Hal.out] at hform hcap
        subst hform
        unfold maxLen at hmx
        by_cases hlt : (k : Int) < N
        · have hkn : k < n := by have := HN.out; omega
          have h1 := HG.out a Ha.out
          obtain ⟨g1, hg1⟩ : ∃ g, g = vget t a := ⟨_, rfl⟩
          have hI2 : I64 g1.2.1 := by rw [hg1]; exact vgetI_i64 Ht.out a
          have hnk : n - k = (n - (k + 1)) + 1 := by omega
          have Hb1 : Hid (g1.2.2 ≠ 0 → G = (g1.2.2, [])) := Lib.hid fun h => Hbad.out _ h (by rw [Hm.out, hnk]; exact many_bad (ins1_bad (by rw [hg1]) h) h)
          have Hop : Hid (g1.2.2 = 0 → (g1.1 < 1 ∨ 17 < g1.1) → G = (210, [])) := Lib.hid fun h h' => Hbad.out _ (by decide) (by rw [Hm.out, hnk]; exact many_bad (ins1_op (by rw [← hg1]; exact h) (by rw [← hg1]; exact h')) (by decide))
          have Hon : Hid (g1.2.2 = 0 → 1 ≤ g1.1 → g1.1 ≤ 17 → ∀ r, flds t (letr g1.1) (opI (g1.1 : Nat)) g1.2.1 = r → (r.1 ≠ 0 → G = (r.1, [])) ∧ (r.1 = 0 → many t n a1 [] = many t (n - (k + 1)) r.2.2 (acc ++ [r.2.1]))) := Lib.hid fun h h1 h2 r hr => by
            have e : ins1 t a = r := by rw [ins1_on (by rw [← hg1]; exact h) (by rw [← hg1]; exact h1) (by rw [← hg1]; exact h2), ← hg1]; exact hr
            refine ⟨fun h0 => Hbad.out _ h0 (by rw [Hm.out, hnk]; exact many_bad (by rw [e]) h0), fun h0 => ?_⟩
            rw [Hm.out, hnk, many_on (by rw [e]; exact h0), e]
          rw [← hg1] at h1
          clear hg1 hnk Hm
          obtain ⟨n1, a2, e2⟩ := g1
          dsimp only at h1 hI2 Hb1 Hop Hon
          have H1 := Lib.hid h1; have HI2 := Lib.hid hI2
          clear h1 hI2
          by_cases he : e2 = 0
          · subst he
            by_cases hop : 17 < n1
            · have EG := Lib.hid (Hop.out rfl (.inr hop))
              repeat' (first | go_values | go_skip | go_guarded | go_step | go_upon)
              refine Calls.mono (H1.out _) ?_
              rintro _ w2 ⟨rfl, hb2⟩
              dsimp only
              repeat' (first | go_values | go_skip | go_guarded | go_step | go_upon)
              go_ret2
              have eG := EG.out; subst eG
              exact ⟨_, rfl, OwnR.nil, Hb.out.trans (hb2.mono Hb.out.size)⟩
            · by_cases hop1 : n1 < 1
              · have EG := Lib.hid (Hop.out rfl (.inl hop1))
                repeat' (first | go_values | go_skip | go_guarded | go_step | go_upon)
                refine Calls.mono (H1.out _) ?_
                rintro _ w2 ⟨rfl, hb2⟩
                dsimp only
                repeat' (first | go_values | go_skip | go_guarded | go_step | go_upon)
                go_ret2
                have eG := EG.out; subst eG
                exact ⟨_, rfl, OwnR.nil, Hb.out.trans (hb2.mono Hb.out.size)⟩
              · have Hon2 := Lib.hid (Hon.out rfl (by omega) (by omega))
                have HFd := Lib.hid (ref_Fields n1 (by omega) (by omega))
                clear Hb1 Hop Hon
                repeat' (first | go_values | go_skip | go_guarded | go_step | go_upon)
                refine Calls.mono (H1.out _) ?_
                rintro _ w2 ⟨rfl, hb2⟩
                dsimp only
                have Ho2 := Lib.hid (Ho.out.keep hb2 (Nat.le_refl _))
                have Hb2 := Lib.hid (Hb.out.trans (hb2.mono Hb.out.size))
                clear hb2 Ho Hb
                repeat' (first | go_values | go_skip | go_guarded | go_step | go_upon)
                have e0 : ic (opI (n1 : Int)) = #[.int .i64 (n1 : Int), .int .i64 0, .int .i64 0, .int .i64 0, .int .i64 0] := by simp [ic, opI]
                obtain ⟨gi, hgi⟩ : ∃ g, g = w2.heap.size := ⟨_, rfl⟩
                have Hlet := Lib.hid (letr_is n1)
                have hl3 := letr_len n1
                obtain ⟨wq, hwq⟩ : ∃ wq, wq = w2.alloc (.cells #[.int .i64 (n1 : Int), .int .i64 0, .int .i64 0, .int .i64 0, .int .i64 0] 118) := ⟨_, rfl⟩
                have hbq : Below w2.heap.size w2 wq := by rw [hwq]; exact (Below.refl _ _).alloc (Nat.le_refl _) _
                have Hq0 : Hid (RG w.heap.size gi w (.slice ad k cap) acc (opI n1) wq) := Lib.hid ⟨Hb2.out.trans (hbq.mono Hb2.out.size), Ho2.out.keep hbq (Nat.le_refl _), by
                  have h := InsAt.new w2 (opI (n1 : Int))
                  rw [e0] at h
                  rw [hwq, hgi]; exact h, fun k hk => by rw [hgi]; exact (Ho2.out.below hk).2, by rw [hgi]; exact Hb2.out.size⟩
                rw [← hwq, ← hgi]
                clear hwq hgi hbq e0 Ho2 Hb2 Ha H1
                have htz : (bsT ((letr n1).map rlet)).size = (letr n1).length := by rw [bsT_size, List.length_map]
                have HX : Hid (∀ k (hk : k < (letr n1).length) (h : k < (bsT ((letr n1).map rlet)).size), ((bsT ((letr n1).map rlet))[k]'h).toNat = rlet (letr n1)[k]) := Lib.hid fun k hk h => bsT_rlet (letr n1) k hk h Hlet.out
                generalize letr n1 = l at Hlet Hon2 hl3 HFd htz HX
                generalize bsT (l.map rlet) = tx at HFd htz HX
                go_loopw [9, 12] (fun s9 s12 wi => ∃ (j : Nat) (b : Int) (u : Nat → Int), s9 = .int .i64 b ∧ s12 = .int .i64 j ∧ j ≤ l.length ∧ Hid (I64 b) ∧ Hid (u 0 = (n1 : Int)) ∧ Hid (flds t l (opI n1) a2 = flds t (l.drop j) u b) ∧ Hid (RG w.heap.size gi w (.slice ad k cap) acc u wi)) (fun _ s12 _ => l.length - (intOf s12).toNat)
                case atStart => exact ⟨0, a2, opI n1, rfl, rfl, Nat.zero_le _, HI2, Lib.hid rfl, Lib.hid rfl, Hq0⟩
                case round =>
                  clear Hq0
                  obtain ⟨j, b, u, rfl, rfl, hjl, Hbi, Hu0, Hfl, Gr⟩ := hrel
                  have hc0 := Gr.out.ins.cell 0 (by decide)
                  rw [Hu0.out] at hc0
                  by_cases hjs : j < l.length
                  · obtain ⟨x, hx⟩ : ∃ x, x = l[j] := ⟨_, rfl⟩
                    have hkt : j < tx.size := by rw [htz]; exact hjs
                    have hx8 : (tx[j]'hkt).toNat = rlet x := by rw [HX.out j hjs hkt, hx]
                    have hxl : x ∈ l := by rw [hx]; exact List.getElem_mem hjs
                    have hxi := Hlet.out x hxl
                    have hdr : l.drop j = x :: l.drop (j + 1) := by rw [hx]; exact List.drop_eq_getElem_cons hjs
                    have h1 := HG.out b Hbi.out
                    obtain ⟨g3, hg3⟩ : ∃ g, g = vget t b := ⟨_, rfl⟩
                    have hI3 : I64 g3.2.1 := by rw [hg3]; exact vgetI_i64 Ht.out b
                    have Hq1 : Hid (g3.2.2 ≠ 0 → G = (g3.2.2, [])) := Lib.hid fun h => by
                      have e : (flds t l (opI n1) a2).1 = g3.2.2 := by rw [Hfl.out, hdr]; exact flds_bad (by rw [hg3]) h
                      have := (Hon2.out _ rfl).1 (by rw [e]; exact h)
                      rwa [e] at this
                    have Hq2 : Hid (g3.2.2 = 0 → mst x < g3.1 → G = (210, [])) := Lib.hid fun h hm => by
                      have e : (flds t l (opI n1) a2).1 = 210 := by rw [Hfl.out, hdr]; exact flds_most (by rw [← hg3]; exact h) (by rw [← hg3]; exact hm)
                      have := (Hon2.out _ rfl).1 (by rw [e]; decide)
                      rwa [e] at this
                    have Hq3 : Hid (g3.2.2 = 0 → ¬ mst x < g3.1 → flds t l (opI n1) a2 = flds t (l.drop (j + 1)) (upd u (pos x) (g3.1 : Nat)) g3.2.1) := Lib.hid fun h hm => by
                      rw [Hfl.out, hdr, flds_on (by rw [← hg3]; exact h) (by rw [← hg3]; exact hm), ← hg3]
                    rw [← hg3] at h1
                    clear hg3 Hfl Hbi
                    obtain ⟨n3, a3, e3⟩ := g3
                    dsimp only at h1 hI3 Hq1 Hq2 Hq3
                    have H3 := Lib.hid h1; have HI3 := Lib.hid hI3
                    clear h1 hI3
                    have HM := Lib.hid (ref_Most x hxi)
                    have HW := Lib.hid fun a => ref_With u x hxi a
                    obtain ⟨ps, hps⟩ : ∃ ps, ps = pos x := ⟨_, rfl⟩
                    have hp1 : 1 ≤ ps := by have := pos_ge x; omega
                    obtain ⟨m, hm⟩ : ∃ m, m = mst x := ⟨_, rfl⟩
                    have Hml : Hid (m ≤ 1073741824) := Lib.hid (by rw [hm]; exact mst_le x)
                    rw [← hm] at HM Hq2 Hq3
                    rw [← hps] at HW Hq3
                    have Hup : Hid (upd u ps (n3 : Int) 0 = (n1 : Int)) := Lib.hid (by unfold upd; rw [if_neg (by omega)]; exact Hu0.out)
                    obtain ⟨c, hc⟩ : ∃ c, c = rlet x := ⟨_, rfl⟩
                    rw [← hc] at hx8 HM HW
                    have hcl : c < 128 := by rw [hc]; exact rlet_lt hxi
                    have hwm : IntKind.u64.wrap (m : Int) = m := wu64 (by omega) (u64_small (by have := Hml.out; omega))
                    clear hdr hps hm hx hxl hc
                    repeat' (first | go_values | go_skip | go_guarded | go_step | go_upon)
                    refine Calls.mono (rg_calls Gr.out (HFd.out _)) ?_
                    rintro _ w4 ⟨rfl, g4⟩
                    dsimp only
                    have hc2 := g4.ins.cell 0 (by decide)
                    rw [Hu0.out] at hc2
                    have K4 := Lib.hid g4
                    clear hc0 g4 Gr
                    repeat' (first | go_values | go_skip | go_guarded | go_step | go_upon)
                    refine Calls.mono (rg_calls K4.out (HFd.out _)) ?_
                    rintro _ w5 ⟨rfl, g5⟩
                    dsimp only
                    have K5 := Lib.hid g5
                    clear hc2 K4 g5
                    by_cases he : e3 = 0
                    · subst he
                      by_cases hgt : m < n3
                      · have EG := Lib.hid (Hq2.out rfl hgt)
                        clear Hq1 Hq2 Hq3
                        have hgt' : (m : Int) < n3 := by omega
                        clear hgt
                        repeat' (first | go_values | go_skip | go_guarded | go_step | go_upon)
                        refine Calls.mono (rg_calls K5.out (H3.out _)) ?_
                        rintro _ w6 ⟨rfl, g6⟩
                        dsimp only
                        repeat' (first | go_values | go_skip | go_guarded | go_step | go_upon)
                        refine Calls.mono (HM.out _) ?_
                        rintro _ w7 ⟨rfl, rfl⟩
                        dsimp only
                        repeat' (first | go_values | go_skip | go_guarded | go_step | go_upon)
                        go_ret2
                        have eG := EG.out; subst eG
                        exact ⟨_, rfl, OwnR.nil, g6.bel⟩
                      · have Hq := Lib.hid (Hq3.out rfl hgt)
                        clear Hq1 Hq2 Hq3
                        have hle : (n3 : Int) ≤ m := by omega
                        have hw3 : IntKind.i64.wrap (n3 : Int) = n3 := IntWalk.i64_in _ (by have := Hml.out; omega)
                        clear hgt
                        repeat' (first | go_values | go_skip | go_guarded | go_step | go_upon)
                        refine Calls.mono (rg_calls K5.out (H3.out _)) ?_
                        rintro _ w6 ⟨rfl, g6⟩
                        dsimp only
                        have K6 := Lib.hid g6
                        clear K5 g6
                        repeat' (first | go_values | go_skip | go_guarded | go_step | go_upon)
                        refine Calls.mono (HM.out _) ?_
                        rintro _ w7 ⟨rfl, rfl⟩
                        dsimp only
                        repeat' (first | (with_reducible refine load_ins K6.out.ins _ rfl rfl ?_) | go_values | go_skip | go_guarded | go_step | go_upon)
                        refine Calls.mono (rg_calls K6.out (HW.out (n3 : Int) _)) ?_
                        rintro _ w8 ⟨rfl, g8⟩
                        dsimp only
                        have K8 := Lib.hid g8
                        clear K6 g8
                        repeat' (first | (with_reducible refine store_ins K8.out.ins (upd u ps (n3 : Int)) _ _ rfl rfl rfl ?_) | go_values | go_skip | go_guarded | go_step | go_upon)
                        go_roundw
                        case rel => exact ⟨j + 1, a3, upd u ps n3, rfl, by go_num, hjs, HI3, Hup, Hq, Lib.hid K8.out.store⟩
                        case measure => simp [intOf]; omega
                    · have EG := Lib.hid (Hq1.out he)
                      have hne : (e3 != 0) = true := by simpa using he
                      clear he Hq1 Hq2 Hq3
                      repeat' (first | go_values | go_skip | go_guarded | go_step | go_upon)
                      refine Calls.mono (rg_calls K5.out (H3.out _)) ?_
                      rintro _ w6 ⟨rfl, g6⟩
                      dsimp only
                      repeat' (first | go_values | go_skip | go_guarded | go_step | go_upon)
                      go_ret2
                      have eG := EG.out; subst eG
                      exact ⟨_, rfl, OwnR.nil, g6.bel⟩
                  · obtain rfl : j = l.length := by omega
                    rw [List.drop_length] at Hfl
                    have Hm2 := Lib.hid ((Hon2.out _ Hfl.out).2 rfl)
                    simp only [flds] at Hm2
                    clear hjs hjl
                    repeat' (first | go_values | go_skip | go_guarded | go_step | go_upon)
                    refine Calls.mono (rg_calls Gr.out (HFd.out _)) ?_
                    rintro _ w4 ⟨rfl, g4⟩
                    dsimp only
                    have K4 := Lib.hid g4
                    clear hc0 g4 Gr
                    have hown := K4.out.own
                    have hwB : w.heap.size ≤ w4.heap.size := K4.out.bel.size
                    have hll : acc.length ≤ 4096 := by have := Hal.out; have := HN.out; omega
                    repeat' (first | (with_reducible refine load_ins K4.out.ins _ rfl rfl ?_) | (at_builtin; go_loud (refine app_one 40 w4.heap.size rfl u icL_len (by intro y hy; simp [icL] at hy; rcases hy with rfl | rfl | rfl | rfl | rfl <;> rfl) Try.underlying22 info_ins3 rfl rfl _ _ rfl rfl rfl rfl hown hwB (by omega) (by unfold maxLen; omega) ?_); intro v5 w5 hown5 hb5 hk5 _) | go_values | go_skip | go_guarded | go_step | go_upon)
                    obtain ⟨ad5, cap5, hform5, _, _⟩ := hown5.form
                    rw [List.length_append, Hal.out] at hform5
                    subst hform5
                    go_roundw
                    case rel => exact ⟨k + 1, b, acc ++ [u], rfl, hkn, Lib.hid (by rw [List.length_append, Hal.out]; rfl), Hbi, Hm2, Lib.hid hown5, Lib.hid (K4.out.bel.trans hb5)⟩
                    case measure => simp [lenS]; omega
          · have EG := Lib.hid (Hb1.out he)
            have hne : (e2 != 0) = true := by simpa using he
            clear he
            repeat' (first | go_values | go_skip | go_guarded | go_step | go_upon)
            refine Calls.mono (H1.out _) ?_
            rintro _ w2 ⟨rfl, hb2⟩
            dsimp only
            repeat' (first | go_values | go_skip | go_guarded | go_step | go_upon)
            go_ret2
            have eG := EG.out; subst eG
            exact ⟨_, rfl, OwnR.nil, Hb.out.trans (hb2.mono Hb.out.size)⟩
        · obtain rfl : k = n := by have := HN.out; omega
          rw [Nat.sub_self] at Hm
          have hres := Hend.out a acc (by rw [Hm.out]; rfl)
          by_cases hal : a = (t.length : Int)
          · rw [if_neg (by simpa using hal)] at hres
            have hab : (a != (t.length : Int)) = false := by simpa using hal
            have EG := Lib.hid hres
            clear hres hal Hm Hend Hbad
            repeat' (first | go_values | go_skip | go_guarded | go_step | go_upon)
            go_ret2
            have eG := EG.out; subst eG
            exact ⟨_, rfl, Ho.out, Hb.out⟩
          · rw [if_pos hal] at hres
            have hab : (a != (t.length : Int)) = true := by simpa using hal
            have EG := Lib.hid hres
            clear hres hal Hm Hend Hbad
            repeat' (first | go_values | go_skip | go_guarded | go_step | go_upon)
            go_ret2
            have eG := EG.out; subst eG
            exact ⟨_, rfl, OwnR.nil, Hb.out⟩
  · have e := getI_bad (t := t) He1.out.symm hz
    rw [e]
    clear e He1 Hn Ha1
    go_enter Try.func42, Try.ntmps42
    repeat' (first | go_values | go_skip | go_guarded | go_step | go_upon)
    refine Calls.mono (H0.out _) ?_
    rintro _ w1 ⟨rfl, hb1⟩
    dsimp only
    repeat' (first | go_values | go_skip | go_guarded | go_step | go_upon)
    go_ret2
    exact ⟨_, rfl, OwnR.nil, hb1⟩
end Go.Proofs.Ytbomloodllddaaa
