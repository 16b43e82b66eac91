/- Walk: instructions are read from bytes (isa.Get). Condition: the text is of at most 10^15 bytes. -/
import Derived.Test.YtbomloodllddaaaPk19
import Derived.Test.YtbomloodllddaaaPk10
import Derived.Test.YtbomloodllddaaaPk11
import Derived.Test.YtbomloodllddaaaPk02
import Derived.Test.YtbomloodllddaaaPk00
namespace Go.Proofs.Ytbomloodllddaaa
open Go.RowKit
theorem vgetI_i64 {s : List UInt8} (hs : s.length ≤ 1000000000000000) (a : Int) : I64 (vget s a).2.1 := by
  rcases vget_cases s a with ⟨e, h, _⟩ | ⟨m, k, n, rfl, hk, hmk, _, _, h⟩
  · rw [h]; exact i64_small (by simp)
  · rw [h]; exact i64_small (by dsimp only; omega)
theorem vgetI_u64 (s : List UInt8) (a : Int) : U64 (vget s a).1 := by
  rcases vget_cases s a with ⟨e, h, _⟩ | ⟨m, k, n, rfl, hk, hmk, hn, _, h⟩
  · rw [h]; unfold U64; omega
  · rw [h]; assumption
theorem arrI_size (t : List UInt8) : (⟨t.toArray⟩ : ByteArray).size = t.length := by simp [ByteArray.size]
theorem rowI_nil {α : Type} {f : α → List Value} {sz : Nat} {w : World} : RowOf f sz w (.slice none 0 0) ([] : List α) := ⟨none, 0, rfl, Nat.le_refl _, Nat.zero_le _, by simp, .inl rfl⟩
def FormsAt (w : World) (g : Nat) : Prop := w.heap[g]? = some (.cells formsC 131 (0, 0))
theorem FormsAt.lt {w : World} {g : Nat} (h : FormsAt w g) : g < w.heap.size := (Array.getElem?_eq_some_iff.1 h).1
theorem FormsAt.keep {w w' : World} {g : Nat} (h : FormsAt w g) (hb : Below w.heap.size w w') : FormsAt w' g := by
  unfold FormsAt; rw [hb.block g h.lt]; exact h
theorem FormsAt.other {w : World} {g g' k : Nat} {x : Value} (h : FormsAt w g) (hg : g ≠ g') : FormsAt (w.setCell ⟨g', k, none⟩ x) g := by
  unfold FormsAt; rw [heap_setCell_other _ _ _ _ (by dsimp only; omega)]; exact h
theorem FormsAt.iter {w : World} {g kk k : Nat} {s : ByteArray} (h : FormsAt w g) (hk : w.heap[kk]? = some (.stringIter s k)) (k' : Nat) : FormsAt (w.iterAt kk s k') g := by
  unfold FormsAt
  rw [Lib.iterAt_other w kk g s k' (fun e => by subst e; unfold FormsAt at h; rw [hk] at h; cases h)]; exact h
theorem FormsAt.cell {w : World} {g : Nat} (h : FormsAt w g) (o : Nat) (h1 : 1 ≤ o) (h2 : o ≤ 17) : w.cell? ⟨g, o * 2 + 1, none⟩ = some (.string (bsT (letr o))) := by
  rw [cell_of_row w g _ _ _ _ h]
  rcases (by omega : o = 1 ∨ o = 2 ∨ o = 3 ∨ o = 4 ∨ o = 5 ∨ o = 6 ∨ o = 7 ∨ o = 8 ∨ o = 9 ∨ o = 10 ∨ o = 11 ∨ o = 12 ∨ o = 13 ∨ o = 14 ∨ o = 15 ∨ o = 16 ∨ o = 17) with rfl | rfl | rfl | rfl | rfl | rfl | rfl | rfl | rfl | rfl | rfl | rfl | rfl | rfl | rfl | rfl | rfl <;> rfl
theorem info_ins3 : (Try.prog.info? 118).map (fun i => (i.zero, i.size, i.bytes)) = some (some (.agg #[.int .i64 0, .int .i64 0, .int .i64 0, .int .i64 0, .int .i64 0]), 5, 40) := by kernel_rfl
theorem OwnR.iterI {α : Type} {f : α → List Value} {sz B : Nat} {e : TypeId} {w : World} {v : Value} {l : List α} {kk k : Nat} {s : ByteArray} (h : OwnR f sz B e w v l) (hk : w.heap[kk]? = some (.stringIter s k)) (k' : Nat) : OwnR f sz B e (w.iterAt kk s k') v l :=
  h.other fun j hj => by
    obtain ⟨cs, fz, hc⟩ := h.typed hj
    exact Lib.iterAt_other w kk j s k' (fun e => by subst e; rw [hk] at hc; cases hc)
set_option maxRecDepth 100000 in
set_option maxHeartbeats 4000000 in
theorem isa_GetO (t : List UInt8) (ht : t.length ≤ 1000000000000000) (w : World) :
    Calls Try.prog 79 #[.string ⟨t.toArray⟩] w fun e w' => ∃ v, e = .returned (.tuple #[v, .int .i64 (getI t).1]) ∧ OwnR icL 5 w.heap.size 118 w' v (getI t).2 ∧ Below w.heap.size w w' := by
  have hsz := arrI_size t
  have HG : Hid (∀ a : Int, I64 a → ∀ w : World, Calls Try.prog 107 #[.string ⟨t.toArray⟩, .int .i64 a] w fun e w' => e = .returned (.tuple #[.int .u64 (vget t a).1, .int .i64 (vget t a).2.1, .int .i64 (vget t a).2.2]) ∧ w = w') :=
    Lib.hid fun a ha w => wire_Get ⟨t.toArray⟩ (by rw [arrI_size]; exact ht) a ha w
  have h0 := HG.out 0 (i64_small (by omega))
  obtain ⟨n, hn⟩ : ∃ n, n = (vget t 0).1 := ⟨_, rfl⟩
  obtain ⟨a1, ha1⟩ : ∃ a, a = (vget t 0).2.1 := ⟨_, rfl⟩
  obtain ⟨e1, he1⟩ : ∃ e, e = (vget t 0).2.2 := ⟨_, rfl⟩
  have Hi1 : Hid (I64 a1) := Lib.hid (by rw [ha1]; exact vgetI_i64 ht 0)
  rw [← hn, ← ha1, ← he1] at h0
  have H0 := Lib.hid h0; clear h0
  have Hn := Lib.hid hn; have Ha1 := Lib.hid ha1; have He1 := Lib.hid he1
  clear hn ha1 he1
  have Ht := Lib.hid ht
  clear ht
  obtain ⟨N, hN⟩ : ∃ N : Int, N = (n : Int) := ⟨_, rfl⟩
  rw [← hN] at H0
  have hN0 : 0 ≤ N := by omega
  have HN := Lib.hid hN
  clear hN
  by_cases hz : e1 = 0
  · subst hz
    by_cases hbig : 4096 < N
    · have e := getI_long (t := t) He1.out.symm (by rw [← Hn.out]; have := HN.out; omega)
      rw [e]
      clear e He1 Hn Ha1
      go_enter Try.func79, Try.ntmps79
      repeat' (first | go_values | go_skip | go_guarded | go_step | go_upon)
      refine Calls.mono (H0.out _) ?_
      rintro _ w1 ⟨rfl, rfl⟩
      dsimp only
      repeat' (first | go_values | go_skip | go_guarded | go_step | go_upon)
      go_ret2
      exact ⟨_, rfl, OwnR.nil, Below.refl _ _⟩
    · have Hbad : Hid (∀ e : Int, e ≠ 0 → (many t n a1 []).1 = e → getI t = (e, [])) := Lib.hid fun e h h' => getI_many He1.out.symm (by have := HN.out; omega) Hn.out Ha1.out h' h
      have Hend : Hid (∀ (b : Int) l, many t n a1 [] = (0, l, b) → getI t = if b ≠ (t.length : Int) then (210, []) else (0, l)) := Lib.hid fun b l h => getI_end He1.out.symm (by have := HN.out; omega) Hn.out Ha1.out h
      clear Hn Ha1 He1
      generalize getI t = G at Hbad Hend ⊢
      go_enter Try.func79, Try.ntmps79
      repeat' (first | go_values | go_skip | go_guarded | go_step | go_upon)
      refine Calls.mono (H0.out _) ?_
      rintro _ w1 ⟨rfl, rfl⟩
      dsimp only
      repeat' (first | go_values | go_skip | go_guarded | go_step | go_upon)
      refine Calls.mono (isa_forms _) ?_
      rintro _ wf ⟨rfl, hbf⟩
      dsimp only
      repeat' (first | (with_reducible refine store_forms _ _ rfl rfl rfl ?_) | go_values | go_skip | go_guarded | go_step | go_upon)
      have hN4 : N ≤ 4096 := by omega
      clear hbig
      obtain ⟨gf, hgf⟩ : ∃ g, g = wf.heap.size := ⟨_, rfl⟩
      obtain ⟨ws, hws⟩ : ∃ ws, ws = (wf.alloc (.cells zeroF 131)).setRow wf.heap.size formsC := ⟨_, rfl⟩
      have Hf : Hid (FormsAt ws gf) := Lib.hid (by rw [hws, hgf]; exact setRow_heap _ _ _ _ _ _ (Go.heap_alloc_new _ _))
      have Hbs : Hid (Below w.heap.size w ws) := Lib.hid (by rw [hws]; exact hbf.trans ((Below.row ((Below.refl _ _).alloc (Nat.le_refl _) _) (Nat.le_refl _) _).mono hbf.size))
      have hgw : w.heap.size ≤ gf := by rw [hgf]; exact hbf.size
      rw [← hws, ← hgf]
      clear hws hgf hbf wf H0
      go_loopw [5, 7, 34] (fun s5 s7 s34 wr => ∃ (k : Nat) (a : Int) (acc : List (Nat → Int)), s5 = .int .i64 a ∧ s34 = .int .u64 k ∧ k ≤ n ∧ Hid (acc.length ≤ k) ∧ Hid (I64 a) ∧ Hid (many t n a1 [] = many t (n - k) a acc) ∧ Hid (OwnR icL 5 w.heap.size 118 wr s7 acc) ∧ Hid (FormsAt wr gf) ∧ Hid (Below w.heap.size w wr)) (fun _ _ s34 _ => n - (intOf s34).toNat)
      case atStart => exact ⟨0, a1, [], rfl, rfl, Nat.zero_le _, Lib.hid (Nat.le_refl _), Hi1, Lib.hid rfl, Lib.hid OwnR.nil, Hf, Hbs⟩
      case round =>
        obtain ⟨k, a, acc, rfl, rfl, hk, Hal, Ha, Hm, Ho, Hfo, Hb⟩ := hrel
        by_cases hlt : (k : Int) < N
        · have hkn : k < n := by have := HN.out; omega
          have h1 := HG.out a Ha.out
          obtain ⟨g1, hg1⟩ : ∃ g, g = vget t a := ⟨_, rfl⟩
          have hI2 : I64 g1.2.1 := by rw [hg1]; exact vgetI_i64 Ht.out a
          have hU1 : U64 g1.1 := by rw [hg1]; exact vgetI_u64 t a
          have hnk : n - k = (n - (k + 1)) + 1 := by omega
          have Hb1 : Hid (g1.2.2 ≠ 0 → G = (g1.2.2, [])) := Lib.hid fun h => Hbad.out _ h (by rw [Hm.out, hnk]; exact many_bad (ins1_bad (by rw [hg1]) h) h)
          have Hop : Hid (g1.2.2 = 0 → (g1.1 < 1 ∨ 17 < g1.1) → G = (210, [])) := Lib.hid fun h h' => Hbad.out _ (by decide) (by rw [Hm.out, hnk]; exact many_bad (ins1_op (by rw [← hg1]; exact h) (by rw [← hg1]; exact h')) (by decide))
          have Hon : Hid (g1.2.2 = 0 → 1 ≤ g1.1 → g1.1 ≤ 17 → ∀ r, flds t (letr g1.1) (opI (g1.1 : Nat)) g1.2.1 = r → (r.1 ≠ 0 → G = (r.1, [])) ∧ (r.1 = 0 → many t n a1 [] = many t (n - (k + 1)) r.2.2 (acc ++ [r.2.1]))) := Lib.hid fun h h1 h2 r hr => by
            have e : ins1 t a = r := by rw [ins1_on (by rw [← hg1]; exact h) (by rw [← hg1]; exact h1) (by rw [← hg1]; exact h2), ← hg1]; exact hr
            refine ⟨fun h0 => Hbad.out _ h0 (by rw [Hm.out, hnk]; exact many_bad (by rw [e]) h0), fun h0 => ?_⟩
            rw [Hm.out, hnk, many_on (by rw [e]; exact h0), e]
          rw [← hg1] at h1
          clear hg1 hnk Hm
          obtain ⟨n1, a2, e2⟩ := g1
          dsimp only at h1 hI2 hU1 Hb1 Hop Hon
          have H1 := Lib.hid h1; have HI2 := Lib.hid hI2; have HU1 := Lib.hid hU1
          clear h1 hI2 hU1
          by_cases he : e2 = 0
          · subst he
            by_cases hop : 17 < n1
            · have EG := Lib.hid (Hop.out rfl (.inr hop))
              repeat' (first | go_values | go_skip | go_guarded | go_step | go_upon)
              refine Calls.mono (H1.out _) ?_
              rintro _ w2 ⟨rfl, rfl⟩
              dsimp only
              repeat' (first | go_values | go_skip | go_guarded | go_step | go_upon)
              go_ret2
              have eG := EG.out; subst eG
              exact ⟨_, rfl, OwnR.nil, Hb.out⟩
            · have HK := Lib.hid fun w => isa_known (n1 : Int) w
              by_cases hop1 : n1 < 1
              · have EG := Lib.hid (Hop.out rfl (.inl hop1))
                have ek : (decide ((1 : Int) ≤ n1) && decide ((n1 : Int) ≤ 17)) = false := by simp; omega
                rw [ek] at HK
                repeat' (first | go_values | go_skip | go_guarded | go_step | go_upon)
                refine Calls.mono (H1.out _) ?_
                rintro _ w2 ⟨rfl, rfl⟩
                dsimp only
                repeat' (first | go_values | go_skip | go_guarded | go_step | go_upon)
                refine Calls.mono (HK.out _) ?_
                rintro _ w3 ⟨rfl, rfl⟩
                dsimp only
                repeat' (first | go_values | go_skip | go_guarded | go_step | go_upon)
                go_ret2
                have eG := EG.out; subst eG
                exact ⟨_, rfl, OwnR.nil, Hb.out⟩
              · have ek : (decide ((1 : Int) ≤ n1) && decide ((n1 : Int) ≤ 17)) = true := by simp; omega
                rw [ek] at HK
                have Hon2 := Lib.hid (Hon.out rfl (by omega) (by omega))
                clear Hb1 Hop Hon ek
                repeat' (first | go_values | go_skip | go_guarded | go_step | go_upon)
                refine Calls.mono (H1.out _) ?_
                rintro _ w2 ⟨rfl, rfl⟩
                dsimp only
                repeat' (first | go_values | go_skip | go_guarded | go_step | go_upon)
                refine Calls.mono (HK.out _) ?_
                rintro _ w3 ⟨rfl, rfl⟩
                dsimp only
                have e0 : ic (opI (n1 : Int)) = #[.int .i64 (n1 : Int), .int .i64 0, .int .i64 0, .int .i64 0, .int .i64 0] := by simp [ic, opI]
                have hbx : Below wr.heap.size wr (wr.alloc (.cells #[.int .i64 (n1 : Int), .int .i64 0, .int .i64 0, .int .i64 0, .int .i64 0] 118)) := (Below.refl _ _).alloc (Nat.le_refl _) _
                have hfa := (Hfo.out.keep hbx).cell n1 (by omega) (by omega)
                repeat' (first | go_values | go_skip | go_guarded | go_step | go_upon)
                obtain ⟨gi, hgi⟩ : ∃ g, g = wr.heap.size := ⟨_, rfl⟩
                have Hlet := Lib.hid (letr_is n1)
                obtain ⟨wq, hwq⟩ : ∃ wq, wq = (wr.alloc (.cells #[.int .i64 (n1 : Int), .int .i64 0, .int .i64 0, .int .i64 0, .int .i64 0] 118)).iter (bsT (letr n1)) 0 := ⟨_, rfl⟩
                have hbq : Below wr.heap.size wr wq := by rw [hwq]; exact hbx.alloc (by simp) _
                have Hit : Hid (wq.heap[gi + 1]? = some (Obj.stringIter (bsT (letr n1)) 0)) := Lib.hid (by
                  have h := World.iter_heap (wr.alloc (.cells #[.int .i64 (n1 : Int), .int .i64 0, .int .i64 0, .int .i64 0, .int .i64 0] 118)) (bsT (letr n1)) 0
                  rw [World.size_alloc] at h
                  rw [hwq, hgi]; exact h)
                have Hin : Hid (InsAt wq gi (opI n1)) := Lib.hid (by
                  have h := InsAt.new wr (opI (n1 : Int))
                  rw [e0] at h
                  rw [hwq, hgi]; exact h.keep ((Below.refl _ _).alloc (Nat.le_refl _) _))
                have Hoq := Lib.hid (Ho.out.keep hbq (Nat.le_refl _))
                have Hfq := Lib.hid (Hfo.out.keep hbq)
                have Hbq := Lib.hid (Hb.out.trans (hbq.mono Hb.out.size))
                have Hob : Hid (∀ k, u7.ownBlock = some k → k < gi) := Lib.hid fun k hk => by rw [hgi]; exact (Ho.out.below hk).2
                have hgg : gf < gi := by rw [hgi]; exact Hfo.out.lt
                have hwg : w.heap.size ≤ gi := by omega
                rw [← hwq, ← hgi]
                clear hwq hgi hbq hbx hfa e0 Ho Hfo Hb Ha H1 HK hop hop1
                generalize letr n1 = l at Hlet Hon2 Hit ⊢
                go_loopw [5] (fun s5 wi => ∃ (j : Nat) (b : Int) (u : Nat → Int), s5 = .int .i64 b ∧ wi.heap[gi + 1]? = some (Obj.stringIter (bsT l) j) ∧ j ≤ l.length ∧ Hid (I64 b) ∧ Hid (InsAt wi gi u) ∧ Hid (flds t l (opI n1) a2 = flds t (l.drop j) u b) ∧ Hid (OwnR icL 5 w.heap.size 118 wi u7 acc) ∧ Hid (FormsAt wi gf) ∧ Hid (Below w.heap.size w wi)) (fun _ wi => l.length - wi.iterPos (gi + 1))
                case atStart => exact ⟨0, a2, opI n1, rfl, Hit.out, Nat.zero_le _, HI2, Hin, Lib.hid rfl, Hoq, Hfq, Hbq⟩
                case round =>
                  clear Hit Hin Hoq Hfq Hbq
                  obtain ⟨j, b, u, rfl, hj0, hjl, Hbi, Gi, Hfl, Go, Gf, Gb⟩ := hrel
                  by_cases hjs : j < l.length
                  · have hjb : j < (bsT l).size := by rw [bsT_size]; exact hjs
                    obtain ⟨x, hx⟩ : ∃ x, x = l[j] := ⟨_, rfl⟩
                    have hxl : x ∈ l := by rw [hx]; exact List.getElem_mem hjs
                    have hxi := Hlet.out x hxl
                    have hx8 : ((bsT l)[j]'hjb).toNat = x := by rw [bsT_get l j hjb hjs fun y hy => by have := Hlet.out y hy; unfold IsL at this; omega, hx]
                    have hnx : ∀ ty, (Instr.next (.pointer (some ⟨gi + 1, 0, none⟩)) true ty).run Try.prog wr = _ := fun ty => Lib.run_next_ascii_at wr (gi + 1) (bsT l) j ty hj0 hjb (by rw [hx8]; unfold IsL at hxi; omega)
                    rw [hx8] at hnx
                    have hdr : l.drop j = x :: l.drop (j + 1) := by rw [hx]; exact List.drop_eq_getElem_cons hjs
                    obtain ⟨wi, hwi⟩ : ∃ wi, wi = wr.iterAt (gi + 1) (bsT l) (j + 1) := ⟨_, rfl⟩
                    have Hwk : Hid (wi.heap[gi + 1]? = some (Obj.stringIter (bsT l) (j + 1))) := Lib.hid (by rw [hwi]; exact Lib.iterAt_heap _ _ _ _ _ hj0)
                    have K0 : Hid (InsAt wi gi u) := Lib.hid (by rw [hwi]; exact Gi.out.iter hj0 _)
                    have Ko : Hid (OwnR icL 5 w.heap.size 118 wi u7 acc) := Lib.hid (by rw [hwi]; exact Go.out.iterI hj0 _)
                    have Kf : Hid (FormsAt wi gf) := Lib.hid (by rw [hwi]; exact Gf.out.iter hj0 _)
                    have Kb : Hid (Below w.heap.size w wi) := Lib.hid (by rw [hwi]; exact Lib.below_iterAt Gb.out (by omega) _ _)
                    rw [← hwi] at hnx
                    have hp0 : wr.iterPos (gi + 1) = j := iterPos_of hj0
                    have h1 := HG.out b Hbi.out
                    obtain ⟨g3, hg3⟩ : ∃ g, g = vget t b := ⟨_, rfl⟩
                    have hI3 : I64 g3.2.1 := by rw [hg3]; exact vgetI_i64 Ht.out b
                    have Hq1 : Hid (g3.2.2 ≠ 0 → G = (g3.2.2, [])) := Lib.hid fun h => by
                      have e : (flds t l (opI n1) a2).1 = g3.2.2 := by rw [Hfl.out, hdr]; exact flds_bad (by rw [hg3]) h
                      have := (Hon2.out _ rfl).1 (by rw [e]; exact h)
                      rwa [e] at this
                    have Hq2 : Hid (g3.2.2 = 0 → mst x < g3.1 → G = (210, [])) := Lib.hid fun h hm => by
                      have e : (flds t l (opI n1) a2).1 = 210 := by rw [Hfl.out, hdr]; exact flds_most (by rw [← hg3]; exact h) (by rw [← hg3]; exact hm)
                      have := (Hon2.out _ rfl).1 (by rw [e]; decide)
                      rwa [e] at this
                    have Hq3 : Hid (g3.2.2 = 0 → ¬ mst x < g3.1 → flds t l (opI n1) a2 = flds t (l.drop (j + 1)) (upd u (pos x) (g3.1 : Nat)) g3.2.1) := Lib.hid fun h hm => by
                      rw [Hfl.out, hdr, flds_on (by rw [← hg3]; exact h) (by rw [← hg3]; exact hm), ← hg3]
                    rw [← hg3] at h1
                    clear hg3 Hfl Hbi
                    obtain ⟨n3, a3, e3⟩ := g3
                    dsimp only at h1 hI3 Hq1 Hq2 Hq3
                    have H3 := Lib.hid h1; have HI3 := Lib.hid hI3
                    clear h1 hI3
                    have HF := Lib.hid (isa_field x hxi gi)
                    obtain ⟨ps, hps⟩ : ∃ ps, ps = pos x := ⟨_, rfl⟩
                    have hp1 : ps < 5 := by have := pos_ge x; omega
                    obtain ⟨m, hm⟩ : ∃ m, m = mst x := ⟨_, rfl⟩
                    have Hml : Hid (m ≤ 1073741824) := Lib.hid (by rw [hm]; exact mst_le x)
                    rw [← hps, ← hm] at HF
                    rw [← hm] at Hq2 Hq3
                    rw [← hps] at Hq3
                    have hcell := K0.out.cell ps hp1
                    generalize u ps = a9 at hcell
                    have hfree := K0.out.free ps
                    have hwm : IntKind.u64.wrap (m : Int) = m := wu64 (by omega) (u64_small (by have := Hml.out; omega))
                    clear hwi hdr hps hm hx hxl hx8 hjb hj0 Gi Go Gf Gb
                    by_cases he : e3 = 0
                    · subst he
                      by_cases hgt : m < n3
                      · have EG := Lib.hid (Hq2.out rfl hgt)
                        clear Hq1 Hq2 Hq3
                        have hgt' : (m : Int) < n3 := by omega
                        clear hgt
                        repeat' (first | go_values | go_skip | go_guarded | go_step | go_upon)
                        refine Calls.mono (H3.out _) ?_
                        rintro _ w2 ⟨rfl, rfl⟩
                        dsimp only
                        repeat' (first | go_values | go_skip | go_guarded | go_step | go_upon)
                        refine Calls.mono (HF.out _) ?_
                        rintro _ w3 ⟨rfl, rfl⟩
                        dsimp only
                        repeat' (first | go_values | go_skip | go_guarded | go_step | go_upon)
                        go_ret2
                        have eG := EG.out; subst eG
                        exact ⟨_, rfl, OwnR.nil, Kb.out⟩
                      · have Hq := Lib.hid (Hq3.out rfl hgt)
                        clear Hq1 Hq2 Hq3
                        have hle : (n3 : Int) ≤ m := by omega
                        have hw3 : IntKind.i64.wrap (n3 : Int) = n3 := IntWalk.i64_in _ (by have := Hml.out; omega)
                        clear hgt
                        repeat' (first | go_values | go_skip | go_guarded | go_step | go_upon)
                        refine Calls.mono (H3.out _) ?_
                        rintro _ w2 ⟨rfl, rfl⟩
                        dsimp only
                        repeat' (first | go_values | go_skip | go_guarded | go_step | go_upon)
                        refine Calls.mono (HF.out _) ?_
                        rintro _ w3 ⟨rfl, rfl⟩
                        dsimp only
                        repeat' (first | go_values | go_skip | go_guarded | go_step | go_upon)
                        go_roundw
                        case rel => exact ⟨j + 1, a3, upd u ps n3, rfl, by rw [heap_setCell_other _ _ _ _ (by dsimp only; omega)]; exact Hwk.out, hjs, HI3, Lib.hid (K0.out.put ps n3 hp1 fun _ _ => rfl), Hq, Lib.hid (Ko.out.setOther fun k hk => Nat.ne_of_lt (Hob.out k hk)), Lib.hid (Kf.out.other (by omega)), Lib.hid (Kb.out.setCell (by dsimp only; omega) _)⟩
                        case measure =>
                          have e : (wi.setCell ⟨gi, ps, none⟩ (.int .i64 n3)).iterPos (gi + 1) = j + 1 := iterPos_of (by rw [heap_setCell_other _ _ _ _ (by dsimp only; omega)]; exact Hwk.out)
                          rw [e, hp0]; omega
                    · have EG := Lib.hid (Hq1.out he)
                      have hne : (e3 != 0) = true := by simpa using he
                      clear he Hq1 Hq2 Hq3
                      repeat' (first | go_values | go_skip | go_guarded | go_step | go_upon)
                      refine Calls.mono (H3.out _) ?_
                      rintro _ w2 ⟨rfl, rfl⟩
                      dsimp only
                      repeat' (first | go_values | go_skip | go_guarded | go_step | go_upon)
                      go_ret2
                      have eG := EG.out; subst eG
                      exact ⟨_, rfl, OwnR.nil, Kb.out⟩
                  · obtain rfl : j = l.length := by omega
                    rw [List.drop_length] at Hfl
                    have hnx : ∀ ty, (Instr.next (.pointer (some ⟨gi + 1, 0, none⟩)) true ty).run Try.prog wr = _ := fun ty => Lib.run_next_end_at wr (gi + 1) (bsT l) l.length ty hj0 (by rw [bsT_size]; omega)
                    have Hm2 := Lib.hid ((Hon2.out _ Hfl.out).2 rfl)
                    simp only [flds] at Hm2
                    have hown := Go.out
                    have hwB : w.heap.size ≤ wr.heap.size := Gb.out.size
                    have hll : acc.length ≤ 4096 := by have := Hal.out; have := HN.out; omega
                    have h34 : IntKind.u64.wrap ((k : Int) + 1) = ((k + 1 : Nat) : Int) := by rw [wu64 (by omega) (u64_small (by have := HN.out; omega))]; omega
                    clear hjs hjl hj0
                    repeat' (first | (with_reducible refine load_ins Gi.out _ rfl rfl ?_) | (at_builtin; go_loud (refine app_one 40 wr.heap.size rfl u icL_len (by intro y hy; simp [icL] at hy; rcases hy with rfl | rfl | rfl | rfl | rfl <;> rfl) Try.underlying22 info_ins3 rfl rfl _ _ rfl rfl rfl rfl hown hwB (by omega) (by unfold maxLen; omega) ?_); intro v4 w4 hown4 hb4 hk4 _) | go_values | go_skip | go_guarded | go_step | go_upon)
                    go_roundw
                    case rel => exact ⟨k + 1, b, acc ++ [u], rfl, rfl, hkn, Lib.hid (by rw [List.length_append]; have := Hal.out; simp; omega), Hbi, Hm2, Lib.hid hown4, Lib.hid (hk4 _ _ _ _ Gf.out (by decide)), Lib.hid (Gb.out.trans hb4)⟩
                    case measure => simp [intOf]; omega
          · have EG := Lib.hid (Hb1.out he)
            have hne : (e2 != 0) = true := by simpa using he
            clear he
            repeat' (first | go_values | go_skip | go_guarded | go_step | go_upon)
            refine Calls.mono (H1.out _) ?_
            rintro _ w2 ⟨rfl, rfl⟩
            dsimp only
            repeat' (first | go_values | go_skip | go_guarded | go_step | go_upon)
            go_ret2
            have eG := EG.out; subst eG
            exact ⟨_, rfl, OwnR.nil, Hb.out⟩
        · obtain rfl : k = n := by have := HN.out; omega
          rw [Nat.sub_self] at Hm
          have hres := Hend.out a acc (by rw [Hm.out]; rfl)
          by_cases hal : a = (t.length : Int)
          · rw [if_neg (by simpa using hal)] at hres
            have hab : (a != (t.length : Int)) = false := by simpa using hal
            have EG := Lib.hid hres
            clear hres hal Hm Hend Hbad
            repeat' (first | go_values | go_skip | go_guarded | go_step | go_upon)
            go_ret2
            have eG := EG.out; subst eG
            exact ⟨_, rfl, Ho.out, Hb.out⟩
          · rw [if_pos hal] at hres
            have hab : (a != (t.length : Int)) = true := by simpa using hal
            have EG := Lib.hid hres
            clear hres hal Hm Hend Hbad
            repeat' (first | go_values | go_skip | go_guarded | go_step | go_upon)
            go_ret2
            have eG := EG.out; subst eG
            exact ⟨_, rfl, OwnR.nil, Hb.out⟩
  · have e := getI_bad (t := t) He1.out.symm hz
    rw [e]
    clear e He1 Hn Ha1
    go_enter Try.func79, Try.ntmps79
    repeat' (first | go_values | go_skip | go_guarded | go_step | go_upon)
    refine Calls.mono (H0.out _) ?_
    rintro _ w1 ⟨rfl, rfl⟩
    dsimp only
    repeat' (first | go_values | go_skip | go_guarded | go_step | go_upon)
    go_ret2
    exact ⟨_, rfl, OwnR.nil, Below.refl _ _⟩
theorem isa_Get (t : List UInt8) (ht : t.length ≤ 1000000000000000) (w : World) :
    Calls Try.prog 79 #[.string ⟨t.toArray⟩] w fun e w' => ∃ v, e = .returned (.tuple #[v, .int .i64 (getI t).1]) ∧ RowOf icL 5 w' v (getI t).2 ∧ Below w.heap.size w w' :=
  (isa_GetO t ht w).mono fun _ _ ⟨v, h1, h2, h3⟩ => ⟨v, h1, h2.row, h3⟩
end Go.Proofs.Ytbomloodllddaaa
/- Walk: two lists of instructions, compared by the reference. Conditions: they lie in memory, and are alike. -/
namespace Go.Proofs.Ytbomloodllddaaa
open Go.RowKit
theorem Row5.cells {w : World} {b off : Nat} {l : List (Nat → Int)} (h : ∀ (i : Nat) (x : Nat → Int) (j : Nat), l[i]? = some x → j < 5 → w.cell? ⟨b, off + (i * 5 + j), none⟩ = (icL x)[j]?) (k : Nat) (hk : k < l.length) :
    w.cell? ⟨b, off + k * 5, none⟩ = some (.int .i64 (l.getD k (fun _ => 0) 0)) ∧ w.cell? ⟨b, off + k * 5 + 1, none⟩ = some (.int .i64 (l.getD k (fun _ => 0) 1)) ∧ w.cell? ⟨b, off + k * 5 + 2, none⟩ = some (.int .i64 (l.getD k (fun _ => 0) 2)) ∧
      w.cell? ⟨b, off + k * 5 + 3, none⟩ = some (.int .i64 (l.getD k (fun _ => 0) 3)) ∧ w.cell? ⟨b, off + k * 5 + 4, none⟩ = some (.int .i64 (l.getD k (fun _ => 0) 4)) := by
  have hx : l[k]? = some (l.getD k (fun _ => 0)) := by rw [List.getD_eq_getElem?_getD, List.getElem?_eq_getElem hk]; rfl
  refine ⟨h k _ 0 hx (by decide), h k _ 1 hx (by decide), h k _ 2 hx (by decide), h k _ 3 hx (by decide), h k _ 4 hx (by decide)⟩
set_option maxRecDepth 100000 in
set_option maxHeartbeats 400000 in
theorem rg_Like (v1 v2 : Value) (l : List (Nat → Int)) (w : World) (h1 : RowOf icL 5 w v1 l) (h2 : RowOf icL 5 w v2 l) :
    Calls Try.prog 48 #[v1, v2] w fun e w' => e = .returned (.bool true) ∧ Below w.heap.size w w' := by
  obtain ⟨a1, cap1, rfl, hcap1, hmx1, hcell1⟩ := h1.open icL_len
  obtain ⟨a2, cap2, rfl, hcap2, hmx2, hcell2⟩ := h2.open icL_len
  obtain ⟨n, hn⟩ : ∃ n, l.length = n := ⟨_, rfl⟩
  rw [hn] at hcap1 hcell1 hcap2 hcell2 ⊢
  have Hn := Lib.hid hn; clear hn h1 h2
  unfold maxLen at hmx1 hmx2
  go_enter Try.func48, Try.ntmps48
  repeat' (first | go_values | go_skip | go_guarded | go_step | go_upon)
  go_loopw [5, 13] (fun _ s13 w' => ∃ k : Nat, s13 = .int .i64 k ∧ k ≤ n ∧ Hid (Below w.heap.size w w')) (fun _ s13 _ => n - (intOf s13).toNat)
  case atStart => exact ⟨0, rfl, Nat.zero_le _, Lib.hid (Below.refl _ _)⟩
  case round =>
    obtain ⟨k, rfl, hk, Hb⟩ := hrel
    by_cases hlt : k < n
    · rcases hcell1 with h0 | ⟨b1, o1, rfl, hb1, hcell1⟩
      · omega
      rcases hcell2 with h0 | ⟨b2, o2, rfl, hb2, hcell2⟩
      · omega
      obtain ⟨c0, c1, c2, c3, c4⟩ := Row5.cells hcell1 k (by rw [Hn.out]; exact hlt)
      obtain ⟨d0, d1, d2, d3, d4⟩ := Row5.cells hcell2 k (by rw [Hn.out]; exact hlt)
      clear hcell1 hcell2
      rw [← Hb.out.cell (show b1 < w.heap.size from hb1)] at c0 c1 c2 c3 c4
      rw [← Hb.out.cell (show b2 < w.heap.size from hb2)] at d0 d1 d2 d3 d4
      generalize l.getD k (fun _ => 0) = x at c0 c1 c2 c3 c4 d0 d1 d2 d3 d4
      have hl1 : b1 < wr.heap.size := Nat.lt_of_lt_of_le hb1 Hb.out.size
      have hl2 : b2 < wr.heap.size := Nat.lt_of_lt_of_le hb2 Hb.out.size
      have q00 : ∀ nq : WB wr, nq.1.cell? ⟨b1, o1 + k * 5, none⟩ = some (.int .i64 (x 0)) := fun nq => by rw [nq.cell hl1]; exact c0
      have q01 : ∀ nq : WB wr, nq.1.cell? ⟨b1, o1 + k * 5 + 1, none⟩ = some (.int .i64 (x 1)) := fun nq => by rw [nq.cell hl1]; exact c1
      have q02 : ∀ nq : WB wr, nq.1.cell? ⟨b1, o1 + k * 5 + 2, none⟩ = some (.int .i64 (x 2)) := fun nq => by rw [nq.cell hl1]; exact c2
      have q03 : ∀ nq : WB wr, nq.1.cell? ⟨b1, o1 + k * 5 + 3, none⟩ = some (.int .i64 (x 3)) := fun nq => by rw [nq.cell hl1]; exact c3
      have q04 : ∀ nq : WB wr, nq.1.cell? ⟨b1, o1 + k * 5 + 4, none⟩ = some (.int .i64 (x 4)) := fun nq => by rw [nq.cell hl1]; exact c4
      have q10 : ∀ nq : WB wr, nq.1.cell? ⟨b2, o2 + k * 5, none⟩ = some (.int .i64 (x 0)) := fun nq => by rw [nq.cell hl2]; exact d0
      have q11 : ∀ nq : WB wr, nq.1.cell? ⟨b2, o2 + k * 5 + 1, none⟩ = some (.int .i64 (x 1)) := fun nq => by rw [nq.cell hl2]; exact d1
      have q12 : ∀ nq : WB wr, nq.1.cell? ⟨b2, o2 + k * 5 + 2, none⟩ = some (.int .i64 (x 2)) := fun nq => by rw [nq.cell hl2]; exact d2
      have q13 : ∀ nq : WB wr, nq.1.cell? ⟨b2, o2 + k * 5 + 3, none⟩ = some (.int .i64 (x 3)) := fun nq => by rw [nq.cell hl2]; exact d3
      have q14 : ∀ nq : WB wr, nq.1.cell? ⟨b2, o2 + k * 5 + 4, none⟩ = some (.int .i64 (x 4)) := fun nq => by rw [nq.cell hl2]; exact d4
      clear c0 c1 c2 c3 c4 d0 d1 d2 d3 d4
      repeat' (first | go_values | go_skip | go_guarded | go_step | go_upon)
      refine wp_region_wb (by kernel_rfl) (by kernel_rfl) wr (Below.refl _ _) ?_
      repeat (go_big_quiet_step ((fail)))
      refine wpQuiet_nil ?_
      rintro _ ⟨nq, rfl⟩
      have hnq := nq.2
      clear q00 q01 q02 q03 q04 q10 q11 q12 q13 q14
      repeat' (first | go_values | go_skip | go_guarded | go_step | go_upon)
      go_roundw
      case rel => exact ⟨k + 1, by go_num, hlt, Lib.hid (Hb.out.trans (hnq.mono Hb.out.size))⟩
      case measure => simp [intOf]; omega
    · obtain rfl : k = n := by omega
      repeat' (first | go_values | go_skip | go_guarded | go_step | go_upon)
      go_ret
      exact ⟨rfl, Hb.out⟩
theorem ba_listI (s : ByteArray) : ∃ l : List UInt8, s = ⟨l.toArray⟩ := ⟨s.data.toList, by apply ByteArray.ext; apply Array.ext'; simp⟩
theorem row_take {w : World} {a : Option Addr} {n cap : Nat} {l : List (Nat → Int)} (h : RowOf icL 5 w (.slice a n cap) l) (k : Nat) (hk : k ≤ l.length) : RowOf icL 5 w (.slice a k cap) (l.take k) := by
  obtain ⟨a', cap', hv, h1, h2, h3, h4⟩ := h
  simp only [Value.slice.injEq] at hv
  obtain ⟨rfl, rfl, rfl⟩ := hv
  have hl : (l.take k).length = k := by rw [List.length_take]; omega
  have e : (l.take k).flatMap icL = (l.flatMap icL).take (k * 5) := by
    have h5 : l.flatMap icL = (l.take k).flatMap icL ++ (l.drop k).flatMap icL := by rw [← List.flatMap_append, List.take_append_drop]
    have h6 : ∀ ys : List (Nat → Int), (ys.flatMap icL).length = ys.length * 5 := fun ys => by
      induction ys with
      | nil => rfl
      | cons y ys ih => rw [List.flatMap_cons, List.length_append, ih, icL_len, List.length_cons]; omega
    rw [h5, List.take_left' (by rw [h6, hl])]
  unfold RowOf
  rw [hl, e]
  refine ⟨a, cap, rfl, by omega, h2, by rw [List.length_take, h3]; omega, ?_⟩
  rcases h4 with h4 | ⟨b, off, rfl, hb, hc⟩
  · exact .inl (by omega)
  · refine .inr ⟨b, off, rfl, hb, fun i hi => ?_⟩
    rw [hc i (by have := Nat.mul_le_mul_right 5 hk; omega), List.getElem?_take_of_lt hi]
/-- any five numbers are an instruction -/
theorem ins_of {cs : List Value} (h : FlatOk [.int .i64, .int .i64, .int .i64, .int .i64, .int .i64] cs) : ∃ y : Nat → Int, cs = icL y ∧ True := by
  obtain ⟨hl, hc⟩ := h
  match cs, hl with
  | [c0, c1, c2, c3, c4], _ =>
    obtain ⟨a0, rfl, _⟩ := hc 0 _ _ rfl rfl
    obtain ⟨a1, rfl, _⟩ := hc 1 _ _ rfl rfl
    obtain ⟨a2, rfl, _⟩ := hc 2 _ _ rfl rfl
    obtain ⟨a3, rfl, _⟩ := hc 3 _ _ rfl rfl
    obtain ⟨a4, rfl, _⟩ := hc 4 _ _ rfl rfl
    exact ⟨fun j => [a0, a1, a2, a3, a4].getD j 0, rfl, trivial⟩
theorem inss_of {n : Nat} {xs : List Value} (hn : xs.length = n * 5) (h : ∀ i, i < n → FlatOk [.int .i64, .int .i64, .int .i64, .int .i64, .int .i64] ((xs.drop (i * 5)).take 5)) : ∃ l : List (Nat → Int), l.length = n ∧ xs = l.flatMap icL := by
  obtain ⟨l, h1, h2, _⟩ := chunks (f := icL) (G := fun _ => True) n xs hn fun i hi => ins_of (h i hi)
  exact ⟨l, h1, h2⟩
end Go.Proofs.Ytbomloodllddaaa
