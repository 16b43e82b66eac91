/- States in memory as the reference's Ranges keeps them, and its rounds in these words. No conditions. -/
import Derived.Test.YtkhggnlanopgkaaRefWider
import Derived.Deep.Cut
import Derived.Deep.CutRange
import Derived.Deep.LoopGhost
import Derived.Test.YtkhggnlanopgkaaNdet
import Derived.Deep.RegionHeld
import Derived.Test.YtkhggnlanopgkaaWholeCode
import Derived.Test.YtkhggnlanopgkaaVerEnds
namespace Go.Proofs.Ytkhggnlanopgkaa
open Go.RowKit
theorem flowO_some {S : Sts} {d : Nat} {q : Rg} (ht : d < S.length) : (flowO (S, []) d (some q)).1 = S.set d (some (widR (S.getD d none) q)) ∧ (!(flowO (S, []) d (some q)).2.isEmpty) = widB (S.getD d none) q := by
  show (flow (S, []) d q).1 = _ ∧ (!(flow (S, []) d q).2.isEmpty) = _
  unfold flow
  cases h : S.getD d none with
  | none => simp [widR, widB]
  | some s =>
    simp only [widR, widB]
    by_cases hj : joinR s q = s
    · rw [if_pos hj, hj]
      refine ⟨?_, by simp⟩
      have e : S[d] = some s := by
        have := h; rw [List.getD_eq_getElem?_getD, List.getElem?_eq_getElem ht] at this; exact this
      rw [← e, List.set_getElem_self]
    · rw [if_neg hj]
      exact ⟨rfl, by simp [hj]⟩
theorem wide_some {S : Sts} {m : Bool} {d : Nat} {q : Rg} (ht : d < S.length) : wide (S, m) d (some q) = (S.set d (some (widR (S.getD d none) q)), m || widB (S.getD d none) q) := by
  obtain ⟨h1, h2⟩ := flowO_some (q := q) ht
  unfold wide
  rw [h1, h2]
theorem wide_none (st : Sts × Bool) (d : Nat) : wide st d none = st := by
  unfold wide flowO; simp
/-- a row of eight ranges, not in block ba -/
def SpRow (w : World) (ba : Nat) (v : Value) (r : Rg) : Prop := r.length = 8 ∧ ∃ b off cap, v = .slice (some ⟨b, off, none⟩) 8 cap ∧ b ≠ ba ∧ RowOf spC 2 w v r
theorem SpRow.keep {w w' : World} {ba : Nat} {v : Value} {r : Rg} (h : SpRow w ba v r) (hb : Below w.heap.size w w') : SpRow w' ba v r := by
  obtain ⟨h1, b, off, cap, h2, h3, h4⟩ := h
  exact ⟨h1, b, off, cap, h2, h3, h4.keep hb⟩
theorem SpRow.set {w : World} {ba : Nat} {v : Value} {r : Rg} (h : SpRow w ba v r) (k : Nat) (x : Value) : SpRow (w.setCell ⟨ba, k, none⟩ x) ba v r := by
  obtain ⟨h1, b, off, cap, rfl, h3, h4⟩ := h
  refine ⟨h1, b, off, cap, rfl, h3, ?_⟩
  obtain ⟨a, c, e, g1, g2, g3, g4⟩ := h4
  refine ⟨a, c, e, g1, g2, g3, ?_⟩
  rcases g4 with g4 | ⟨b', o', rfl, g5, g6⟩
  · exact .inl g4
  · simp only [Value.slice.injEq, Option.some.injEq, Addr.mk.injEq, and_true] at e
    obtain ⟨⟨rfl, rfl⟩, _⟩ := e
    refine .inr ⟨b, off, rfl, by simpa [World.setCell] using g5, fun i hi => ?_⟩
    rw [World.cell?_setCell_far _ _ _ _ (fun e => h3 e.symm)]
    exact g6 i hi
theorem SpRow.setB {w : World} {ba g b off cap : Nat} {r : Rg} (h : SpRow w ba (.slice (some ⟨b, off, none⟩) 8 cap) r) (hg : b ≠ g) (k : Nat) (x : Value) : SpRow (w.setCell ⟨g, k, none⟩ x) ba (.slice (some ⟨b, off, none⟩) 8 cap) r := by
  obtain ⟨h1, b2, off2, cap2, e2, h3, h4⟩ := h
  refine ⟨h1, b2, off2, cap2, e2, h3, ?_⟩
  obtain ⟨a, c, e, g1, g2, g3, g4⟩ := h4
  refine ⟨a, c, e, g1, g2, g3, ?_⟩
  rcases g4 with g4 | ⟨b', o', rfl, g5, g6⟩
  · exact .inl g4
  · simp only [Value.slice.injEq, Option.some.injEq, Addr.mk.injEq, and_true] at e
    obtain ⟨⟨rfl, rfl⟩, _⟩ := e
    refine .inr ⟨b, off, rfl, by simpa [World.setCell] using g5, fun i hi => ?_⟩
    rw [World.cell?_setCell_far _ _ _ _ (fun e => hg e.symm)]
    exact g6 i hi
/-- a row of ranges lies in no block that holds a fresh state -/
theorem SpRow.apart {w : World} {ba g b off cap : Nat} {r : Rg} (h : SpRow w ba (.slice (some ⟨b, off, none⟩) 8 cap) r) (hg : w.heap[g]? = some (.cells #[.bool false, .slice none 0 0] 74 (0, 0))) : b ≠ g := by
  intro e
  subst e
  obtain ⟨h1, _, _, _, _, _, h4⟩ := h
  obtain ⟨a, c, e, _, _, hc⟩ := h4.open spC_len
  rcases hc with hc | ⟨b', o', rfl, _, hc⟩
  · omega
  · simp only [Value.slice.injEq, Option.some.injEq, Addr.mk.injEq, and_true] at e
    obtain ⟨⟨rfl, rfl⟩, _⟩ := e
    obtain ⟨x, hx⟩ : ∃ x, r[0]? = some x := ⟨_, List.getElem?_eq_getElem (by omega)⟩
    have h0 := hc 0 x 0 hx (by decide)
    rw [cell_of_row w b _ _ _ _ hg] at h0
    simp only [spC, List.getElem?_cons_zero, Nat.zero_mul, Nat.add_zero] at h0
    match off, h0 with
    | 0, h0 => simp at h0
    | 1, h0 => simp at h0
    | k + 2, h0 => simp at h0
/-- one state's cells -/
def StCell (w : World) (ba : Nat) (i : Nat) (o : Option Rg) : Prop := match o with
  | none => w.cell? ⟨ba, i * 2, none⟩ = some (.bool false) ∧ w.cell? ⟨ba, i * 2 + 1, none⟩ = some (.slice none 0 0)
  | some r => w.cell? ⟨ba, i * 2, none⟩ = some (.bool true) ∧ ∃ v, w.cell? ⟨ba, i * 2 + 1, none⟩ = some v ∧ SpRow w ba v r
/-- the states -/
structure StsAt (w : World) (ba : Nat) (S : Sts) : Prop where
  blk : ∃ cs, w.heap[ba]? = some (.cells cs 74 (0, 0)) ∧ cs.size = S.length * 2
  at' : ∀ i, i < S.length → StCell w ba i (S.getD i none)
theorem StsAt.lt {w : World} {ba : Nat} {S : Sts} (h : StsAt w ba S) : ba < w.heap.size := by
  obtain ⟨cs, h1, _⟩ := h.blk
  exact (Array.getElem?_eq_some_iff.1 h1).1
theorem StsAt.free {w : World} {ba : Nat} {S : Sts} (h : StsAt w ba S) (k : Nat) : w.frozen? ⟨ba, k, none⟩ = false := by
  obtain ⟨cs, h1, _⟩ := h.blk
  exact frozen_of_row _ _ _ _ _ h1
theorem StCell.keep {w w' : World} {ba i : Nat} {o : Option Rg} (h : StCell w ba i o) (hb : Below w.heap.size w w') (hl : ba < w.heap.size) : StCell w' ba i o := by
  cases o with
  | none => exact ⟨by rw [hb.cell (by exact hl)]; exact h.1, by rw [hb.cell (by exact hl)]; exact h.2⟩
  | some r =>
    obtain ⟨h1, v, h2, h3⟩ := h
    exact ⟨by rw [hb.cell (by exact hl)]; exact h1, v, by rw [hb.cell (by exact hl)]; exact h2, h3.keep hb⟩
theorem StsAt.keep {w w' : World} {ba : Nat} {S : Sts} (h : StsAt w ba S) (hb : Below w.heap.size w w') : StsAt w' ba S := by
  have hl := h.lt
  obtain ⟨cs, h1, h2⟩ := h.blk
  exact ⟨⟨cs, by rw [hb.block ba hl]; exact h1, h2⟩, fun i hi => (h.at' i hi).keep hb hl⟩
/-- a state stored -/
theorem StsAt.put {w : World} {ba : Nat} {S : Sts} (h : StsAt w ba S) {i : Nat} (hi : i < S.length) {v : Value} {r : Rg} (hv : SpRow w ba v r) :
    StsAt ((w.setCell ⟨ba, i * 2, none⟩ (.bool true)).setCell ⟨ba, i * 2 + 1, none⟩ v) ba (S.set i (some r)) := by
  obtain ⟨cs, h1, h2⟩ := h.blk
  have e1 : (w.setCell ⟨ba, i * 2, none⟩ (.bool true)).heap[ba]? = some (.cells (cs.setIfInBounds (i * 2) (.bool true)) 74 (0, 0)) := by
    rw [setCell_eq_setRow w ba (i * 2) _ _ _ _ h1, setRow_heap _ _ _ _ _ _ h1]
  have e2 : ((w.setCell ⟨ba, i * 2, none⟩ (.bool true)).setCell ⟨ba, i * 2 + 1, none⟩ v).heap[ba]? = some (.cells ((cs.setIfInBounds (i * 2) (.bool true)).setIfInBounds (i * 2 + 1) v) 74 (0, 0)) := by
    rw [setCell_eq_setRow _ ba (i * 2 + 1) _ _ _ _ e1, setRow_heap _ _ _ _ _ _ e1]
  have hc : ∀ k, ((w.setCell ⟨ba, i * 2, none⟩ (.bool true)).setCell ⟨ba, i * 2 + 1, none⟩ v).cell? ⟨ba, k, none⟩ = if k = i * 2 + 1 then some v else if k = i * 2 then some (.bool true) else w.cell? ⟨ba, k, none⟩ := fun k => by
    rw [cell_of_row _ ba k _ _ _ e2, cell_of_row _ ba k _ _ _ h1]
    rw [Array.getElem?_setIfInBounds, Array.getElem?_setIfInBounds]
    by_cases a : k = i * 2 + 1
    · subst a
      rw [if_pos rfl, if_pos (by rw [Array.size_setIfInBounds]; omega), if_pos rfl]
    · have a' : ¬ i * 2 + 1 = k := fun e => a e.symm
      rw [if_neg a', if_neg a]
      by_cases b : k = i * 2
      · subst b
        rw [if_pos rfl, if_pos (by omega), if_pos rfl]
      · have b' : ¬ i * 2 = k := fun e => b e.symm
        rw [if_neg b', if_neg b]
  refine ⟨⟨_, e2, by simp [h2]⟩, fun j hj => ?_⟩
  rw [List.length_set] at hj
  rw [getD_set S i j _ hi]
  by_cases hij : i = j
  · subst hij
    rw [if_pos rfl]
    exact ⟨by rw [hc, if_neg (by omega), if_pos rfl], v, by rw [hc, if_pos rfl], (hv.set _ _).set _ _⟩
  · rw [if_neg hij]
    have hs := h.at' j hj
    have q1 : ((w.setCell ⟨ba, i * 2, none⟩ (.bool true)).setCell ⟨ba, i * 2 + 1, none⟩ v).cell? ⟨ba, j * 2, none⟩ = w.cell? ⟨ba, j * 2, none⟩ := by rw [hc, if_neg (by omega), if_neg (by omega)]
    have q2 : ((w.setCell ⟨ba, i * 2, none⟩ (.bool true)).setCell ⟨ba, i * 2 + 1, none⟩ v).cell? ⟨ba, j * 2 + 1, none⟩ = w.cell? ⟨ba, j * 2 + 1, none⟩ := by rw [hc, if_neg (by omega), if_neg (by omega)]
    cases ho : S.getD j none with
    | none => rw [ho] at hs; exact ⟨by rw [q1]; exact hs.1, by rw [q2]; exact hs.2⟩
    | some s =>
      rw [ho] at hs
      obtain ⟨g1, u, g2, g3⟩ := hs
      exact ⟨by rw [q1]; exact g1, u, by rw [q2]; exact g2, (g3.set _ _).set _ _⟩
end Go.Proofs.Ytkhggnlanopgkaa
/- Walk: the ranges at all places, by the reference. Conditions: the program lies in memory and is whole. -/
namespace Go.Proofs.Ytkhggnlanopgkaa
open Go.RowKit
theorem run_make_sz {P : Program} (t e : TypeId) (z : Value) (sz bytes : Nat) (ht : P.underlying t = some (.slice e)) (hinfo : (P.info? e).map (fun i => (i.zero, i.size, i.bytes)) = some (some z, sz, bytes))
    (n : Nat) (hbytes : bytes * n ≤ 281474976710656) (h63 : n ≤ 9223372036854775807) (w : World) :
    (Instr.makeSlice t (.int .i64 (n : Int)) (.int .i64 (n : Int))).run P w = .ok (.slice (some ⟨w.heap.size, 0, none⟩) n n) (w.alloc (.cells (madeCells z.cells (n * sz)) e)) := by
  obtain ⟨i, hi, hzz⟩ := Option.map_eq_some_iff.1 hinfo
  simp only [Prod.mk.injEq] at hzz
  obtain ⟨hz, hs, hb⟩ := hzz
  have hb' : (i.bytes : Int) * (n : Int) ≤ 281474976710656 := by
    have h : ((i.bytes * n : Nat) : Int) ≤ 281474976710656 := by rw [hb]; omega
    rwa [Int.natCast_mul] at h
  have hr := run_make (P := P) w t e i z ht hi hz .i64 .i64 n n (by omega) (Int.le_refl _) hb' (by omega)
  simp only [Int.toNat_natCast, hs] at hr
  exact hr
theorem made_at (z : Array Value) (n i : Nat) (h : i < n) : (madeCells z n)[i]? = some (z[i % z.size]!) := by
  unfold madeCells
  rw [Array.getElem?_map, Array.getElem?_range]
  simp [h]
theorem sts_made (w : World) (n : Nat) : StsAt (w.alloc (.cells (madeCells #[.bool false, .slice none 0 0] (n * 2)) 74)) w.heap.size (List.replicate n none) := by
  have hb := Go.heap_alloc_new w (.cells (madeCells #[.bool false, .slice none 0 0] (n * 2)) 74)
  refine ⟨⟨_, hb, by rw [size_madeCells, List.length_replicate]⟩, fun i hi => ?_⟩
  rw [List.length_replicate] at hi
  rw [none_at]
  refine ⟨?_, ?_⟩
  · rw [cell_of_row _ _ _ _ _ _ hb, made_at _ _ _ (by omega)]
    rw [show i * 2 % (#[Value.bool false, Value.slice none 0 0] : Array Value).size = 0 from by simp]; rfl
  · rw [cell_of_row _ _ _ _ _ _ hb, made_at _ _ _ (by omega)]
    rw [show (i * 2 + 1) % (#[Value.bool false, Value.slice none 0 0] : Array Value).size = 1 from by simp]; rfl
theorem sp_made (w : World) (ba : Nat) (h : ba < w.heap.size) : SpRow (w.alloc (.cells (madeCells #[.int .i64 0, .int .i64 0] (8 * 2)) 97)) ba (.slice (some ⟨w.heap.size, 0, none⟩) 8 8) iniR := by
  have hb := Go.heap_alloc_new w (.cells (madeCells #[.int .i64 0, .int .i64 0] (8 * 2)) 97)
  refine ⟨rfl, _, _, _, rfl, by omega, some ⟨w.heap.size, 0, none⟩, 8, rfl, by decide, by decide, rfl, .inr ⟨_, _, rfl, by rw [World.size_alloc]; omega, fun i hi => ?_⟩⟩
  rw [cell_of_row _ _ _ _ _ _ hb, Nat.zero_add]
  have hi' : i < 16 := hi
  rcases (by omega : i = 0 ∨ i = 1 ∨ i = 2 ∨ i = 3 ∨ i = 4 ∨ i = 5 ∨ i = 6 ∨ i = 7 ∨ i = 8 ∨ i = 9 ∨ i = 10 ∨ i = 11 ∨ i = 12 ∨ i = 13 ∨ i = 14 ∨ i = 15) with rfl | rfl | rfl | rfl | rfl | rfl | rfl | rfl | rfl | rfl | rfl | rfl | rfl | rfl | rfl | rfl <;> (rw [made_at _ _ _ (by decide)]; rfl)
theorem info_sts : (Try.prog.info? 74).map (fun i => (i.zero, i.size, i.bytes)) = some (some (.agg #[.bool false, .slice none 0 0]), 2, 32) := by kernel_rfl
/-- the call's own variables -/
structure RJ (w0 : World) (p : Prg) (v : PV) (ba : Nat) (S : Sts) (w : World) : Prop where
  bel : Below w0.heap.size w0 w
  pg : PBox w w0.heap.size p v
  sts : StsAt w ba S
  bal : w0.heap.size < ba
theorem RJ.step {w0 w w' : World} {p : Prg} {v : PV} {ba : Nat} {S : Sts} (h : RJ w0 p v ba S w) (hb : Below w.heap.size w w') : RJ w0 p v ba S w' :=
  ⟨h.bel.trans (hb.mono h.bel.size), h.pg.keep hb, h.sts.keep hb, h.bal⟩
theorem RJ.put {w0 w : World} {p : Prg} {v : PV} {ba : Nat} {S : Sts} (h : RJ w0 p v ba S w) {i : Nat} (hi : i < S.length) {u : Value} {r : Rg} (hu : SpRow w ba u r) :
    RJ w0 p v ba (S.set i (some r)) ((w.setCell ⟨ba, i * 2, none⟩ (.bool true)).setCell ⟨ba, i * 2 + 1, none⟩ u) := by
  have hB := h.bal
  refine ⟨(h.bel.setCell (by dsimp only; omega) _).setCell (by dsimp only; omega) _, ?_, h.sts.put hi hu, hB⟩
  have := h.pg
  unfold PBox at this ⊢
  rw [heap_setCell_other _ _ _ _ (by dsimp only; omega), heap_setCell_other _ _ _ _ (by dsimp only; omega)]; exact this
/-- what is so ahead of a round -/
structure RO (p : Prg) (S : Sts) (m : Bool) (g : Nat) : Prop where
  ok : okSts p.code.length S
  least : ∀ T, Sol (ofP p) p.code T → leS S T
  ini : ole (some iniR) (S.getD 0 none)
  fin : m = false → Least (ofP p) p.code S
  pot : potS S * 2 + (if m then 1 else 0) ≤ g
theorem RO.start {p : Prg} (h : CodeOk (ofP p) p.code) : RO p ((List.replicate p.code.length none).set 0 (some iniR)) true (potS ((List.replicate p.code.length (none : Option Rg)).set 0 (some iniR)) * 2 + 1) := by
  have P := PI_start h
  have e : (flow (List.replicate p.code.length none, []) 0 iniR).1 = (List.replicate p.code.length none).set 0 (some iniR) := by
    unfold flow
    simp only [none_at]
  have o := P.ok; have l := P.least; have i := P.ini
  rw [e] at o l i
  exact ⟨o, l, i, (fun h => by cases h), Nat.le_refl _⟩
theorem RO.begin {p : Prg} {S : Sts} {m : Bool} {g : Nat} (h : RO p S m g) : RI (ofP p) p.code S 0 (S, false) := RI_start h.ok h.least h.ini
theorem RO.next {p : Prg} {S S' : Sts} {m' : Bool} {g : Nat} (h : RO p S true g) (h' : RI (ofP p) p.code S p.code.length (S', m')) : RO p S' m' (potS S' * 2 + (if m' then 1 else 0)) ∧ potS S' * 2 + (if m' then 1 else 0) < g := by
  refine ⟨⟨h'.ok, h'.least, h'.ini, fun e => RI_end h' e, Nat.le_refl _⟩, ?_⟩
  have a := h'.pot
  have b := h.pot
  simp only [if_true] at b
  dsimp only at a
  omega
/-- what a call of goes hands back -/
def goR (p : Prg) (x : Nat → Int) (r : Rg) : Rel := fun v _ => ∃ n N f F, v = .tuple #[.bool n, spV N, .bool f, spV F] ∧ GoR (ofP p) x r n N f F
theorem goR_mono (p : Prg) (x : Nat → Int) (r : Rg) : MonoR (goR p x r) := fun _ _ _ h _ => h
/-- what a call of wider hands back -/
def wdR (ba : Nat) (o : Option Rg) (q : Rg) : Rel := fun v w => ∃ vo, v = .tuple #[.agg #[.bool true, vo], .bool (widB o q)] ∧ SpRow w ba vo (widR o q)
theorem wdR_mono (ba : Nat) (o : Option Rg) (q : Rg) : MonoR (wdR ba o q) := fun _ _ _ ⟨vo, h1, h2⟩ hb => ⟨vo, h1, h2.keep hb⟩
theorem wd_call {w : World} {ba : Nat} {o : Option Rg} {vs vr : Value} {r : Rg} {a : Nat} {A : Int × Int} (hba : ba < w.heap.size) (hs : ∀ s, o = some s → RowOf spC 2 w vs s ∧ s.length = 8) (hr : RowOf spC 2 w vr r) (hr8 : r.length = 8) :
    Calls Try.prog 41 #[.agg #[.bool o.isSome, vs], vr, .int .i64 a, spV A] w fun e w'' => ∃ v, e = .returned v ∧ Below w.heap.size w w'' ∧ wdR ba o (r.set a A) v w'' := by
  refine (ref_wider o vs vr r a A w hs hr hr8).mono ?_
  rintro _ w1 ⟨vo, rfl, ho, hb⟩
  have hl : (widR o (r.set a A)).length = 8 := widR_len (by simp [hr8]) (fun s h => (hs s h).2)
  obtain ⟨g, cap, e⟩ := ho.somewhere (by rw [hl]; decide)
  subst e
  refine ⟨_, rfl, hb, _, rfl, hl, g, 0, cap, by rw [hl], ?_, ho.row⟩
  have := (ho.below (g := g) (by simp [Value.ownBlock])).1
  omega
/-- a state as it is handed over -/
theorem StCell.val {w : World} {ba i : Nat} {o : Option Rg} (h : StCell w ba i o) : ∃ vs, w.cell? ⟨ba, i * 2, none⟩ = some (.bool o.isSome) ∧ w.cell? ⟨ba, i * 2 + 1, none⟩ = some vs ∧ ∀ s, o = some s → RowOf spC 2 w vs s ∧ s.length = 8 := by
  cases o with
  | none => exact ⟨_, h.1, h.2, fun s e => by cases e⟩
  | some r =>
    obtain ⟨h1, v, h2, h3⟩ := h
    refine ⟨v, h1, h2, fun s e => ?_⟩
    cases e
    obtain ⟨h4, _, _, _, _, _, h5⟩ := h3
    exact ⟨h5, h4⟩
theorem StsAt.ne {w : World} {ba g : Nat} {S : Sts} {cs : Array Value} {t : TypeId} {fz : Nat × Nat} (h : StsAt w ba S) (hg : w.heap[g]? = some (.cells cs t fz)) (ht : t ≠ 74) : g ≠ ba := fun e => by
  subst e
  obtain ⟨cs', h1, _⟩ := h.blk
  rw [hg] at h1
  simp at h1
  exact ht h1.2.1
theorem ini_len (n : Nat) : ((List.replicate n (none : Option Rg)).set 0 (some iniR)).length = n := by simp
set_option maxRecDepth 100000 in
set_option maxHeartbeats 8000000 in
theorem ref_Ranges (p : Prg) (v : PV) (w : World) (H : PrgAt w v p) (W : Whole p) : Calls Try.prog 24 #[pgV p v] w fun e w' => ∃ ba S, e = .returned (.slice (some ⟨ba, 0, none⟩) p.code.length p.code.length) ∧ StsAt w' ba S ∧ Least (ofP p) p.code S ∧ Below w.heap.size w w' := by
  have HH := Lib.hid H
  have HW := Lib.hid W
  have HC := Lib.hid W.codeOk
  obtain ⟨ac, cc, hvc, hcc, hmc, hcellc⟩ := H.code.open icL_len
  have hln := W.len
  obtain ⟨vc, vt, vx, vs, vk, vv⟩ := v
  dsimp only at hvc
  subst hvc
  rcases hcellc with h0 | ⟨bc, oc, rfl, hbc, hcellc⟩
  · omega
  have Hcl := Lib.hid hcellc
  obtain ⟨n, hn⟩ : ∃ n, n = p.code.length := ⟨_, rfl⟩
  rw [← hn] at hcc hln HH ⊢
  have Hn := Lib.hid hn
  have hn1 : 1 ≤ (n : Int) := by omega
  have hn4 : (n : Int) ≤ 4096 := by omega
  have hmk := fun w' => run_make_sz (P := Try.prog) 70 74 (.agg #[.bool false, .slice none 0 0]) 2 32 Try.underlying70 info_sts n (by omega) (by omega) w'
  have hmk8 : ∀ w', (Instr.makeSlice 72 (.int .i64 8) (.int .i64 8)).run Try.prog w' = .ok (.slice (some ⟨w'.heap.size, 0, none⟩) 8 8) (w'.alloc (.cells (madeCells #[.int .i64 0, .int .i64 0] (8 * 2)) 97)) := fun w' => run_make_sz (P := Try.prog) 72 97 (.agg #[.int .i64 0, .int .i64 0]) 2 16 Try.underlying72 info_spans 8 (by decide) (by decide) w'
  have hPB : Hid (PBox (w.alloc (.cells (pgC p ⟨.slice (some ⟨bc, oc, none⟩) n cc, vt, vx, vs, vk, vv⟩) 30)) w.heap.size p ⟨.slice (some ⟨bc, oc, none⟩) n cc, vt, vx, vs, vk, vv⟩) := Lib.hid (PBox.new _ _ _)
  obtain ⟨c0, c1, c2, c3, c4, c5, c6, c7, c8, c9⟩ := hPB.out.ten
  dsimp only at c4 c5 c6 c7 c8 c9
  have HR0 : Hid (RJ w p ⟨.slice (some ⟨bc, oc, none⟩) n cc, vt, vx, vs, vk, vv⟩ (w.heap.size + 1) (List.replicate n none) ((w.alloc (.cells (pgC p ⟨.slice (some ⟨bc, oc, none⟩) n cc, vt, vx, vs, vk, vv⟩) 30)).alloc (.cells (madeCells #[.bool false, .slice none 0 0] (n * 2)) 74))) := Lib.hid (by
    have h1 : Below w.heap.size w (w.alloc (.cells (pgC p ⟨.slice (some ⟨bc, oc, none⟩) n cc, vt, vx, vs, vk, vv⟩) 30)) := (Below.refl _ _).alloc (Nat.le_refl _) _
    have h2 := sts_made (w.alloc (.cells (pgC p ⟨.slice (some ⟨bc, oc, none⟩) n cc, vt, vx, vs, vk, vv⟩) 30)) n
    rw [World.size_alloc] at h2
    exact ⟨h1.alloc (by simp) _, hPB.out.keep ((Below.refl _ _).alloc (Nat.le_refl _) _), h2, by omega⟩)
  clear H W hcellc hmc hcc hn c0 c1 c2 c3 c5 c6 c7 c8 c9
  go_enter Try.func24, Try.ntmps24
  repeat' (go_not_at_region 2; first | go_values | go_skip | go_guarded | go_step | go_upon)
  clear c4 hmk
  refine gen_world (RJ w p ⟨.slice (some ⟨bc, oc, none⟩) n cc, vt, vx, vs, vk, vv⟩ (w.heap.size + 1) (List.replicate n none)) HR0.out ?_
  clear HR0 hPB
  intro wa hR
  have HRa := Lib.hid hR
  clear hR
  have Hs0 : Hid (∀ o : Obj, RJ w p ⟨.slice (some ⟨bc, oc, none⟩) n cc, vt, vx, vs, vk, vv⟩ (w.heap.size + 1) (List.replicate n none) (wa.alloc o)) := Lib.hid fun o => HRa.out.step ((Below.refl _ _).alloc (Nat.le_refl _) _)
  have e0 : ∀ o : Obj, (wa.alloc o).cell? ⟨w.heap.size + 1, 0, none⟩ = some (.bool false) := fun o => by
    have := (Hs0.out o).sts.at' 0 (by rw [List.length_replicate]; omega)
    rw [none_at] at this
    exact this.1
  have e1 : ∀ o : Obj, (wa.alloc o).cell? ⟨w.heap.size + 1, 1, none⟩ = some (.slice none 0 0) := fun o => by
    have := (Hs0.out o).sts.at' 0 (by rw [List.length_replicate]; omega)
    rw [none_at] at this
    exact this.2
  have e2 : ∀ o : Obj, (wa.alloc o).frozen? ⟨w.heap.size + 1, 0, none⟩ = false := fun o => (Hs0.out o).sts.free 0
  have e3 : ∀ o : Obj, (wa.alloc o).frozen? ⟨w.heap.size + 1, 1, none⟩ = false := fun o => (Hs0.out o).sts.free 1
  repeat' (first | go_values | go_skip | go_guarded | go_step | go_upon)
  have HR1 := Lib.hid ((Hs0.out (.cells (madeCells #[.int .i64 0, .int .i64 0] (8 * 2)) 97)).put (i := 0) (by rw [List.length_replicate]; omega) (sp_made wa (w.heap.size + 1) HRa.out.sts.lt))
  have HO1 := Lib.hid (RO.start HC.out)
  rw [← Hn.out] at HO1
  clear e0 e1 e2 e3 Hs0 HRa hmk8
  go_loopg [4] (potS ((List.replicate n (none : Option Rg)).set 0 (some iniR)) * 2 + 1) (fun gk s4 wr => ∃ (S : Sts) (m : Bool), s4 = .bool m ∧ Hid (RO p S m gk) ∧ Hid (RJ w p ⟨.slice (some ⟨bc, oc, none⟩) n cc, vt, vx, vs, vk, vv⟩ (w.heap.size + 1) S wr))
  case atStart => exact ⟨_, _, rfl, HO1, HR1⟩
  case round =>
    clear HO1 HR1
    obtain ⟨S, m, rfl, HO, HJ⟩ := hrel
    cases m with
    | false =>
      repeat' (first | go_values | go_skip | go_guarded | go_step | go_upon)
      go_ret
      exact ⟨_, _, rfl, HJ.out.sts, HO.out.fin rfl, HJ.out.bel⟩
    | true =>
      have c4 := HJ.out.pg.cell 4
      repeat' (first | go_values | go_skip | go_guarded | go_step | go_upon)
      have HI0 := Lib.hid HO.out.begin
      clear c4
      go_loopw [4, 27] (fun s4 s27 wr => ∃ (k : Nat) (S' : Sts) (m' : Bool), s27 = .int .i64 k ∧ s4 = .bool m' ∧ k ≤ n ∧ Hid (RI (ofP p) p.code S k (S', m')) ∧ Hid (RJ w p ⟨.slice (some ⟨bc, oc, none⟩) n cc, vt, vx, vs, vk, vv⟩ (w.heap.size + 1) S' wr)) (fun _ s27 _ => n - (intOf s27).toNat)
      case atStart => exact ⟨0, _, _, rfl, rfl, Nat.zero_le _, HI0, HJ⟩
      case round =>
        clear HI0 HJ
        obtain ⟨k, S', m', rfl, rfl, hk, HI, HJ⟩ := hrel
        by_cases hlt : k < n
        · obtain ⟨d0, d1, d2, d3, d4⟩ := Row5p.cells Hcl.out k (by rw [← Hn.out]; exact hlt)
          rw [← HJ.out.bel.cell (show bc < w.heap.size from hbc)] at d0 d1 d2 d3 d4
          have Hx : Hid (p.code[k]? = some (p.code.getD k (fun _ => 0))) := Lib.hid (by rw [List.getD_eq_getElem?_getD, List.getElem?_eq_getElem (by rw [← Hn.out]; exact hlt)]; rfl)
          generalize p.code.getD k (fun _ => 0) = x at d0 d1 d2 d3 d4 Hx
          have HSl : Hid (S'.length = n) := Lib.hid (by rw [Hn.out]; exact HI.out.ok.1)
          have HJx := Lib.hid (HJ.out.step ((Below.refl _ _).alloc (Nat.le_refl _) (.cells (ic x) 39)))
          have HIx := Lib.hid (InsAt.new wr x)
          have HN := Lib.hid (RI_step HC.out HI.out (by rw [← Hn.out]; exact hlt))
          have hst := HJx.out.sts.at' k (by rw [HSl.out]; exact hlt)
          cases hr : S'.getD k none with
          | none =>
            rw [hr] at hst
            rw [roundF_none (by exact hr)] at HN
            obtain ⟨q0, q1⟩ := hst
            clear hr
            repeat' (first | go_values | go_skip | go_guarded | go_step | go_upon)
            go_roundw
            case rel => exact ⟨k + 1, S', m', by go_num, rfl, hlt, HN, HJx⟩
            case measure => simp [intOf]; omega
          | some r =>
            rw [hr] at hst
            rw [roundF_eq Hx.out (by exact hr)] at HN
            obtain ⟨q0, vi, q1, hsp⟩ := hst
            have Hsp := Lib.hid hsp
            have Hr := Lib.hid hr
            clear hr hsp
            repeat' (first | go_values | go_skip | go_guarded | go_step | go_upon)
            have HG : Hid (∀ w', Below w.heap.size w w' → RowOf spC 2 w' vi r → Calls Try.prog 40 #[pgV p ⟨.slice (some ⟨bc, oc, none⟩) n cc, vt, vx, vs, vk, vv⟩, vI x, vi] w' fun e w'' => ∃ n N f F, e = .returned (.tuple #[.bool n, spV N, .bool f, spV F]) ∧ GoR (ofP p) x r n N f F ∧ Below w'.heap.size w' w'') := Lib.hid fun w' hb hr => by
              obtain ⟨hok, h3, h8⟩ := HW.out.at' Hx.out
              refine ref_goes p _ x vi r w' (HH.out.keep hb) hr Hsp.out.1 (okI_1 hok) (fun e => okI_B hok (.inl e)) (fun _ => okI_2 hok) (fun e => ⟨h8 e, ?_⟩)
              obtain ⟨h40, h41⟩ := h8 e
              have := (tab_open (HW.out.tab (show (x 4).toNat < p.tabs.length by omega))).1
              unfold tabD; omega
            obtain ⟨hsp8, bi, oi, ci, hvi, hbi, hspr⟩ := Hsp.out
            subst hvi
            have Hspr := Lib.hid hspr
            have Hq1 := Lib.hid q1
            clear hsp8 hspr q0 q1 d0 d1 d2 d3 d4
            obtain ⟨gx, hgx⟩ : ∃ g, g = wr.heap.size := ⟨_, rfl⟩
            rw [← hgx] at HIx ⊢
            clear hgx
            refine gen_world (fun w' => RJ w p ⟨.slice (some ⟨bc, oc, none⟩) n cc, vt, vx, vs, vk, vv⟩ (w.heap.size + 1) S' w' ∧ InsAt w' gx x ∧ (w'.cell? ⟨w.heap.size + 1, k * 2 + 1, none⟩ = some (.slice (some ⟨bi, oi, none⟩) 8 ci) ∧ RowOf spC 2 w' (.slice (some ⟨bi, oi, none⟩) 8 ci) r)) ⟨HJx.out, HIx.out, Hq1.out, Hspr.out⟩ ?_
            clear HJx HIx Hspr Hsp HJ Hq1
            rintro wx ⟨hj, hi, h1, h2⟩
            have HJ := Lib.hid hj
            have HI2 := Lib.hid hi
            have H1 := Lib.hid h1
            have H2 := Lib.hid h2
            clear hj hi h1 h2
            go_cut [7, 8, 9, 10] from 38 to 105 (fun s7 s8 s9 s10 wc => ∃ (nx fr : Bool) (N F : Int × Int) (g8 g10 : Nat), s7 = .bool nx ∧ s8 = .pointer (some ⟨g8, 0, none⟩) ∧ s9 = .bool fr ∧ s10 = .pointer (some ⟨g10, 0, none⟩) ∧ Hid (GoR (ofP p) x r nx N fr F) ∧ Hid (SpAt wc g8 N) ∧ Hid (SpAt wc g10 F) ∧ Hid (Below wx.heap.size wx wc))
            case first =>
              have u0 : ∀ nq : WB wx, nq.1.cell? ⟨w.heap.size, 0, none⟩ = some (.int .i64 p.grow) := fun nq => (HJ.out.pg.keep nq.2).ten.1
              have u1 : ∀ nq : WB wx, nq.1.cell? ⟨w.heap.size, 1, none⟩ = some (.int .i64 p.rest) := fun nq => (HJ.out.pg.keep nq.2).ten.2.1
              have u2 : ∀ nq : WB wx, nq.1.cell? ⟨w.heap.size, 2, none⟩ = some (.int .i64 p.extra) := fun nq => (HJ.out.pg.keep nq.2).ten.2.2.1
              have u3 : ∀ nq : WB wx, nq.1.cell? ⟨w.heap.size, 3, none⟩ = some (.int .i64 p.signs) := fun nq => (HJ.out.pg.keep nq.2).ten.2.2.2.1
              have u4 : ∀ nq : WB wx, nq.1.cell? ⟨w.heap.size, 4, none⟩ = some (.slice (some ⟨bc, oc, none⟩) n cc) := fun nq => (HJ.out.pg.keep nq.2).ten.2.2.2.2.1
              have u5 : ∀ nq : WB wx, nq.1.cell? ⟨w.heap.size, 5, none⟩ = some vt := fun nq => (HJ.out.pg.keep nq.2).ten.2.2.2.2.2.1
              have u6 : ∀ nq : WB wx, nq.1.cell? ⟨w.heap.size, 6, none⟩ = some vx := fun nq => (HJ.out.pg.keep nq.2).ten.2.2.2.2.2.2.1
              have u7 : ∀ nq : WB wx, nq.1.cell? ⟨w.heap.size, 7, none⟩ = some vs := fun nq => (HJ.out.pg.keep nq.2).ten.2.2.2.2.2.2.2.1
              have u8 : ∀ nq : WB wx, nq.1.cell? ⟨w.heap.size, 8, none⟩ = some vk := fun nq => (HJ.out.pg.keep nq.2).ten.2.2.2.2.2.2.2.2.1
              have u9 : ∀ nq : WB wx, nq.1.cell? ⟨w.heap.size, 9, none⟩ = some vv := fun nq => (HJ.out.pg.keep nq.2).ten.2.2.2.2.2.2.2.2.2
              have i0 : ∀ nq : WB wx, nq.1.cell? ⟨gx, 0, none⟩ = some (.int .i64 (x 0)) := fun nq => (HI2.out.keep nq.2).cell 0 (by decide)
              have i1 : ∀ nq : WB wx, nq.1.cell? ⟨gx, 1, none⟩ = some (.int .i64 (x 1)) := fun nq => (HI2.out.keep nq.2).cell 1 (by decide)
              have i2 : ∀ nq : WB wx, nq.1.cell? ⟨gx, 2, none⟩ = some (.int .i64 (x 2)) := fun nq => (HI2.out.keep nq.2).cell 2 (by decide)
              have i3 : ∀ nq : WB wx, nq.1.cell? ⟨gx, 3, none⟩ = some (.int .i64 (x 3)) := fun nq => (HI2.out.keep nq.2).cell 3 (by decide)
              have i4 : ∀ nq : WB wx, nq.1.cell? ⟨gx, 4, none⟩ = some (.int .i64 (x 4)) := fun nq => (HI2.out.keep nq.2).cell 4 (by decide)
              have j1 : ∀ nq : WB wx, nq.1.cell? ⟨w.heap.size + 1, k * 2 + 1, none⟩ = some (.slice (some ⟨bi, oi, none⟩) 8 ci) := fun nq => by rw [nq.2.cell (show w.heap.size + 1 < wx.heap.size from HJ.out.sts.lt)]; exact H1.out
              refine wp_region_np (wp_region_n [0, 1, 2, 3, 4, 5, 6, 7, 8, 9, 10, 11, 12, 13, 14] [15, 16, 17, 18] ⟨[(7, goR p x r), (13, alR wx #[.int .i64 0, .int .i64 0] 97), (14, alR wx #[.int .i64 0, .int .i64 0] 97)], [10, 11, 12]⟩ (by kernel_rfl) (by kernel_rfl) (by kernel_rfl) (fun _ _ _ _ _ h => h) (monoR_cons (goR_mono _ _ _) (monoR_cons (alR_mono _ _ _) (monoR_cons (alR_mono _ _ _) monoR_nil))) wx (Below.refl _ _) ?_)
              simp only [opsAt, opsOf, List.filterMap_cons, List.filterMap_nil, List.getElem?_cons_zero, List.getElem?_cons_succ, Option.map_some]
              repeat (first | (refine lexN_D rfl rfl rfl rfl ?_; intro K hK; go_big_quiet_op; go_big_quiet_on) | (refine lexN_L rfl rfl rfl ?_; intro K hK; go_big_quiet_op; go_big_quiet_on))
              refine lexN_N rfl rfl (fun nq => ?_) (fun v hv _ => ?_)
              · go_simp
                refine ⟨rfl, Calls.mono (HG.out _ (HJ.out.bel.trans (nq.2.mono HJ.out.bel.size)) (H2.out.keep nq.2)) ?_⟩
                rintro _ w1 ⟨nx, N, fr, F, rfl, hg, hb⟩
                exact ⟨_, rfl, hb, nx, N, fr, F, rfl, hg⟩
              · obtain ⟨_, nx, N, fr, F, rfl, hg⟩ := hv
                simp only [Act.put, List.setIfInBounds_toArray, List.set_cons_succ, List.set_cons_zero]
                have Hg := Lib.hid hg
                clear hg u0 u1 u2 u3 u4 u5 u6 u7 u8 u9 i0 i1 i2 i3 i4 j1
                repeat (first | (refine lexN_D rfl rfl rfl rfl ?_; intro K hK; go_big_quiet_op; go_big_quiet_on) | (refine lexN_L rfl rfl rfl ?_; intro K hK; go_big_quiet_op; go_big_quiet_on))
                refine lexN_N rfl rfl (alR_upon (by rfl) (fun w' => by kernel_rfl)) (fun v hv hd8 => ?_)
                obtain ⟨_, g8, rfl, _, _⟩ := hv
                simp only [Act.put, List.setIfInBounds_toArray, List.set_cons_succ, List.set_cons_zero]
                refine lexN_N rfl rfl (alR_upon (by rfl) (fun w' => by kernel_rfl)) (fun v hv hd10 => ?_)
                obtain ⟨_, g10, rfl, _, _⟩ := hv
                simp only [Act.put, List.setIfInBounds_toArray, List.set_cons_succ, List.set_cons_zero]
                have hne : g8 ≠ g10 := hd10 rfl _ (by simp [Kn.add, ext, allocB]) _ _ rfl rfl
                have hne' : g10 ≠ g8 := hne.symm
                clear hd8 hd10
                repeat (first | (refine lexN_D rfl rfl rfl rfl ?_; intro K hK; go_big_quiet_op; go_big_quiet_on) | (refine lexN_L rfl rfl rfl ?_; intro K hK; go_big_quiet_op; go_big_quiet_on))
                refine lexN_nil ?_
                rintro _ ⟨nq, rfl⟩ ⟨⟨_, h8⟩, h10⟩
                obtain ⟨l8, b8⟩ := alR_at h8
                obtain ⟨l10, b10⟩ := alR_at h10
                have B8 : Hid (SpAt nq.1 g8 (0, 0)) := Lib.hid b8
                have B10 : Hid (SpAt nq.1 g10 (0, 0)) := Lib.hid b10
                have L8 := Lib.hid l8
                have L10 := Lib.hid l10
                obtain ⟨n0, n1⟩ := B8.out.two
                obtain ⟨m0, m1⟩ := B10.out.two
                have p0 := B8.out.free 0
                have p1 := B8.out.free 1
                have q0 := B10.out.free 0
                have q1 := B10.out.free 1
                clear h8 h10 b8 b10 l8 l10
                repeat' (first | go_values | go_skip | go_guarded | go_step | go_upon)
                refine NoPan.normal ?_
                repeat' (first | go_values | go_skip | go_guarded | go_step | go_upon)
                go_meet
                case rel => exact ⟨nx, fr, N, F, g8, g10, rfl, rfl, rfl, rfl, Hg, Lib.hid ((B8.out.put N).other hne), Lib.hid ((B10.out.other hne').put F), Lib.hid ((((nq.2.setCell L8.out _).setCell L8.out _).setCell L10.out _).setCell L10.out _)⟩
            case rest =>
              obtain ⟨nx, fr, N, F, g8, g10, rfl, rfl, rfl, rfl, Hg, H8, H10, Hb⟩ := hcut
              have HJ3 := Lib.hid (HJ.out.step Hb.out)
              have HI3 := Lib.hid (HI2.out.keep Hb.out)
              clear HJ HI2 H1 H2 Hb HG
              repeat' (go_not_at_if 51; first | go_values | go_skip | go_guarded | go_step | go_upon)
              go_cut [4, 11, 12] from 52 to 105 (fun s4 _ _ wd => ∃ (S2 : Sts) (m2 : Bool), s4 = .bool m2 ∧ Hid ((S2, m2) = wide (S', m') (k + 1) (goN (ofP p) x r)) ∧ Hid (RJ w p ⟨.slice (some ⟨bc, oc, none⟩) n cc, vt, vx, vs, vk, vv⟩ (w.heap.size + 1) S2 wd) ∧ Hid (InsAt wd gx x) ∧ Hid (SpAt wd g10 F))
              case first =>
                cases nx with
                | false =>
                  repeat' (first | go_values | go_skip | go_guarded | go_step | go_upon)
                  go_meet
                  case rel => exact ⟨S', m', rfl, Lib.hid (by rw [Hg.out.1]; exact (wide_none _ _).symm), HJ3, HI3, H10⟩
                | true =>
                  have hgN : goN (ofP p) x r = some (sA x r N) := Hg.out.1
                  have hk1 : k + 1 < n := by rw [Hn.out]; exact HC.out.last k x r Hx.out (by rw [hgN]; simp)
                  obtain ⟨ka, hka⟩ : ∃ ka : Nat, x 1 = (ka : Int) := ⟨(x 1).toNat, by have := okI_1 (HW.out.at' Hx.out).1; omega⟩
                  have hsA : Hid (sA x r N = r.set ka N) := Lib.hid (by unfold sA; rw [hka]; rfl)
                  have HgN := Lib.hid hgN
                  obtain ⟨vs1, a0, a1, hs1⟩ := (HJ3.out.sts.at' (k + 1) (by rw [HSl.out]; exact hk1)).val
                  have hst := HJ3.out.sts.at' k (by rw [HSl.out]; exact hlt)
                  rw [Hr.out] at hst
                  obtain ⟨b0, vi, b1, hr8, bi, oi, ci, hvi, hbi, hrow⟩ := hst
                  subst hvi
                  have e0 : ∀ nq : WB wc, nq.1.cell? ⟨w.heap.size + 1, (k + 1) * 2, none⟩ = some (.bool (S'.getD (k + 1) none).isSome) := fun nq => by rw [nq.2.cell (show w.heap.size + 1 < wc.heap.size from HJ3.out.sts.lt)]; exact a0
                  have e1 : ∀ nq : WB wc, nq.1.cell? ⟨w.heap.size + 1, (k + 1) * 2 + 1, none⟩ = some vs1 := fun nq => by rw [nq.2.cell (show w.heap.size + 1 < wc.heap.size from HJ3.out.sts.lt)]; exact a1
                  have e2 : ∀ nq : WB wc, nq.1.cell? ⟨w.heap.size + 1, k * 2 + 1, none⟩ = some (.slice (some ⟨bi, oi, none⟩) 8 ci) := fun nq => by rw [nq.2.cell (show w.heap.size + 1 < wc.heap.size from HJ3.out.sts.lt)]; exact b1
                  have e3 : ∀ nq : WB wc, nq.1.cell? ⟨gx, 1, none⟩ = some (.int .i64 (ka : Int)) := fun nq => by rw [← hka]; exact (HI3.out.keep nq.2).cell 1 (by decide)
                  have e4 : ∀ nq : WB wc, nq.1.cell? ⟨g8, 0, none⟩ = some (.int .i64 N.1) := fun nq => (H8.out.keep nq.2).two.1
                  have e5 : ∀ nq : WB wc, nq.1.cell? ⟨g8, 1, none⟩ = some (.int .i64 N.2) := fun nq => (H8.out.keep nq.2).two.2
                  have Hrow := Lib.hid hrow
                  have Hr8 := Lib.hid hr8
                  have Hs1 := Lib.hid hs1
                  have Hka := Lib.hid hka
                  obtain ⟨o1, ho1⟩ : ∃ o, o = S'.getD (k + 1) none := ⟨_, rfl⟩
                  rw [← ho1] at e0 Hs1
                  have Ho1 := Lib.hid ho1
                  clear a0 a1 hs1 b0 b1 hr8 hrow hgN hka ho1
                  have hk1' : (k : Int) + 1 < n := by omega
                  repeat' (first | go_values | go_skip | go_guarded | go_step | go_upon)
                  refine wp_region_np (wp_region_n [0, 1, 2, 3, 4, 5, 6, 7, 8, 9, 10, 11, 12, 13, 14, 15, 16, 17] [18, 19] ⟨[(13, wdR (w.heap.size + 1) o1 (r.set ka N)), (17, alR wc #[.bool false, .slice none 0 0] 74)], [15, 16]⟩ (by kernel_rfl) (by kernel_rfl) (by kernel_rfl) (fun _ _ _ _ _ h => h) (monoR_cons (wdR_mono _ _ _) (monoR_cons (alR_mono _ _ _) monoR_nil)) wc (Below.refl _ _) ?_)
                  simp only [opsAt, opsOf, List.filterMap_cons, List.filterMap_nil, List.getElem?_cons_zero, List.getElem?_cons_succ, Option.map_some]
                  repeat (first | (refine lexN_D rfl rfl rfl rfl ?_; intro K hK; go_big_quiet_op; go_big_quiet_on) | (refine lexN_L rfl rfl rfl ?_; intro K hK; go_big_quiet_op; go_big_quiet_on))
                  refine lexN_N rfl rfl (fun nq => ?_) (fun v hv _ => ?_)
                  · go_simp
                    exact ⟨rfl, wd_call (Nat.lt_of_lt_of_le HJ3.out.sts.lt nq.2.size) (fun s e => ⟨(Hs1.out s e).1.keep nq.2, (Hs1.out s e).2⟩) (Hrow.out.keep nq.2) Hr8.out⟩
                  · obtain ⟨_, vo, rfl, _, bo, oo, co, rfl, _, _⟩ := hv
                    simp only [Act.put, List.setIfInBounds_toArray, List.set_cons_succ, List.set_cons_zero]
                    clear e0 e1 e2 e3 e4 e5
                    repeat (first | (refine lexN_D rfl rfl rfl rfl ?_; intro K hK; go_big_quiet_op; go_big_quiet_on) | (refine lexN_L rfl rfl rfl ?_; intro K hK; go_big_quiet_op; go_big_quiet_on))
                    refine lexN_N rfl rfl (alR_upon (by rfl) (fun w' => by kernel_rfl)) (fun v hv hd11 => ?_)
                    obtain ⟨_, g11, rfl, _, _⟩ := hv
                    simp only [Act.put, List.setIfInBounds_toArray, List.set_cons_succ, List.set_cons_zero]
                    clear hd11
                    refine lexN_nil ?_
                    rintro _ ⟨nq, rfl⟩ ⟨⟨_, hwd⟩, h11⟩
                    obtain ⟨l11, b11⟩ := alR_at h11
                    obtain ⟨vo, ev, hsp⟩ := hwd
                    simp only [Value.tuple.injEq, Value.agg.injEq, Array.mk.injEq, List.cons.injEq, and_true, true_and] at ev
                    rw [← ev] at hsp
                    have hapart := hsp.apart b11
                    have B11 : Hid (StBox nq.1 g11 false (.slice none 0 0)) := Lib.hid b11
                    have L11 := Lib.hid l11
                    have Hsp := Lib.hid ((hsp.setB hapart 0 (.bool true)).setB hapart 1 (.slice (some ⟨bo, oo, none⟩) 8 co))
                    obtain ⟨n0, n1⟩ := B11.out.two
                    have p0 := B11.out.free 0
                    have p1 := B11.out.free 1
                    clear h11 b11 l11 ev hsp hapart vo
                    repeat' (first | go_values | go_skip | go_guarded | go_step | go_upon)
                    refine NoPan.normal ?_
                    repeat' (go_not_at_region 13; first | go_values | go_skip | go_guarded | go_step | go_upon)
                    have hbw : Below wc.heap.size wc ((nq.1.setCell ⟨g11, 0, none⟩ (.bool true)).setCell ⟨g11, 1, none⟩ (.slice (some ⟨bo, oo, none⟩) 8 co)) := (nq.2.setCell L11.out _).setCell L11.out _
                    refine gen_world (fun w' => (RJ w p ⟨.slice (some ⟨bc, oc, none⟩) n cc, vt, vx, vs, vk, vv⟩ (w.heap.size + 1) S' w' ∧ InsAt w' gx x ∧ SpAt w' g10 F) ∧ StBox w' g11 true (.slice (some ⟨bo, oo, none⟩) 8 co) ∧ SpRow w' (w.heap.size + 1) (.slice (some ⟨bo, oo, none⟩) 8 co) (widR o1 (r.set ka N))) ⟨⟨HJ3.out.step hbw, HI3.out.keep hbw, H10.out.keep hbw⟩, B11.out.putS _ _, Hsp.out⟩ ?_
                    clear n0 n1 p0 p1 Hsp B11 L11 hbw
                    rintro wy ⟨⟨j1, j2, j3⟩, j4, j5⟩
                    have J1 := Lib.hid j1
                    have J2 := Lib.hid j2
                    have J3 := Lib.hid j3
                    have J5 := Lib.hid j5
                    obtain ⟨n0, n1⟩ := j4.two
                    obtain ⟨vs2, a0, a1, _⟩ := (j1.sts.at' (k + 1) (by rw [HSl.out]; exact hk1)).val
                    have f0 := j1.sts.free ((k + 1) * 2)
                    have f1 := j1.sts.free ((k + 1) * 2 + 1)
                    have E1 := Lib.hid (j1.sts.ne j2 (by decide))
                    have E2 := Lib.hid (j1.sts.ne j3 (by decide))
                    clear j1 j2 j3 j4 j5
                    repeat' (go_not_at_region 14; first | go_values | go_skip | go_guarded | go_step | go_upon)
                    have Hres : Hid (wide (S', m') (k + 1) (goN (ofP p) x r) = (S'.set (k + 1) (some (widR o1 (r.set ka N))), m' || widB o1 (r.set ka N))) := Lib.hid (by rw [HgN.out, hsA.out, Ho1.out]; exact wide_some (by rw [HSl.out]; exact hk1))
                    have HJn := Lib.hid (J1.out.put (i := k + 1) (by rw [HSl.out]; exact hk1) J5.out)
                    have HIn : Hid (InsAt ((wy.setCell ⟨w.heap.size + 1, (k + 1) * 2, none⟩ (.bool true)).setCell ⟨w.heap.size + 1, (k + 1) * 2 + 1, none⟩ (.slice (some ⟨bo, oo, none⟩) 8 co)) gx x) := Lib.hid ((J2.out.other E1.out).other E1.out)
                    have HSn : Hid (SpAt ((wy.setCell ⟨w.heap.size + 1, (k + 1) * 2, none⟩ (.bool true)).setCell ⟨w.heap.size + 1, (k + 1) * 2 + 1, none⟩ (.slice (some ⟨bo, oo, none⟩) 8 co)) g10 F) := Lib.hid ((J3.out.oth E2.out).oth E2.out)
                    clear a0 a1 f0 f1 n0 n1 J1 J2 J3 J5
                    cases m' with
                    | true =>
                      repeat' (first | go_values | go_skip | go_guarded | go_step | go_upon)
                      go_meet
                      case rel => exact ⟨_, _, rfl, Lib.hid (by rw [Hres.out, Bool.true_or]), HJn, HIn, HSn⟩
                    | false =>
                      repeat' (first | go_values | go_skip | go_guarded | go_step | go_upon)
                      go_meet
                      case rel => exact ⟨_, _, rfl, Lib.hid (by rw [Hres.out, Bool.false_or]), HJn, HIn, HSn⟩
              case rest =>
                obtain ⟨S2, m2, rfl, HW2, J, I, H10⟩ := hcut
                have HSl2 : Hid (S2.length = n) := Lib.hid (by
                  have := HW2.out
                  cases hg : goN (ofP p) x r with
                  | none => rw [hg, wide_none] at this; cases this; exact HSl.out
                  | some q =>
                    have hk1 : k + 1 < n := by rw [Hn.out]; exact HC.out.last k x r Hx.out (by rw [hg]; simp)
                    rw [hg, wide_some (by rw [HSl.out]; exact hk1)] at this
                    cases this
                    rw [List.length_set]; exact HSl.out)
                have Hr2 : Hid (S2.getD k none = some r) := Lib.hid (by
                  have := HW2.out
                  cases hg : goN (ofP p) x r with
                  | none => rw [hg, wide_none] at this; cases this; exact Hr.out
                  | some q =>
                    have hk1 : k + 1 < n := by rw [Hn.out]; exact HC.out.last k x r Hx.out (by rw [hg]; simp)
                    rw [hg, wide_some (by rw [HSl.out]; exact hk1)] at this
                    cases this
                    rw [getD_set _ _ _ _ (by rw [HSl.out]; exact hk1), if_neg (by omega)]; exact Hr.out)
                rw [← HW2.out] at HN
                clear HW2 HI H8 HJ3 HI3 HSl Hr
                repeat' (go_not_at_if 78; first | go_values | go_skip | go_guarded | go_step | go_upon)
                cases fr with
                | false =>
                  repeat' (first | go_values | go_skip | go_guarded | go_step | go_upon)
                  go_roundw
                  case rel => exact ⟨k + 1, S2, m2, by go_num, rfl, hlt, Lib.hid (by have := HN.out; rw [Hg.out.2] at this; simp only [Bool.false_eq_true, if_false, wide_none] at this; exact this), J⟩
                  case measure => simp [intOf]; omega
                | true =>
                  have hgN : goF x r = some (sA x r F) := Hg.out.2
                  obtain ⟨kc, hkc⟩ : ∃ kc : Nat, x 3 = (kc : Int) := ⟨(x 3).toNat, by have := (HC.out.c k x Hx.out).1; omega⟩
                  have hk1 : kc < n := by have := (HC.out.c k x Hx.out).2; have := Hn.out; omega
                  obtain ⟨ka, hka⟩ : ∃ ka : Nat, x 1 = (ka : Int) := ⟨(x 1).toNat, by have := okI_1 (HW.out.at' Hx.out).1; omega⟩
                  have hsA : Hid (sA x r F = r.set ka F) := Lib.hid (by unfold sA; rw [hka]; rfl)
                  have HgN := Lib.hid hgN
                  obtain ⟨vs1, a0, a1, hs1⟩ := (J.out.sts.at' kc (by rw [HSl2.out]; exact hk1)).val
                  have hst := J.out.sts.at' k (by rw [HSl2.out]; exact hlt)
                  rw [Hr2.out] at hst
                  obtain ⟨b0, vi, b1, hr8, bi, oi, ci, hvi, hbi, hrow⟩ := hst
                  subst hvi
                  have e0 : ∀ nq : WB wc, nq.1.cell? ⟨w.heap.size + 1, kc * 2, none⟩ = some (.bool (S2.getD kc none).isSome) := fun nq => by rw [nq.2.cell (show w.heap.size + 1 < wc.heap.size from J.out.sts.lt)]; exact a0
                  have e1 : ∀ nq : WB wc, nq.1.cell? ⟨w.heap.size + 1, kc * 2 + 1, none⟩ = some vs1 := fun nq => by rw [nq.2.cell (show w.heap.size + 1 < wc.heap.size from J.out.sts.lt)]; exact a1
                  have e2 : ∀ nq : WB wc, nq.1.cell? ⟨w.heap.size + 1, k * 2 + 1, none⟩ = some (.slice (some ⟨bi, oi, none⟩) 8 ci) := fun nq => by rw [nq.2.cell (show w.heap.size + 1 < wc.heap.size from J.out.sts.lt)]; exact b1
                  have e3 : ∀ nq : WB wc, nq.1.cell? ⟨gx, 1, none⟩ = some (.int .i64 (ka : Int)) := fun nq => by rw [← hka]; exact (I.out.keep nq.2).cell 1 (by decide)
                  have e6 : ∀ nq : WB wc, nq.1.cell? ⟨gx, 3, none⟩ = some (.int .i64 (kc : Int)) := fun nq => by rw [← hkc]; exact (I.out.keep nq.2).cell 3 (by decide)
                  have e4 : ∀ nq : WB wc, nq.1.cell? ⟨g10, 0, none⟩ = some (.int .i64 F.1) := fun nq => (H10.out.keep nq.2).two.1
                  have e5 : ∀ nq : WB wc, nq.1.cell? ⟨g10, 1, none⟩ = some (.int .i64 F.2) := fun nq => (H10.out.keep nq.2).two.2
                  have Hrow := Lib.hid hrow
                  have Hr8 := Lib.hid hr8
                  have Hs1 := Lib.hid hs1
                  have Hka := Lib.hid hka
                  obtain ⟨o1, ho1⟩ : ∃ o, o = S2.getD kc none := ⟨_, rfl⟩
                  rw [← ho1] at e0 Hs1
                  have Ho1 := Lib.hid ho1
                  have Hkc := Lib.hid hkc
                  clear a0 a1 hs1 b0 b1 hr8 hrow hgN hka ho1 hkc
                  have hk1' : (kc : Int) < n := by omega
                  repeat' (first | go_values | go_skip | go_guarded | go_step | go_upon)
                  refine wp_region_np (wp_region_n [0, 1, 2, 3, 4, 5, 6, 7, 8, 9, 10, 11, 12, 13, 14, 15, 16, 17] [18, 19] ⟨[(13, wdR (w.heap.size + 1) o1 (r.set ka F)), (17, alR wc #[.bool false, .slice none 0 0] 74)], [15, 16]⟩ (by kernel_rfl) (by kernel_rfl) (by kernel_rfl) (fun _ _ _ _ _ h => h) (monoR_cons (wdR_mono _ _ _) (monoR_cons (alR_mono _ _ _) monoR_nil)) wc (Below.refl _ _) ?_)
                  simp only [opsAt, opsOf, List.filterMap_cons, List.filterMap_nil, List.getElem?_cons_zero, List.getElem?_cons_succ, Option.map_some]
                  repeat (first | (refine lexN_D rfl rfl rfl rfl ?_; intro K hK; go_big_quiet_op; go_big_quiet_on) | (refine lexN_L rfl rfl rfl ?_; intro K hK; go_big_quiet_op; go_big_quiet_on))
                  refine lexN_N rfl rfl (fun nq => ?_) (fun v hv _ => ?_)
                  · go_simp
                    exact ⟨rfl, wd_call (Nat.lt_of_lt_of_le J.out.sts.lt nq.2.size) (fun s e => ⟨(Hs1.out s e).1.keep nq.2, (Hs1.out s e).2⟩) (Hrow.out.keep nq.2) Hr8.out⟩
                  · obtain ⟨_, vo, rfl, _, bo, oo, co, rfl, _, _⟩ := hv
                    simp only [Act.put, List.setIfInBounds_toArray, List.set_cons_succ, List.set_cons_zero]
                    clear e0 e1 e2 e3 e4 e5 e6
                    repeat (first | (refine lexN_D rfl rfl rfl rfl ?_; intro K hK; go_big_quiet_op; go_big_quiet_on) | (refine lexN_L rfl rfl rfl ?_; intro K hK; go_big_quiet_op; go_big_quiet_on))
                    refine lexN_N rfl rfl (alR_upon (by rfl) (fun w' => by kernel_rfl)) (fun v hv hd11 => ?_)
                    obtain ⟨_, g11, rfl, _, _⟩ := hv
                    simp only [Act.put, List.setIfInBounds_toArray, List.set_cons_succ, List.set_cons_zero]
                    clear hd11
                    refine lexN_nil ?_
                    rintro _ ⟨nq, rfl⟩ ⟨⟨_, hwd⟩, h11⟩
                    obtain ⟨l11, b11⟩ := alR_at h11
                    obtain ⟨vo, ev, hsp⟩ := hwd
                    simp only [Value.tuple.injEq, Value.agg.injEq, Array.mk.injEq, List.cons.injEq, and_true, true_and] at ev
                    rw [← ev] at hsp
                    have hapart := hsp.apart b11
                    have B11 : Hid (StBox nq.1 g11 false (.slice none 0 0)) := Lib.hid b11
                    have L11 := Lib.hid l11
                    have Hsp := Lib.hid ((hsp.setB hapart 0 (.bool true)).setB hapart 1 (.slice (some ⟨bo, oo, none⟩) 8 co))
                    obtain ⟨n0, n1⟩ := B11.out.two
                    have p0 := B11.out.free 0
                    have p1 := B11.out.free 1
                    clear h11 b11 l11 ev hsp hapart vo
                    repeat' (first | go_values | go_skip | go_guarded | go_step | go_upon)
                    refine NoPan.normal ?_
                    repeat' (go_not_at_region 17; first | go_values | go_skip | go_guarded | go_step | go_upon)
                    have hbw : Below wc.heap.size wc ((nq.1.setCell ⟨g11, 0, none⟩ (.bool true)).setCell ⟨g11, 1, none⟩ (.slice (some ⟨bo, oo, none⟩) 8 co)) := (nq.2.setCell L11.out _).setCell L11.out _
                    refine gen_world (fun w' => (RJ w p ⟨.slice (some ⟨bc, oc, none⟩) n cc, vt, vx, vs, vk, vv⟩ (w.heap.size + 1) S2 w' ∧ InsAt w' gx x) ∧ StBox w' g11 true (.slice (some ⟨bo, oo, none⟩) 8 co) ∧ SpRow w' (w.heap.size + 1) (.slice (some ⟨bo, oo, none⟩) 8 co) (widR o1 (r.set ka F))) ⟨⟨J.out.step hbw, I.out.keep hbw⟩, B11.out.putS _ _, Hsp.out⟩ ?_
                    clear n0 n1 p0 p1 Hsp B11 L11 hbw
                    rintro wy ⟨⟨j1, j2⟩, j4, j5⟩
                    have J1 := Lib.hid j1
                    have J2 := Lib.hid j2
                    have J5 := Lib.hid j5
                    obtain ⟨n0, n1⟩ := j4.two
                    have i3 : wy.cell? ⟨gx, 3, none⟩ = some (.int .i64 (kc : Int)) := by rw [← Hkc.out]; exact j2.cell 3 (by decide)
                    obtain ⟨vs2, a0, a1, _⟩ := (j1.sts.at' kc (by rw [HSl2.out]; exact hk1)).val
                    have f0 := j1.sts.free (kc * 2)
                    have f1 := j1.sts.free (kc * 2 + 1)
                    have E1 := Lib.hid (j1.sts.ne j2 (by decide))
                    clear j1 j2 j4 j5
                    repeat' (go_not_at_region 18; first | go_values | go_skip | go_guarded | go_step | go_upon)
                    have Hres : Hid (wide (S2, m2) kc (goF x r) = (S2.set kc (some (widR o1 (r.set ka F))), m2 || widB o1 (r.set ka F))) := Lib.hid (by rw [HgN.out, hsA.out, Ho1.out]; exact wide_some (by rw [HSl2.out]; exact hk1))
                    have HJn := Lib.hid (J1.out.put (i := kc) (by rw [HSl2.out]; exact hk1) J5.out)
                    clear a0 a1 f0 f1 n0 n1 i3 J1 J2 J5
                    cases m2 with
                    | true =>
                      repeat' (first | go_values | go_skip | go_guarded | go_step | go_upon)
                      go_roundw
                      case rel => exact ⟨k + 1, _, _, by go_num, rfl, hlt, Lib.hid (by have := HN.out; rw [Hkc.out, Int.toNat_natCast, Hres.out, Bool.true_or] at this; exact this), HJn⟩
                      case measure => simp [intOf]; omega
                    | false =>
                      repeat' (first | go_values | go_skip | go_guarded | go_step | go_upon)
                      go_roundw
                      case rel => exact ⟨k + 1, _, _, by go_num, rfl, hlt, Lib.hid (by have := HN.out; rw [Hkc.out, Int.toNat_natCast, Hres.out, Bool.false_or] at this; exact this), HJn⟩
                      case measure => simp [intOf]; omega
        · obtain rfl : n = k := by omega
          have HOn := Lib.hid (HO.out.next (S' := S') (m' := m') (by rw [← Hn.out]; exact HI.out))
          repeat' (first | go_values | go_skip | go_guarded | go_step | go_upon)
          go_roundg (potS S' * 2 + (if m' then 1 else 0))
          case measure => exact HOn.out.2
          case rel => exact ⟨S', m', rfl, Lib.hid HOn.out.1, HJ⟩
end Go.Proofs.Ytkhggnlanopgkaa
/- Walk: a program's check, by the reference. Condition: the program lies in memory. -/
namespace Go.Proofs.Ytkhggnlanopgkaa
open Go.RowKit
set_option maxRecDepth 100000 in
set_option maxHeartbeats 8000000 in
theorem ref_Check (p : Prg) (v : PV) (w : World) (H : PrgAt w v p) : Calls Try.prog 12 #[pgV p v] w fun e w' => e = .returned (.tuple #[.int .i64 (checkI p).1, .int .i64 (checkI p).2]) ∧ Below w.heap.size w w' := by
  have HH := Lib.hid H
  obtain ⟨ac, cc, hvc, hcc, hmc, hcellc⟩ := H.code.open icL_len
  obtain ⟨vc, vt, vx, vs, vk, vv⟩ := v
  dsimp only at hvc
  subst hvc
  obtain ⟨n, hn⟩ : ∃ n, n = p.code.length := ⟨_, rfl⟩
  have Hn := Lib.hid hn
  have Hcell := Lib.hid hcellc
  have HP : Hid (PBox (w.alloc (.cells (pgC p ⟨.slice ac p.code.length cc, vt, vx, vs, vk, vv⟩) 30)) w.heap.size p ⟨.slice ac p.code.length cc, vt, vx, vs, vk, vv⟩) := Lib.hid (PBox.new _ _ _)
  have Hb0 : Hid (Below w.heap.size w (w.alloc (.cells (pgC p ⟨.slice ac p.code.length cc, vt, vx, vs, vk, vv⟩) 30))) := Lib.hid ((Below.refl _ _).alloc (Nat.le_refl _) _)
  have HW := Lib.hid fun w H => ref_Shape p ⟨.slice ac p.code.length cc, vt, vx, vs, vk, vv⟩ w H
  have HR := Lib.hid fun w H W => ref_Ranges p ⟨.slice ac p.code.length cc, vt, vx, vs, vk, vv⟩ w H W
  rw [← hn] at HH HP Hb0 HW HR ⊢
  obtain ⟨G, hG⟩ : ∃ G, G = checkI p := ⟨_, rfl⟩
  have Hc1 : Hid ((shapeI p).1 ≠ 0 → G = shapeI p) := Lib.hid fun h => hG.trans (check_shape h)
  have Hc2 : Hid ((shapeI p).1 = 0 → ∀ S, Least (ofP p) p.code S → G = wrongI p S) := Lib.hid fun h S hS => hG.trans (check_whole h hS)
  have Hsw : Hid ((shapeI p).1 = 0 → Whole p) := Lib.hid fun h => (shape_whole h).1
  rw [← hG]
  obtain ⟨s1, hs1⟩ : ∃ s, s = (shapeI p).1 := ⟨_, rfl⟩
  obtain ⟨s2, hs2⟩ : ∃ s, s = (shapeI p).2 := ⟨_, rfl⟩
  have Hs : Hid (shapeI p = (s1, s2)) := Lib.hid (by rw [hs1, hs2])
  rw [← hs1, ← hs2] at HW
  rw [← hs1] at Hc1 Hc2 Hsw
  clear hG hs1 hs2 H hcellc hmc hcc hn
  go_enter Try.func12, Try.ntmps12
  repeat' (first | (with_reducible refine load_pg HP.out _ rfl rfl ?_) | go_values | go_skip | go_guarded | go_step | go_upon)
  refine Calls.mono (HW.out _ (HH.out.keep Hb0.out)) ?_
  rintro _ w1 ⟨rfl, hb1⟩
  dsimp only
  have P1 := Lib.hid (HP.out.keep hb1)
  have B1 := Lib.hid (Hb0.out.trans (hb1.mono Hb0.out.size))
  clear hb1 HP Hb0 HW
  by_cases h0 : s1 = 0
  rotate_left
  · have e := Hc1.out h0
    rw [Hs.out] at e
    have hne : (s1 != 0) = true := by rw [bne_iff_ne]; exact h0
    clear h0 Hc1 Hc2 Hsw Hs
    subst e
    repeat' (first | go_values | go_skip | go_guarded | go_step | go_upon)
    go_ret2
    exact ⟨rfl, B1.out⟩
  · have hne : (s1 != 0) = false := by rw [bne_eq_false_iff_eq]; exact h0
    have Hwh := Lib.hid (Hsw.out h0)
    have Hc3 := Lib.hid (Hc2.out h0)
    clear h0 Hc1 Hc2 Hsw Hs
    repeat' (first | (with_reducible refine load_pg P1.out _ rfl rfl ?_) | go_values | go_skip | go_guarded | go_step | go_upon)
    refine Calls.mono (HR.out _ (HH.out.keep B1.out) Hwh.out) ?_
    rintro _ w2 ⟨ba, S, rfl, hS, hL, hb2⟩
    dsimp only
    have P2 := Lib.hid (P1.out.keep hb2)
    have B2 := Lib.hid (B1.out.trans (hb2.mono B1.out.size))
    have HS2 := Lib.hid hS
    have HSl : Hid (S.length = n) := Lib.hid (by rw [Hn.out]; exact hL.1.1)
    have Hr8 : Hid (∀ i r, S.getD i none = some r → r.length = 8) := Lib.hid fun i r h => (hL.1.2 i r h).1
    have Hg := Lib.hid (Hc3.out S hL)
    have hn4 : (n : Int) ≤ 4096 := by have := Hwh.out.len; have := Hn.out; omega
    clear hb2 hS hL P1 B1 HR Hc3
    repeat' (first | go_values | go_skip | go_guarded | go_step | go_upon)
    go_loopw [20] (fun s_ wr => ∃ k : Nat, s_ = .int .i64 k ∧ k ≤ n ∧ Hid (∀ i, i < k → badAt p S i = false) ∧ Hid (PBox wr w.heap.size p ⟨.slice ac n cc, vt, vx, vs, vk, vv⟩) ∧ Hid (StsAt wr ba S) ∧ Hid (Below w.heap.size w wr)) (fun s_ _ => n - (intOf s_).toNat)
    case atStart => exact ⟨0, rfl, Nat.zero_le _, Lib.hid fun i hi => absurd hi (Nat.not_lt_zero _), P2, HS2, B2⟩
    case round =>
      clear P2 HS2 B2
      obtain ⟨k, rfl, hk, Ha, HP, HS, HB⟩ := hrel
      by_cases hlt : k < n
      · have hst := HS.out.at' k (by rw [HSl.out]; exact hlt)
        have Hx : Hid (p.code[k]? = some (codeAt p k)) := Lib.hid (by unfold codeAt; rw [List.getD_eq_getElem?_getD, List.getElem?_eq_getElem (by rw [← Hn.out]; exact hlt)]; rfl)
        have Hbd : Hid (badAt p S k = match S.getD k none with | none => false | some r => !safeI p (codeAt p k) r) := Lib.hid rfl
        cases hr : S.getD k none with
        | none =>
          rw [hr] at hst Hbd
          obtain ⟨q0, q1⟩ := hst
          have HPx := Lib.hid (HP.out.keep ((Below.refl _ _).alloc (Nat.le_refl _) (.cells #[.bool false, .slice none 0 0] 74)))
          have HSx := Lib.hid (HS.out.keep ((Below.refl _ _).alloc (Nat.le_refl _) (.cells #[.bool false, .slice none 0 0] 74)))
          have HBx := Lib.hid (HB.out.trans (((Below.refl _ _).alloc (Nat.le_refl _) (.cells #[.bool false, .slice none 0 0] 74)).mono HB.out.size))
          clear hr
          repeat' (first | go_values | go_skip | go_guarded | go_step | go_upon)
          go_region
          repeat' (first | go_values | go_skip | go_guarded | go_step | go_upon)
          go_roundw
          case rel => exact ⟨k + 1, by go_num, hlt, Lib.hid fun i hi => by
            rcases Nat.lt_or_ge i k with h1 | h1
            · exact Ha.out i h1
            · obtain rfl : i = k := by omega
              exact Hbd.out, Lib.hid (HPx.out.keep (Below.refl _ _).drew), Lib.hid (HSx.out.keep (Below.refl _ _).drew), Lib.hid HBx.out.drew⟩
          case measure => simp [intOf]; omega
        | some r =>
          rw [hr] at hst Hbd
          obtain ⟨q0, vi, q1, hsp⟩ := hst
          obtain ⟨hr8, bi, oi, ci, hvi, hbi, hrow⟩ := hsp
          subst hvi
          rcases Hcell.out with h0 | ⟨bc, oc, hac, hbc, hcl⟩
          · have := Hn.out; omega
          subst hac
          obtain ⟨d0, d1, d2, d3, d4⟩ := Row5p.cells hcl k (by rw [← Hn.out]; exact hlt)
          have hb1 : Below wr.heap.size wr (wr.alloc (.cells #[.bool true, .slice (some ⟨bi, oi, none⟩) 8 ci] 74)) := (Below.refl _ _).alloc (Nat.le_refl _) _
          have HPx := Lib.hid (HP.out.keep hb1)
          have HSx := Lib.hid (HS.out.keep hb1)
          have HBx := Lib.hid (HB.out.trans (hb1.mono HB.out.size))
          have Hrx := Lib.hid (hrow.keep hb1)
          have HTx : Hid (StBox (wr.alloc (.cells #[.bool true, .slice (some ⟨bi, oi, none⟩) 8 ci] 74)) wr.heap.size true (.slice (some ⟨bi, oi, none⟩) 8 ci)) := Lib.hid (StBox.new _ _ _)
          have Hd : Hid (∀ w', Below w.heap.size w w' → w'.cell? ⟨bc, oc + k * 5, none⟩ = some (.int .i64 (codeAt p k 0)) ∧ w'.cell? ⟨bc, oc + k * 5 + 1, none⟩ = some (.int .i64 (codeAt p k 1)) ∧ w'.cell? ⟨bc, oc + k * 5 + 2, none⟩ = some (.int .i64 (codeAt p k 2)) ∧ w'.cell? ⟨bc, oc + k * 5 + 3, none⟩ = some (.int .i64 (codeAt p k 3)) ∧ w'.cell? ⟨bc, oc + k * 5 + 4, none⟩ = some (.int .i64 (codeAt p k 4))) := Lib.hid fun w' hb => by
            rw [hb.cell (show bc < w.heap.size from hbc), hb.cell (show bc < w.heap.size from hbc), hb.cell (show bc < w.heap.size from hbc), hb.cell (show bc < w.heap.size from hbc), hb.cell (show bc < w.heap.size from hbc)]
            exact ⟨d0, d1, d2, d3, d4⟩
          have Hsafe : Hid (∀ w', Below w.heap.size w w' → RowOf spC 2 w' (.slice (some ⟨bi, oi, none⟩) 8 ci) r → Calls Try.prog 25 #[pgV p ⟨.slice (some ⟨bc, oc, none⟩) n cc, vt, vx, vs, vk, vv⟩, vI (codeAt p k), .slice (some ⟨bi, oi, none⟩) 8 ci] w' fun e w'' => e = .returned (.bool (safeI p (codeAt p k) r)) ∧ Below w'.heap.size w' w'') := Lib.hid fun w' hb hrow' => ref_safe p _ (codeAt p k) _ r w' (HH.out.keep hb) hrow' hr8 (Hwh.out.sok Hx.out)
          obtain ⟨sf, hsf⟩ : ∃ sf, sf = safeI p (codeAt p k) r := ⟨_, rfl⟩
          rw [← hsf] at Hsafe
          have Hbd2 : Hid (badAt p S k = !sf) := Lib.hid (by rw [hsf]; exact Hbd.out)
          have Hg2 : Hid (sf = false → G = (231, (k : Int))) := Lib.hid fun h => Hg.out.trans (wrong_some (by rw [← Hn.out]; exact hlt) (by rw [Hbd2.out, h]; rfl) Ha.out)
          generalize codeAt p k = x at Hd Hsafe
          clear hr hb1 hrow hcl d0 d1 d2 d3 d4 hbi hr8 hsf Hbd
          repeat' (first | go_values | go_skip | go_guarded | go_step | go_upon)
          refine gen_world (fun w' => PBox w' w.heap.size p ⟨.slice (some ⟨bc, oc, none⟩) n cc, vt, vx, vs, vk, vv⟩ ∧ StsAt w' ba S ∧ Below w.heap.size w w' ∧ RowOf spC 2 w' (.slice (some ⟨bi, oi, none⟩) 8 ci) r ∧ StBox w' wr.heap.size true (.slice (some ⟨bi, oi, none⟩) 8 ci)) ⟨HPx.out, HSx.out, HBx.out, Hrx.out, HTx.out⟩ ?_
          clear HPx HSx HBx Hrx HTx q0 q1 HP HS HB
          rintro wx ⟨j1, j2, j3, j4, j5⟩
          have J1 := Lib.hid j1
          have J2 := Lib.hid j2
          have J3 := Lib.hid j3
          have J4 := Lib.hid j4
          have J5 := Lib.hid j5
          clear j1 j2 j3 j4 j5
          have u0 : ∀ nq : WB wx, nq.1.cell? ⟨w.heap.size, 0, none⟩ = some (.int .i64 p.grow) := fun nq => (J1.out.keep nq.2).ten.1
          have u1 : ∀ nq : WB wx, nq.1.cell? ⟨w.heap.size, 1, none⟩ = some (.int .i64 p.rest) := fun nq => (J1.out.keep nq.2).ten.2.1
          have u2 : ∀ nq : WB wx, nq.1.cell? ⟨w.heap.size, 2, none⟩ = some (.int .i64 p.extra) := fun nq => (J1.out.keep nq.2).ten.2.2.1
          have u3 : ∀ nq : WB wx, nq.1.cell? ⟨w.heap.size, 3, none⟩ = some (.int .i64 p.signs) := fun nq => (J1.out.keep nq.2).ten.2.2.2.1
          have u4 : ∀ nq : WB wx, nq.1.cell? ⟨w.heap.size, 4, none⟩ = some (.slice (some ⟨bc, oc, none⟩) n cc) := fun nq => (J1.out.keep nq.2).ten.2.2.2.2.1
          have u5 : ∀ nq : WB wx, nq.1.cell? ⟨w.heap.size, 5, none⟩ = some vt := fun nq => (J1.out.keep nq.2).ten.2.2.2.2.2.1
          have u6 : ∀ nq : WB wx, nq.1.cell? ⟨w.heap.size, 6, none⟩ = some vx := fun nq => (J1.out.keep nq.2).ten.2.2.2.2.2.2.1
          have u7 : ∀ nq : WB wx, nq.1.cell? ⟨w.heap.size, 7, none⟩ = some vs := fun nq => (J1.out.keep nq.2).ten.2.2.2.2.2.2.2.1
          have u8 : ∀ nq : WB wx, nq.1.cell? ⟨w.heap.size, 8, none⟩ = some vk := fun nq => (J1.out.keep nq.2).ten.2.2.2.2.2.2.2.2.1
          have u9 : ∀ nq : WB wx, nq.1.cell? ⟨w.heap.size, 9, none⟩ = some vv := fun nq => (J1.out.keep nq.2).ten.2.2.2.2.2.2.2.2.2
          have t0 : ∀ nq : WB wx, nq.1.cell? ⟨wr.heap.size, 0, none⟩ = some (.bool true) := fun nq => (J5.out.keep nq.2).two.1
          have t1 : ∀ nq : WB wx, nq.1.cell? ⟨wr.heap.size, 1, none⟩ = some (.slice (some ⟨bi, oi, none⟩) 8 ci) := fun nq => (J5.out.keep nq.2).two.2
          have hB : ∀ nq : WB wx, Below w.heap.size w nq.1 := fun nq => J3.out.trans (nq.2.mono J3.out.size)
          have HB' := Lib.hid hB
          have x0 : ∀ nq : WB wx, nq.1.cell? ⟨bc, oc + k * 5, none⟩ = some (.int .i64 (x 0)) := fun nq => (Hd.out _ (HB'.out nq)).1
          have x1 : ∀ nq : WB wx, nq.1.cell? ⟨bc, oc + k * 5 + 1, none⟩ = some (.int .i64 (x 1)) := fun nq => (Hd.out _ (HB'.out nq)).2.1
          have x2 : ∀ nq : WB wx, nq.1.cell? ⟨bc, oc + k * 5 + 2, none⟩ = some (.int .i64 (x 2)) := fun nq => (Hd.out _ (HB'.out nq)).2.2.1
          have x3 : ∀ nq : WB wx, nq.1.cell? ⟨bc, oc + k * 5 + 3, none⟩ = some (.int .i64 (x 3)) := fun nq => (Hd.out _ (HB'.out nq)).2.2.2.1
          have x4 : ∀ nq : WB wx, nq.1.cell? ⟨bc, oc + k * 5 + 4, none⟩ = some (.int .i64 (x 4)) := fun nq => (Hd.out _ (HB'.out nq)).2.2.2.2
          clear hB
          refine wp_region_wb (by kernel_rfl) (by kernel_rfl) wx (Below.refl _ _) ?_
          repeat (go_big_quiet_step (((go_at_call 25; exact calls_wb (Hsafe.out _ (HB'.out _) (J4.out.keep (Subtype.property _)))))))
          refine wpQuiet_nil ?_
          rintro _ ⟨nq, rfl⟩
          have hnq := nq.2
          clear u0 u1 u2 u3 u4 u5 u6 u7 u8 u9 t0 t1 x0 x1 x2 x3 x4
          cases sf with
          | true =>
            repeat' (first | go_values | go_skip | go_guarded | go_step | go_upon)
            go_roundw
            case rel => exact ⟨k + 1, by go_num, hlt, Lib.hid fun i hi => by
              rcases Nat.lt_or_ge i k with h1 | h1
              · exact Ha.out i h1
              · obtain rfl : i = k := by omega
                exact Hbd2.out, Lib.hid (J1.out.keep hnq), Lib.hid (J2.out.keep hnq), Lib.hid (J3.out.trans (hnq.mono J3.out.size))⟩
            case measure => simp [intOf]; omega
          | false =>
            have e := Hg2.out rfl
            clear Hg2 Hg
            subst e
            repeat' (first | go_values | go_skip | go_guarded | go_step | go_upon)
            go_ret2
            exact ⟨rfl, J3.out.trans (hnq.mono J3.out.size)⟩
      · obtain rfl : n = k := by omega
        have e := Hg.out.trans (wrong_none (by rw [← Hn.out]; exact Ha.out))
        clear Hg
        subst e
        repeat' (first | go_values | go_skip | go_guarded | go_step | go_upon)
        go_ret2
        exact ⟨rfl, HB.out⟩
end Go.Proofs.Ytkhggnlanopgkaa
