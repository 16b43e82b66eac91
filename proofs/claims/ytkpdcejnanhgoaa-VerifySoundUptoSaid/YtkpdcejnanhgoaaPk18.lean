/- A program that came in, opened. No conditions. -/
import Derived.Test.YtkpdcejnanhgoaaPk07
import Derived.Test.YtkpdcejnanhgoaaPk06
import Derived.Test.YtkpdcejnanhgoaaPk17
import Derived.Test.YtkpdcejnanhgoaaPk08
import Derived.Test.YtkpdcejnanhgoaaPk12
import Derived.Test.YtkpdcejnanhgoaaPk04
import Derived.Deep.Cut
import Derived.Deep.LoopGhost
import Derived.Deep.CutRange
namespace Go.Proofs.Ytkpdcejnanhgoaa
open Go.RowKit Go.Deep
theorem flat_pg : flat Try.prog 20 45 = some [.int .i64, .int .i64, .int .i64, .int .i64, .sl 38, .sl 39, .sl 31, .sl 40, .sl 41, .sl 41] := by kernel_rfl
theorem flat_pins : flat Try.prog 20 85 = some [.int .i64, .int .i64, .int .i64, .int .i64, .int .i64] := by kernel_rfl
theorem flat_ptab : flat Try.prog 20 74 = some [.int .i64, .sl 32] := by kernel_rfl
theorem flat_pstr : flat Try.prog 20 9 = some [.str] := by kernel_rfl
theorem flat_pint : flat Try.prog 20 3 = some [.int .i64] := by kernel_rfl
theorem flat_pu32 : flat Try.prog 20 134 = some [.int .u32] := by kernel_rfl
theorem flat_pu64 : flat Try.prog 20 23 = some [.int .u64] := by kernel_rfl
theorem list10 {α : Type} {l : List α} (h : l.length = 10) : ∃ a b c d e f g i j k, l = [a, b, c, d, e, f, g, i, j, k] := by
  match l, h with
  | [a, b, c, d, e, f, g, i, j, k], _ => exact ⟨a, b, c, d, e, f, g, i, j, k, rfl⟩
theorem list5 {α : Type} {l : List α} (h : l.length = 5) : ∃ a b c d e, l = [a, b, c, d, e] := by
  match l, h with
  | [a, b, c, d, e], _ => exact ⟨a, b, c, d, e, rfl⟩
theorem list2 {α : Type} {l : List α} (h : l.length = 2) : ∃ a b, l = [a, b] := by
  match l, h with
  | [a, b], _ => exact ⟨a, b, rfl⟩
theorem list1 {α : Type} {l : List α} (h : l.length = 1) : ∃ a, l = [a] := by
  match l, h with
  | [a], _ => exact ⟨a, rfl⟩
/-- a list chosen, one for each -/
theorem choose_tabs {w : World} : ∀ ys : List (Int × Value), (∀ y ∈ ys, I64 y.1 ∧ ∃ l, RowOf intC 1 w y.2 l) → ∃ ds : List (Int × List Int), ys.length = ds.length ∧ ∀ (i : Nat) t d, ys[i]? = some t → ds[i]? = some d → t.1 = d.1 ∧ I64 d.1 ∧ RowOf intC 1 w t.2 d.2
  | [], _ => ⟨[], rfl, fun i t d h => by simp at h⟩
  | y :: ys, h => by
    obtain ⟨ds, h1, h2⟩ := choose_tabs ys fun z hz => h z (by simp [hz])
    obtain ⟨hi, l, hl⟩ := h y (by simp)
    refine ⟨(y.1, l) :: ds, by simp [h1], fun i t d ht hd => ?_⟩
    cases i with
    | zero => simp at ht hd; subst ht hd; exact ⟨rfl, hi, hl⟩
    | succ i => exact h2 i t d (by simpa using ht) (by simpa using hd)
section
variable {H : Type} {enc : TypeId × Value → H} {w : World} {spare : Nat → Bool} {held : Bool}
theorem slice_rows {α : Type} {f : α → List Value} {G : α → Prop} {t e : TypeId} {n0 : Nat} {ks : List FK} (ht : Try.prog.underlying t = some (.slice e)) (hk : flat Try.prog n0 e = some ks) (hc : Try.prog.cellsOf e = ks.length) (hsz : 0 < ks.length)
    (hp : ∀ cs, AllOk enc Try.prog w 0 spare held ks cs → ∃ y, cs = f y ∧ G y) {fuel : Nat} {c : Value} {x : DataW H × List MemPlace}
    (h : DataW.trod enc Try.prog w 0 spare held fuel t [c] = some x) (hw : Light Try.prog t x.1) : ∃ ys : List α, RowOf f ks.length w c ys ∧ ∀ y ∈ ys, G y := by
  obtain ⟨n, xs, h1, _, h3⟩ := slice_open ht hk hc hsz h hw
  have hl : xs.length = n * ks.length := by obtain ⟨_, _, _, _, _, h, _⟩ := h1; exact h
  obtain ⟨ys, e1, e2, e3⟩ := chunks (f := f) (G := G) n xs hl fun i hi => hp _ (h3 i hi)
  subst e1 e2
  exact ⟨ys, h1, e3⟩
theorem ints_row {t : TypeId} (ht : Try.prog.underlying t = some (.slice 3)) {fuel : Nat} {c : Value} {x : DataW H × List MemPlace} (h : DataW.trod enc Try.prog w 0 spare held fuel t [c] = some x) (hw : Light Try.prog t x.1) : ∃ l, RowOf intC 1 w c l := by
  obtain ⟨ys, h1, _⟩ := slice_rows (f := intC) (G := fun _ => True) ht flat_pint (by kernel_rfl) (by decide) (fun cs ho => by
    obtain ⟨a, rfl⟩ := list1 ho.1
    obtain ⟨z, rfl, _⟩ := ho.2 0 _ a rfl rfl
    exact ⟨z, rfl, trivial⟩) h hw
  exact ⟨ys, h1⟩
theorem u32_row {fuel : Nat} {c : Value} {x : DataW H × List MemPlace} (h : DataW.trod enc Try.prog w 0 spare held fuel 40 [c] = some x) (hw : Light Try.prog 40 x.1) : ∃ l : List Nat, RowOf u32C 1 w c l ∧ ∀ y ∈ l, y < 4294967296 :=
  slice_rows (f := u32C) (G := fun y => y < 4294967296) Try.underlying40 flat_pu32 (by kernel_rfl) (by decide) (fun cs ho => by
    obtain ⟨a, rfl⟩ := list1 ho.1
    obtain ⟨z, rfl, hz⟩ := ho.2 0 _ a rfl rfl
    obtain ⟨n, rfl, hn⟩ := nat_u32 hz
    exact ⟨n, rfl, hn⟩) h hw
theorem u64_row {fuel : Nat} {c : Value} {x : DataW H × List MemPlace} (h : DataW.trod enc Try.prog w 0 spare held fuel 41 [c] = some x) (hw : Light Try.prog 41 x.1) : ∃ l : List Nat, RowOf u64C 1 w c l ∧ ∀ y ∈ l, U64 y :=
  slice_rows (f := u64C) (G := fun y => U64 y) Try.underlying41 flat_pu64 (by kernel_rfl) (by decide) (fun cs ho => by
    obtain ⟨a, rfl⟩ := list1 ho.1
    obtain ⟨z, rfl, hz⟩ := ho.2 0 _ a rfl rfl
    obtain ⟨n, rfl, hn⟩ := nat_u64 hz
    exact ⟨n, rfl, hn⟩) h hw
theorem pg_open {fuel : Nat} {cs : List Value} {x : DataW H × List MemPlace} (hx : DataW.trod enc Try.prog w 0 spare held fuel 45 cs = some x) (hw : Light Try.prog 45 x.1) : ∃ p v, cs = (pgC p v).toList ∧ PrgAt w v p := by
  have hs := flat_open 20 45 _ flat_pg _ _ _ hx hw
  obtain ⟨c0, c1, c2, c3, c4, c5, c6, c7, c8, c9, rfl⟩ := list10 hs.1
  obtain ⟨a0, rfl, w0⟩ := hs.2 0 _ _ rfl rfl
  obtain ⟨a1, rfl, w1⟩ := hs.2 1 _ _ rfl rfl
  obtain ⟨a2, rfl, w2⟩ := hs.2 2 _ _ rfl rfl
  obtain ⟨a3, rfl, w3⟩ := hs.2 3 _ _ rfl rfl
  obtain ⟨m4, y4, h4, l4⟩ := hs.2 4 _ _ rfl rfl
  obtain ⟨m5, y5, h5, l5⟩ := hs.2 5 _ _ rfl rfl
  obtain ⟨m6, y6, h6, l6⟩ := hs.2 6 _ _ rfl rfl
  obtain ⟨m7, y7, h7, l7⟩ := hs.2 7 _ _ rfl rfl
  obtain ⟨m8, y8, h8, l8⟩ := hs.2 8 _ _ rfl rfl
  obtain ⟨m9, y9, h9, l9⟩ := hs.2 9 _ _ rfl rfl
  obtain ⟨code, r4, _⟩ := slice_rows (f := icL) (G := fun _ => True) Try.underlying38 flat_pins (by kernel_rfl) (by decide) (fun cs ho => by
    obtain ⟨b0, b1, b2, b3, b4, rfl⟩ := list5 ho.1
    obtain ⟨z0, rfl, _⟩ := ho.2 0 _ _ rfl rfl
    obtain ⟨z1, rfl, _⟩ := ho.2 1 _ _ rfl rfl
    obtain ⟨z2, rfl, _⟩ := ho.2 2 _ _ rfl rfl
    obtain ⟨z3, rfl, _⟩ := ho.2 3 _ _ rfl rfl
    obtain ⟨z4, rfl, _⟩ := ho.2 4 _ _ rfl rfl
    exact ⟨fun j => [z0, z1, z2, z3, z4].getD j 0, rfl, trivial⟩) h4 l4
  obtain ⟨ts, r5, g5⟩ := slice_rows (f := tbC) (G := fun t => I64 t.1 ∧ ∃ l, RowOf intC 1 w t.2 l) Try.underlying39 flat_ptab (by kernel_rfl) (by decide) (fun cs ho => by
    obtain ⟨b0, b1, rfl⟩ := list2 ho.1
    obtain ⟨z0, rfl, hz⟩ := ho.2 0 _ _ rfl rfl
    obtain ⟨m, y, hy, ly⟩ := ho.2 1 _ _ rfl rfl
    exact ⟨(z0, b1), rfl, int_i64 hz, ints_row Try.underlying32 hy ly⟩) h5 l5
  obtain ⟨tx, r6, g6⟩ := slice_rows (f := strC) (G := fun l => l.length ≤ 140737488351232) Try.underlying31 flat_pstr (by kernel_rfl) (by decide) (fun cs ho => by
    obtain ⟨b0, rfl⟩ := list1 ho.1
    obtain ⟨z0, rfl, hz⟩ := ho.2 0 _ _ rfl rfl
    exact ⟨z0.data.toList, rfl, by simpa using hz⟩) h6 l6
  obtain ⟨ks, r7, g7⟩ := u32_row h7 l7
  obtain ⟨kk, r8, g8⟩ := u64_row h8 l8
  obtain ⟨kv, r9, g9⟩ := u64_row h9 l9
  obtain ⟨tabs, e1, e2⟩ := choose_tabs ts g5
  have getG : ∀ {G : Nat → Prop} (l : List Nat) (k : Nat), G 0 → (∀ y ∈ l, G y) → G (l.getD k 0) := fun {G} l k h0 h => by
    rw [List.getD_eq_getElem?_getD]
    cases e : l[k]? with
    | none => exact h0
    | some y => exact h y (List.mem_of_getElem? e)
  exact ⟨⟨a0, a1, a2, a3, code, tabs, tx, ⟨ks, kk, kv⟩⟩, ⟨c4, c5, c6, c7, c8, c9⟩, rfl, ⟨⟨int_i64 w0, int_i64 w1, int_i64 w2, int_i64 w3⟩, r4, ⟨ts, r5, e1, e2⟩, r6, ⟨r7, r8, r9, fun k => getG ks k (by decide) g7, fun k => getG kk k (u64_small (by decide)) g8, fun k => getG kv k (u64_small (by decide)) g9⟩, g6⟩⟩
end
end Go.Proofs.Ytkpdcejnanhgoaa
/- Walks: few instructions and numbers; the statement VerifyChecks. Condition: the program lies in memory. -/
namespace Go.Proofs.Ytkpdcejnanhgoaa
open Go.RowKit
end Go.Proofs.Ytkpdcejnanhgoaa
/- Walk: the statement VerifyTables. No conditions. -/
namespace Go.Proofs.Ytkpdcejnanhgoaa
open Go.RowKit
/-- a row that the call has laid, as a slice that is read -/
theorem row_own {α : Type} {f : α → List Value} {sz : Nat} {e : TypeId} {fz : Nat × Nat} {w : World} {b : Nat} {l : List α} (hf : ∀ x, (f x).length = sz) (h : w.heap[b]? = some (.cells (l.flatMap f).toArray e fz)) (hm : l.length ≤ maxLen) : RowOf f sz w (.slice (some ⟨b, 0, none⟩) l.length l.length) l := by
  have hl : (l.flatMap f).length = l.length * sz := by
    clear h hm
    induction l with
    | nil => simp
    | cons a l ih => rw [List.flatMap_cons, List.length_append, hf, ih, List.length_cons, Nat.succ_mul]; omega
  refine ⟨_, _, rfl, Nat.le_refl _, hm, hl, .inr ⟨b, 0, rfl, (Array.getElem?_eq_some_iff.1 h).1, fun i _ => ?_⟩⟩
  rw [Nat.zero_add, cell_of_row w b i _ _ _ h]
  simp
theorem iv {x : Int} {n : Nat} (h : x = n) : Value.int .i64 x = .int .i64 n := by rw [h]
end Go.Proofs.Ytkpdcejnanhgoaa
/- Walk: a pair is put into the queue. Conditions: the queue's variable and its row lie in memory. -/
namespace Go.Proofs.Ytkpdcejnanhgoaa
open Go.RowKit
theorem info_pair : (Try.prog.info? 147).map (fun i => (i.zero, i.size, i.bytes)) = some (some (.agg #[.int .i64 0, .int .i64 0, .int .i64 0, .int .i64 0, .int .i64 0]), 5, 40) := by kernel_rfl
theorem icL_oneP (y : Nat → Int) : ∀ u ∈ icL y, u.oneCell' = true := by intro u hu; simp [icL] at hu; rcases hu with rfl | rfl | rfl | rfl | rfl <;> rfl
theorem q_ne {B gq : Nat} {w : World} {v v' : Value} {l : List (Nat → Int)} (hq : QAt w gq v') (ho : OwnR icL 5 B 147 w v l) : v.ownBlock ≠ some gq := fun e => by
  obtain ⟨cs, fz, h⟩ := ho.typed e
  rw [show w.heap[gq]? = _ from hq] at h
  simp at h
theorem grown_QK {B gq : Nat} {w w' : World} {v : Value} {l : List (Nat → Int)} (ho : OwnR icL 5 B 147 w v l) (hg : w.grownBy w' v.ownBlock) (hB : B ≤ w.heap.size) : QK B gq w w' :=
  ⟨grown_below hg hB fun k hk => (ho.below hk).1, fun k cs t fz hk ht _ => grown_obj hg hk fun e => by
    obtain ⟨cs', fz', h⟩ := ho.typed e
    rw [hk] at h
    simp at h
    exact ht h.2.1⟩
theorem own_cells {B : Nat} {e : TypeId} {w : World} {g n cap : Nat} {l : List (Nat → Int)} (h : OwnR icL 5 B e w (.slice (some ⟨g, 0, none⟩) n cap) l) {i : Nat} (hi : i < l.length) :
    w.cell? ⟨g, i * 5, none⟩ = some (.int .i64 (l.getD i k2 0)) ∧ w.cell? ⟨g, i * 5 + 1, none⟩ = some (.int .i64 (l.getD i k2 1)) ∧ w.cell? ⟨g, i * 5 + 2, none⟩ = some (.int .i64 (l.getD i k2 2)) ∧ w.cell? ⟨g, i * 5 + 3, none⟩ = some (.int .i64 (l.getD i k2 3)) ∧ w.cell? ⟨g, i * 5 + 4, none⟩ = some (.int .i64 (l.getD i k2 4)) := by
  have h1 := own_range h hi
  exact ⟨h1 0 _ rfl, h1 1 _ rfl, h1 2 _ rfl, h1 3 _ rfl, h1 4 _ rfl⟩
theorem getD_mem {α : Type} {l : List α} {d : α} {k : Nat} (h : k < l.length) : l.getD k d ∈ l := by
  rw [List.getD_eq_getElem?_getD, List.getElem?_eq_getElem h]; exact List.getElem_mem h
theorem mem_set2 {α : Type} {L M : List α} {i j : Nat} {a b : α} (h : ∀ y ∈ L, y ∈ M) (ha : a ∈ M) (hb : b ∈ M) : ∀ y ∈ (L.set i a).set j b, y ∈ M := fun y hy => by
  rcases List.mem_or_eq_of_mem_set hy with hy | rfl
  · rcases List.mem_or_eq_of_mem_set hy with hy | rfl
    · exact h y hy
    · exact ha
  · exact hb
set_option maxRecDepth 100000 in
set_option maxHeartbeats 8000000 in
theorem q_put {B gq : Nat} (l : List (Nat → Int)) (x : Nat → Int) (w : World) (v : Value) (hq : QAt w gq v) (ho : OwnR icL 5 B 147 w v l) (hB : B ≤ gq) (hl : l.length ≤ 100000000) :
    Calls Try.prog 79 #[.pointer (some ⟨gq, 0, none⟩), vI x] w fun e w' => e = .returned (.tuple #[]) ∧ (∃ v' l', QAt w' gq v' ∧ OwnR icL 5 B 147 w' v' l' ∧ l'.length = l.length + 1 ∧ ∀ y ∈ l', y ∈ l ++ [x]) ∧ QK B gq w w' := by
  have hBw : B ≤ w.heap.size := by have := hq.lt; omega
  have hab := (Below.refl w.heap.size w).alloc (Nat.le_refl _) (.cells (ic x) 147)
  have hne0 : v.ownBlock ≠ some w.heap.size := fun e => by have := (ho.below e).2; omega
  go_enter Try.func79, Try.ntmps79
  repeat' (go_not_at_region 1; first | go_values | go_skip | go_guarded | go_step | go_upon)
  refine gen_wd (fun W => QAt W gq v ∧ OwnR icL 5 B 147 W v l ∧ PrAt W w.heap.size x ∧ QK B gq w W ∧ B ≤ W.heap.size) ⟨hq.keep hab, OwnR.keep ho hab (Nat.le_refl _), Go.heap_alloc_new _ _, QK.of hab hBw, by rw [World.size_alloc]; omega⟩ ?_
  clear hab hq ho
  rintro wx ⟨hq, ho, hp, hk, hBx⟩
  have HQ := Lib.hid hq
  have HO := Lib.hid ho
  have HP := Lib.hid hp
  have HK := Lib.hid hk
  clear hq ho hp hk
  generalize w.heap.size = gx at HP hne0 ⊢
  obtain ⟨C, hC⟩ : ∃ C : World → Prop, C = fun W => QAt W gq v ∧ PrAt W gx x := ⟨_, rfl⟩
  have Hmk : Hid (∀ W, QAt W gq v → PrAt W gx x → C W) := Lib.hid fun W h1 h2 => by rw [hC]; exact ⟨h1, h2⟩
  have Hop : Hid (∀ W, C W → QAt W gq v ∧ PrAt W gx x) := Lib.hid fun W h => by rw [hC] at h; exact h
  have q0 : ∀ nq : GW C, nq.1.cell? ⟨gq, 0, none⟩ = some v := fun nq => (Hop.out _ nq.2).1.cell
  have q1 : ∀ nq : GW C, PrAt nq.1 gx x := fun nq => (Hop.out _ nq.2).2
  have r0 : ∀ nq : GW C, nq.1.cell? ⟨gx, 0, none⟩ = some (.int .i64 (x 0)) := fun nq => (q1 nq).cell 0
  have r1 : ∀ nq : GW C, nq.1.cell? ⟨gx, 1, none⟩ = some (.int .i64 (x 1)) := fun nq => (q1 nq).cell 1
  have r2 : ∀ nq : GW C, nq.1.cell? ⟨gx, 2, none⟩ = some (.int .i64 (x 2)) := fun nq => (q1 nq).cell 2
  have r3 : ∀ nq : GW C, nq.1.cell? ⟨gx, 3, none⟩ = some (.int .i64 (x 3)) := fun nq => (q1 nq).cell 3
  have r4 : ∀ nq : GW C, nq.1.cell? ⟨gx, 4, none⟩ = some (.int .i64 (x 4)) := fun nq => (q1 nq).cell 4
  clear hC q1
  refine wp_region_anyU (by kernel_rfl) C 10 ?_
  refine tkU 0 rfl ?_
  refine tkU 1 rfl ?_
  refine tkU 2 rfl ?_
  refine tkU 3 rfl ?_
  refine tkU 4 rfl ?_
  refine tkU 5 rfl ?_
  clear q0 r0 r1 r2 r3 r4
  refine wpAnyU_ready (CG.of (Hmk.out _ (HQ.out.keep (Below.refl _ _).drew) (HP.out.keep (Below.refl _ _).drew))) (rs := [6]) (by kernel_rfl) (by simp) ?_
  refine (AllReadyU.cons rfl (fun K hK => ?_) AllReadyU.nil)
  go_simp
  refine hK _ _ ?_
  clear hK K
  have hab : Below wx.heap.size wx ((wx.alloc (.cells (ic x) 147)).drew) := ((Below.refl _ _).alloc (Nat.le_refl _) _).drew
  refine genUv (fun W => QAt W gq v ∧ OwnR icL 5 B 147 W v l ∧ PrAt W gx x ∧ QK B gq w W ∧ B ≤ W.heap.size ∧ v.ownBlock ≠ some gx ∧ W.heap[wx.heap.size]? = some (.cells (([x] : List (Nat → Int)).flatMap icL).toArray 147 (0, 0))) ⟨HQ.out.keep hab, OwnR.keep HO.out hab (Nat.le_refl _), HP.out.keep hab, HK.out.trans (QK.of hab hBx), Nat.le_trans hBx hab.size, hne0, Go.heap_alloc_new wx _⟩ ?_
  clear hab HQ HO HP HK
  rintro wy ⟨hq, ho, hp, hk, hBy, _, hone⟩
  refine wpAnyU_ready (CG.of (Hmk.out _ hq hp)) (rs := [7]) (by kernel_rfl) (by simp) ?_
  refine (AllReadyU.cons rfl (fun K hK => ?_) AllReadyU.nil)
  refine step_of rfl (app_rowW 40 icL_len (fun y _ => icL_oneP y) Try.underlying139 info_pair rfl (.tmp 10) (.tmp 12) rfl rfl (row_own (l := [x]) icL_len hone (by show 1 ≤ maxLen; decide)) ho hBy (by simp; omega) (by unfold maxLen; simp; omega) ?_)
  intro v1 W1 ho1 hg1
  refine hK _ _ ?_
  clear hK K
  have hQ1 : QAt W1 gq v := grown_obj hg1 hq (q_ne hq ho)
  have hP1 : PrAt W1 gx x := grown_obj hg1 hp hne0
  have hK1 : QK B gq w W1 := hk.trans (grown_QK ho hg1 hBy)
  clear hq hp hk ho hone hg1 hBy
  obtain ⟨a1, m1, n1, e1⟩ : ∃ a m c, v1 = .slice a m c := by obtain ⟨a, c, e, _⟩ := ho1.form; exact ⟨a, _, c, e⟩
  subst e1
  have o1 := hQ1.cell
  have f1 := hQ1.free 0
  refine tkP 8 rfl ?_
  refine tkP 9 rfl ?_
  refine wpAnyU_ready (CG.of (Hmk.out _ hQ1 hP1)) (rs := [10]) (by kernel_rfl) (by simp) ?_
  refine (AllReadyU.cons rfl (fun K hK => ?_) AllReadyU.nil)
  go_simp
  refine hK _ _ ?_
  clear hK K
  refine genUv (fun W => QAt W gq (.slice a1 m1 n1) ∧ OwnR icL 5 B 147 W (.slice a1 m1 n1) (l ++ [x]) ∧ QK B gq w W) ⟨hQ1.set _, ho1.setOther fun k hk e => q_ne hQ1 ho1 (by rw [hk, e]), hK1.setq hB _ _⟩ ?_
  clear o1 f1 hQ1 hP1 hK1 ho1 Hmk Hop hne0 hBx
  rintro wz ⟨hq, ho, hk⟩
  refine wpAnyU_done (by kernel_rfl) (by kernel_rfl) (by go_simp <;> with_reducible rfl) ?_
  obtain ⟨L, hL⟩ : ∃ L, L = l ++ [x] := ⟨_, rfl⟩
  have hLl : L.length = l.length + 1 := by rw [hL]; simp
  have HM : Hid (∀ y ∈ L, y ∈ l ++ [x]) := Lib.hid fun y hy => by rw [← hL]; exact hy
  rw [← hL] at ho
  clear hL
  obtain ⟨g1, c1, e1⟩ := ho.somewhere (by omega)
  obtain ⟨n, hn⟩ : ∃ n, n = L.length := ⟨_, rfl⟩
  rw [← hn] at e1
  simp only [Value.slice.injEq] at e1
  obtain ⟨rfl, rfl, rfl⟩ := e1
  have Hn := Lib.hid hn
  have hnn : m1 = l.length + 1 := by rw [hn]; exact hLl
  have Hnl := Lib.hid hnn
  have hn1 : m1 ≤ 100000001 := by omega
  have hn0 : 1 ≤ m1 := by omega
  have HQ := Lib.hid hq
  have HO := Lib.hid ho
  have HK := Lib.hid hk
  clear hq ho hk hn hnn hLl
  have k0 := HQ.out.cell
  repeat' (first | go_values | go_skip | go_guarded | go_step | go_upon)
  go_loopw [4] (fun s4 wr => ∃ (i : Nat) (L : List (Nat → Int)), s4 = .int .i64 i ∧ i < m1 ∧ Hid (m1 = L.length) ∧ Hid (∀ y ∈ L, y ∈ l ++ [x]) ∧ Hid (QAt wr gq (.slice (some ⟨g1, 0, none⟩) m1 n1)) ∧ Hid (OwnR icL 5 B 147 wr (.slice (some ⟨g1, 0, none⟩) m1 n1) L) ∧ Hid (QK B gq w wr)) (fun s4 _ => (intOf s4).toNat)
  case atStart => exact ⟨m1 - 1, L, iv (by omega), by omega, Hn, HM, HQ, HO, HK⟩
  case round =>
    clear HQ HO HK HM Hn k0
    obtain ⟨i, L, rfl, hi, Hn, HM, HQ, HO, HK⟩ := hrel
    by_cases hi0 : i = 0
    · subst hi0
      repeat' (first | go_values | go_skip | go_guarded | go_step | go_upon)
      go_end0
      exact ⟨rfl, ⟨_, L, HQ.out, HO.out, by rw [← Hn.out]; exact Hnl.out, HM.out⟩, HK.out⟩
    · have hi1 : 0 < i := by omega
      obtain ⟨up, hup⟩ : ∃ up, up = (i - 1) / 2 := ⟨_, rfl⟩
      have hup1 : ((i : Int) - 1).tdiv 2 = (up : Int) := by rw [hup, Int.tdiv_eq_ediv_of_nonneg (by omega)]; omega
      have hup2 : up < i := by omega
      have hup3 : up < m1 := by omega
      clear hup
      have hwr := HQ.out.lt
      have u0 := own_cells HO.out (i := i) (by rw [← Hn.out]; exact hi)
      have u1 := own_cells HO.out (i := up) (by rw [← Hn.out]; omega)
      have hmi := HM.out _ (getD_mem (d := k2) (show i < L.length from by rw [← Hn.out]; exact hi))
      have hmu := HM.out _ (getD_mem (d := k2) (show up < L.length from by rw [← Hn.out]; exact hup3))
      have rr0 := own_range HO.out (i := i) (by rw [← Hn.out]; exact hi)
      have rr1 := own_range HO.out (i := up) (by rw [← Hn.out]; omega)
      generalize L.getD i k2 = yi at u0 hmi rr0
      generalize L.getD up k2 = yu at u1 hmu rr1
      have Hmi := Lib.hid hmi
      have Hmu := Lib.hid hmu
      have R0 := Lib.hid rr0
      have R1 := Lib.hid rr1
      clear hmi hmu rr0 rr1
      have hgl := (HO.out.below (g := g1) rfl).2
      have k0 : ∀ nq : WB wr, nq.1.cell? ⟨gq, 0, none⟩ = some (.slice (some ⟨g1, 0, none⟩) m1 n1) := fun nq => (HQ.out.keep nq.2).cell
      have a0 : ∀ nq : WB wr, nq.1.cell? ⟨g1, i * 5, none⟩ = some (.int .i64 (yi 0)) := fun nq => (nq.2.cell hgl).trans u0.1
      have a1 : ∀ nq : WB wr, nq.1.cell? ⟨g1, i * 5 + 1, none⟩ = some (.int .i64 (yi 1)) := fun nq => (nq.2.cell hgl).trans u0.2.1
      have a2 : ∀ nq : WB wr, nq.1.cell? ⟨g1, i * 5 + 2, none⟩ = some (.int .i64 (yi 2)) := fun nq => (nq.2.cell hgl).trans u0.2.2.1
      have a3 : ∀ nq : WB wr, nq.1.cell? ⟨g1, i * 5 + 3, none⟩ = some (.int .i64 (yi 3)) := fun nq => (nq.2.cell hgl).trans u0.2.2.2.1
      have a4 : ∀ nq : WB wr, nq.1.cell? ⟨g1, i * 5 + 4, none⟩ = some (.int .i64 (yi 4)) := fun nq => (nq.2.cell hgl).trans u0.2.2.2.2
      have b0 : ∀ nq : WB wr, nq.1.cell? ⟨g1, up * 5, none⟩ = some (.int .i64 (yu 0)) := fun nq => (nq.2.cell hgl).trans u1.1
      have b1 : ∀ nq : WB wr, nq.1.cell? ⟨g1, up * 5 + 1, none⟩ = some (.int .i64 (yu 1)) := fun nq => (nq.2.cell hgl).trans u1.2.1
      have b2 : ∀ nq : WB wr, nq.1.cell? ⟨g1, up * 5 + 2, none⟩ = some (.int .i64 (yu 2)) := fun nq => (nq.2.cell hgl).trans u1.2.2.1
      have b3 : ∀ nq : WB wr, nq.1.cell? ⟨g1, up * 5 + 3, none⟩ = some (.int .i64 (yu 3)) := fun nq => (nq.2.cell hgl).trans u1.2.2.2.1
      have b4 : ∀ nq : WB wr, nq.1.cell? ⟨g1, up * 5 + 4, none⟩ = some (.int .i64 (yu 4)) := fun nq => (nq.2.cell hgl).trans u1.2.2.2.2
      clear u0 u1 hgl
      repeat' (go_not_at_region 5; first | go_values | go_skip | go_guarded | go_step | go_upon)
      refine wp_region_anyC (by kernel_rfl) wr ?_
      refine tkC 0 rfl ?_
      refine tkC 1 rfl ?_
      refine tkC 2 rfl ?_
      refine tkC 3 rfl ?_
      refine tkC 4 rfl ?_
      refine tkC 5 rfl ?_
      refine tkC 6 rfl ?_
      refine tkC 7 rfl ?_
      refine tkC 8 rfl ?_
      refine tkC 9 rfl ?_
      refine tkC 10 rfl ?_
      refine tkC 11 rfl ?_
      refine tkC 12 rfl ?_
      refine tkC 13 rfl ?_
      clear k0 a0 a1 a2 a3 a4 b0 b1 b2 b3 b4
      refine wpAnyC_ready (CW.of ((Below.refl _ _).drew)) (rs := [14]) (by kernel_rfl) (by simp) ?_
      refine (AllReadyC.cons rfl (fun K hK => ?_) AllReadyC.nil)
      go_simp
      refine Calls.mono (vm_less _ _ _) ?_
      rintro _ w2 ⟨⟨c, rfl⟩, hb2⟩
      dsimp only
      refine hK _ _ ?_
      clear hK K
      have B2 : Below wr.heap.size wr w2 := (Below.refl _ _).drew.trans hb2
      refine tkC 15 rfl ?_
      refine wpAnyC_done (by kernel_rfl) (CW.of (B2)) (by go_simp <;> with_reducible rfl) ?_
      have HQ2 := Lib.hid (HQ.out.keep B2)
      have HO2 := Lib.hid (OwnR.keep HO.out B2 (Nat.le_refl _))
      have HK2 := Lib.hid (HK.out.trans (QK.of B2 (Nat.le_trans hB (Nat.le_of_lt hwr))))
      have hgl := (HO.out.below (g := g1) rfl).2
      have R2 : Hid (w2.rangeAt g1 (i * 5) (icL yi)) := Lib.hid fun j u hj => (B2.cell hgl).trans (R0.out j u hj)
      have R3 : Hid (w2.rangeAt g1 (up * 5) (icL yu)) := Lib.hid fun j u hj => (B2.cell hgl).trans (R1.out j u hj)
      clear hb2 B2 HQ HO HK R0 R1 hgl hwr
      cases c with
      | false =>
        repeat' (first | go_values | go_skip | go_guarded | go_step | go_upon)
        go_end0
        exact ⟨rfl, ⟨_, L, HQ2.out, HO2.out, by rw [← Hn.out]; exact Hnl.out, HM.out⟩, HK2.out⟩
      | true =>
        repeat' (go_not_at_region 6; first | go_values | go_skip | go_guarded | go_step | go_upon)
        obtain ⟨C, hC⟩ : ∃ C : World → Prop, C = fun W => QAt W gq (.slice (some ⟨g1, 0, none⟩) m1 n1) ∧ W.rangeAt g1 (i * 5) (icL yi) ∧ W.rangeAt g1 (up * 5) (icL yu) := ⟨_, rfl⟩
        have Hmk : Hid (∀ W, QAt W gq (.slice (some ⟨g1, 0, none⟩) m1 n1) → W.rangeAt g1 (i * 5) (icL yi) → W.rangeAt g1 (up * 5) (icL yu) → C W) := Lib.hid fun W h1 h2 h3 => by rw [hC]; exact ⟨h1, h2, h3⟩
        have Hop : Hid (∀ W, C W → QAt W gq (.slice (some ⟨g1, 0, none⟩) m1 n1) ∧ W.rangeAt g1 (i * 5) (icL yi) ∧ W.rangeAt g1 (up * 5) (icL yu)) := Lib.hid fun W h => by rw [hC] at h; exact h
        clear hC
        have k0 : ∀ nq : GW C, nq.1.cell? ⟨gq, 0, none⟩ = some (.slice (some ⟨g1, 0, none⟩) m1 n1) := fun nq => (Hop.out _ nq.2).1.cell
        have a0 : ∀ nq : GW C, nq.1.cell? ⟨g1, i * 5, none⟩ = some (.int .i64 (yi 0)) := fun nq => (Hop.out _ nq.2).2.1 0 _ rfl
        have a1 : ∀ nq : GW C, nq.1.cell? ⟨g1, i * 5 + 1, none⟩ = some (.int .i64 (yi 1)) := fun nq => (Hop.out _ nq.2).2.1 1 _ rfl
        have a2 : ∀ nq : GW C, nq.1.cell? ⟨g1, i * 5 + 2, none⟩ = some (.int .i64 (yi 2)) := fun nq => (Hop.out _ nq.2).2.1 2 _ rfl
        have a3 : ∀ nq : GW C, nq.1.cell? ⟨g1, i * 5 + 3, none⟩ = some (.int .i64 (yi 3)) := fun nq => (Hop.out _ nq.2).2.1 3 _ rfl
        have a4 : ∀ nq : GW C, nq.1.cell? ⟨g1, i * 5 + 4, none⟩ = some (.int .i64 (yi 4)) := fun nq => (Hop.out _ nq.2).2.1 4 _ rfl
        have b0 : ∀ nq : GW C, nq.1.cell? ⟨g1, up * 5, none⟩ = some (.int .i64 (yu 0)) := fun nq => (Hop.out _ nq.2).2.2 0 _ rfl
        have b1 : ∀ nq : GW C, nq.1.cell? ⟨g1, up * 5 + 1, none⟩ = some (.int .i64 (yu 1)) := fun nq => (Hop.out _ nq.2).2.2 1 _ rfl
        have b2 : ∀ nq : GW C, nq.1.cell? ⟨g1, up * 5 + 2, none⟩ = some (.int .i64 (yu 2)) := fun nq => (Hop.out _ nq.2).2.2 2 _ rfl
        have b3 : ∀ nq : GW C, nq.1.cell? ⟨g1, up * 5 + 3, none⟩ = some (.int .i64 (yu 3)) := fun nq => (Hop.out _ nq.2).2.2 3 _ rfl
        have b4 : ∀ nq : GW C, nq.1.cell? ⟨g1, up * 5 + 4, none⟩ = some (.int .i64 (yu 4)) := fun nq => (Hop.out _ nq.2).2.2 4 _ rfl
        refine wp_region_anyU (by kernel_rfl) C 25 ?_
        refine tkU 0 rfl ?_
        refine tkU 1 rfl ?_
        refine tkU 2 rfl ?_
        refine tkU 3 rfl ?_
        refine tkU 4 rfl ?_
        refine tkP 5 rfl ?_
        refine tkP 6 rfl ?_
        refine tkP 7 rfl ?_
        refine tkU 8 rfl ?_
        refine tkP 9 rfl ?_
        refine tkU 10 rfl ?_
        refine tkU 11 rfl ?_
        refine tkU 12 rfl ?_
        refine tkU 13 rfl ?_
        refine tkU 14 rfl ?_
        refine tkU 15 rfl ?_
        refine tkU 16 rfl ?_
        refine tkP 17 rfl ?_
        refine tkP 18 rfl ?_
        refine tkP 19 rfl ?_
        refine tkU 20 rfl ?_
        refine tkP 21 rfl ?_
        refine tkP 22 rfl ?_
        refine tkU 23 rfl ?_
        refine tkP 24 rfl ?_
        clear k0 a0 a1 a2 a3 a4 b0 b1 b2 b3 b4
        refine genUv (fun W => QAt W gq (.slice (some ⟨g1, 0, none⟩) m1 n1) ∧ OwnR icL 5 B 147 W (.slice (some ⟨g1, 0, none⟩) m1 n1) L ∧ QK B gq w W ∧ W.rangeAt g1 (i * 5) (icL yi) ∧ W.rangeAt g1 (up * 5) (icL yu)) ⟨HQ2.out.keep (Below.refl _ _).drew, OwnR.keep HO2.out (Below.refl _ _).drew (Nat.le_refl _), HK2.out.trans ⟨(Below.refl _ _).drew, fun _ _ _ _ h _ _ => h⟩, R2.out, R3.out⟩ ?_
        clear HQ2 HO2 HK2 R2 R3
        rintro wc ⟨hq, ho, hk, hr2, hr3⟩
        refine wpAnyU_ready (CG.of (Hmk.out _ hq hr2 hr3)) (rs := [25]) (by kernel_rfl) (by simp) ?_
        refine (AllReadyU.cons rfl (fun K hK => ?_) AllReadyU.nil)
        refine step_of rfl (wp_store_mid 147 _ _ rfl g1 (i * 5) (icL yu).toArray rfl rfl (own_there ho Hn.out (by rw [← Hn.out]; exact hi)) (by kernel_rfl) (by simp [icL, Value.oneCell']) ?_)
        refine hK _ _ ?_
        clear hK K
        have ho1 := own_set5 ho Hn.out yu (i := i) (by rw [← Hn.out]; exact hi)
        have hq1 := hq.set5 ho (i * 5) (icL yu)
        have hk1 := hk.set5 ho (i * 5) (icL yu)
        clear ho hq hk hr2 hr3
        have hn1' : Hid (m1 = (L.set i yu).length) := Lib.hid (by rw [List.length_set]; exact Hn.out)
        refine tkP 26 rfl ?_
        refine wpAnyU_readyV (by kernel_rfl) (rs := [27]) (by kernel_rfl) (by simp) ?_
        refine (AllReadyU.cons rfl (fun K hK => ?_) AllReadyU.nil)
        refine step_of rfl (wp_store_mid 147 _ _ rfl g1 (up * 5) (icL yi).toArray rfl rfl (own_there ho1 hn1'.out (by rw [← hn1'.out]; exact hup3)) (by kernel_rfl) (by simp [icL, Value.oneCell']) ?_)
        refine hK _ _ ?_
        clear hK K
        have ho2 := own_set5 ho1 hn1'.out yi (i := up) (by rw [← hn1'.out]; exact hup3)
        have hq2 := hq1.set5 ho1 (up * 5) (icL yi)
        have hk2 := hk1.set5 ho1 (up * 5) (icL yi)
        have Ho2 := Lib.hid ho2
        have Hq2 := Lib.hid hq2
        have Hk2 := Lib.hid hk2
        have Hn2 : Hid (m1 = ((L.set i yu).set up yi).length) := Lib.hid (by rw [List.length_set]; exact hn1'.out)
        clear ho1 hq1 hk1 ho2 hq2 hk2 hn1'
        refine wpAnyU_done (by kernel_rfl) (by kernel_rfl) (by go_simp <;> with_reducible rfl) ?_
        repeat' (first | go_values | go_skip | go_guarded | go_step | go_upon)
        go_roundw
        case rel => exact ⟨up, (L.set i yu).set up yi, rfl, hup3, Hn2, Lib.hid (mem_set2 HM.out Hmu.out Hmi.out), Hq2, Ho2, Hk2⟩
        case measure => simp [intOf]; omega
end Go.Proofs.Ytkpdcejnanhgoaa
/- Walk: two signs beside one another are looked up and put into the queue (the closure of vm.Merge). Conditions: the list, the hash and the queue lie in memory. -/
namespace Go.Proofs.Ytkpdcejnanhgoaa
open Go.RowKit
def ndL (id nx ls : Nat → Int) (i : Nat) : List Value := [.int .i64 (id i), .int .i64 (nx i), .int .i64 (ls i)]
def ndC (n : Nat) (id nx ls : Nat → Int) : Array Value := ((List.range n).flatMap (ndL id nx ls)).toArray
/-- the list's places, and what else Merge holds -/
structure MK (B gl gh gq gn n : Nat) (vs vk vv : Value) (id nx ls : Nat → Int) (w : World) : Prop where
  l : w.heap[gl]? = some (.cells #[.slice (some ⟨gn, 0, none⟩) n n] 136 (0, 0))
  nd : w.heap[gn]? = some (.cells (ndC n id nx ls) 138 (0, 0))
  h : HBox w gh vs vk vv
  bl : B ≤ gl
  bn : B ≤ gn
  bh : B ≤ gh
  bq : B ≤ gq
theorem MK.keep {B gl gh gq gn n : Nat} {vs vk vv : Value} {id nx ls : Nat → Int} {w w' : World} (h : MK B gl gh gq gn n vs vk vv id nx ls w) (hb : Below w.heap.size w w') : MK B gl gh gq gn n vs vk vv id nx ls w' :=
  ⟨(by rw [hb.block _ (Array.getElem?_eq_some_iff.1 h.l).1]; exact h.l), (by rw [hb.block _ (Array.getElem?_eq_some_iff.1 h.nd).1]; exact h.nd), h.h.keep hb, h.bl, h.bn, h.bh, h.bq⟩
theorem MK.turn {B gl gh gq gn n : Nat} {vs vk vv : Value} {id nx ls : Nat → Int} {w w' : World} {v : Value} (h : MK B gl gh gq gn n vs vk vv id nx ls w) (hk : QK B gq w w') (hq : QAt w gq v) : MK B gl gh gq gn n vs vk vv id nx ls w' := by
  have t : ∀ {g : Nat} {cs : Array Value} {ty : TypeId}, w.heap[g]? = some (.cells cs ty (0, 0)) → ty ≠ 141 → g ≠ gq := fun h1 h2 e => by
    subst e
    rw [show w.heap[_]? = _ from hq] at h1
    simp at h1
    exact h2 h1.2.symm
  exact ⟨hk.keep _ _ _ _ h.l (by decide) (t h.l (by decide)), hk.keep _ _ _ _ h.nd (by decide) (t h.nd (by decide)), hk.keep _ _ _ _ h.h (by decide) (t h.h (by decide)), h.bl, h.bn, h.bh, h.bq⟩
theorem ndC_at (n : Nat) (id nx ls : Nat → Int) {i j : Nat} (hi : i < n) (hj : j < 3) : (ndC n id nx ls)[i * 3 + j]? = (ndL id nx ls i)[j]? := by
  unfold ndC
  have hf : ∀ x, (ndL id nx ls x).length = 3 := fun _ => rfl
  have hx : (List.range n)[i]? = some i := by rw [List.getElem?_range hi]
  have := flatMap_at hf (List.range n) i i j hx hj
  simpa using this
theorem MK.cells {B gl gh gq gn n : Nat} {vs vk vv : Value} {id nx ls : Nat → Int} {w : World} (h : MK B gl gh gq gn n vs vk vv id nx ls w) {i : Nat} (hi : i < n) :
    w.cell? ⟨gn, i * 3, none⟩ = some (.int .i64 (id i)) ∧ w.cell? ⟨gn, i * 3 + 1, none⟩ = some (.int .i64 (nx i)) ∧ w.cell? ⟨gn, i * 3 + 2, none⟩ = some (.int .i64 (ls i)) := by
  have e := fun j => cell_of_row w gn (i * 3 + j) _ _ _ h.nd
  exact ⟨by rw [show i * 3 = i * 3 + 0 from rfl, e 0, ndC_at n id nx ls hi (by decide)]; rfl, by rw [e 1, ndC_at n id nx ls hi (by decide)]; rfl, by rw [e 2, ndC_at n id nx ls hi (by decide)]; rfl⟩
/-- a pair that may be merged -/
def PG (n : Nat) (H : HashP) (y : Nat → Int) : Prop := 0 ≤ y 1 ∧ y 1 < n ∧ 0 ≤ y 2 ∧ 0 ≤ y 3 ∧ 0 ≤ y 4 ∧ ∃ v ∈ H.vals, y 4 = ((v % 4294967296 : Nat) : Int)
theorem and_mask (v : Nat) (hv : v < 18446744073709551616) : bits .and .u64 (v : Int) 4294967295 = ((v % 4294967296 : Nat) : Int) := by
  have h := u64_and_nat v 4294967295 hv (by decide)
  rw [show ((4294967295 : Nat) : Int) = 4294967295 from rfl] at h
  rw [h]
  congr 1
  exact Nat.and_two_pow_sub_one_eq_mod v 32
theorem key_ofL (a b : Int) : ∃ key : Nat, bits .or .u64 a b = (key : Int) ∧ U64 key := by
  have h := bits_within .or .u64 a b
  simp only [IntKind.min, IntKind.max, IntKind.signed, IntKind.bits] at h
  refine ⟨(bits .or .u64 a b).toNat, ?_, ?_⟩
  · have := h.1; simp at this; omega
  · have := h.2; simp at this; unfold U64; omega
theorem genCk {P : Program} {md : Region.Mode} {ops : Array Oper} {C : World → Prop} {Q : Exit → Act → World → Prop} {fuel : Nat} {listed : Array Bool} {a : Act} {w : World} (F : World → Prop) (hF : F w) (h : ∀ w', F w' → wpAnyC P md ops C Q fuel listed a w') : wpAnyC P md ops C Q fuel listed a w := h w hF
set_option maxRecDepth 100000 in
set_option maxHeartbeats 8000000 in
theorem vm_look {B gl gh gq gn n : Nat} {vs vk vv : Value} {H : HashP} {id nx ls : Nat → Int} {sg : Int} {w0 : World} (i : Int) (w : World) (v : Value) (l : List (Nat → Int)) (hM : MK B gl gh gq gn n vs vk vv id nx ls w)
    (hq : QAt w gq v) (ho : OwnR icL 5 B 147 w v l) (hl : l.length ≤ 100000000) (hsg : sg ≤ 65536) (hN : NI n sg id nx ls) (hi : i = -1 ∨ ∃ k : Nat, i = k ∧ k < n ∧ 0 ≤ id k)
    (hH : HashAt w0 vs vk vv H) (hHw : Below w0.heap.size w0 w) (hH4 : H.keys.length ≤ 35184372088832) :
    Calls Try.prog 77 #[.int .i64 i, .pointer (some ⟨gl, 0, none⟩), .pointer (some ⟨gh, 0, none⟩), .pointer (some ⟨gq, 0, none⟩)] w fun e w' => e = .returned (.tuple #[]) ∧ (∃ v' l', QAt w' gq v' ∧ OwnR icL 5 B 147 w' v' l' ∧ l'.length ≤ l.length + 1 ∧ ∀ y ∈ l', y ∈ l ∨ PG n H y) ∧ QK B gq w w' := by
  rcases hi with rfl | ⟨k, rfl, hkn, hkv⟩
  · go_enter Try.func77, Try.ntmps77
    repeat' (first | go_values | go_skip | go_guarded | go_step | go_upon)
    refine bodyPost_ret (results_none rfl _ _ _) rfl ?_
    exact ⟨rfl, ⟨v, l, hq, ho, by omega, fun y hy => .inl hy⟩, QK.refl _ _ _⟩
  obtain ⟨c0, c1, c2⟩ := hM.cells hkn
  have k0 : w.cell? ⟨gl, 0, none⟩ = some (.slice (some ⟨gn, 0, none⟩) n n) := by rw [cell_of_row w gl 0 _ _ _ hM.l]; rfl
  have hk0 : (0 : Int) ≤ k := by omega
  rcases hN.nxt k hkn hkv with h1 | ⟨j, h1, h2, h3, h4, h5⟩
  · have HQ := Lib.hid hq
    have HO := Lib.hid ho
    rw [h1] at c1
    clear hq ho hM h1 hN hH hHw hkv
    go_enter Try.func77, Try.ntmps77
    repeat' (first | go_values | go_skip | go_guarded | go_step | go_upon)
    refine bodyPost_ret (results_none rfl _ _ _) rfl ?_
    exact ⟨rfl, ⟨v, l, HQ.out, HO.out, by omega, fun y hy => .inl hy⟩, QK.refl _ _ _⟩
  obtain ⟨d0, d1, d2⟩ := hM.cells h3
  have hx1 := hN.ids k hkn
  have hx2 := hN.ids j h3
  rw [h1] at c1
  clear h1 h5 d1 d2 c2
  generalize id k = a at c0 hkv hx1
  generalize id j = b at d0 h4 hx2
  have hj0 : (0 : Int) ≤ j := by omega
  have Hql := Lib.hid (Nat.le_trans hM.bq (Nat.le_of_lt hq.lt))
  have HQ := Lib.hid hq
  have HO := Lib.hid ho
  have HM := Lib.hid hM
  have HH := Lib.hid hH
  have HHw := Lib.hid hHw
  clear hq ho hM hN hH hHw
  have hgl := (Array.getElem?_eq_some_iff.1 HM.out.l).1
  have hgn := (Array.getElem?_eq_some_iff.1 HM.out.nd).1
  have q0 : ∀ nq : WB w, nq.1.cell? ⟨gl, 0, none⟩ = some (.slice (some ⟨gn, 0, none⟩) n n) := fun nq => (nq.2.cell hgl).trans k0
  have q1 : ∀ nq : WB w, nq.1.cell? ⟨gn, k * 3, none⟩ = some (.int .i64 a) := fun nq => (nq.2.cell hgn).trans c0
  have q2 : ∀ nq : WB w, nq.1.cell? ⟨gn, k * 3 + 1, none⟩ = some (.int .i64 j) := fun nq => (nq.2.cell hgn).trans c1
  have q3 : ∀ nq : WB w, nq.1.cell? ⟨gn, j * 3, none⟩ = some (.int .i64 b) := fun nq => (nq.2.cell hgn).trans d0
  clear hgl hgn
  go_enter Try.func77, Try.ntmps77
  repeat' (go_not_at_region 1; first | go_values | go_skip | go_guarded | go_step | go_upon)
  clear k0 c0 c1 d0
  refine wp_region_anyC (by kernel_rfl) w ?_
  refine tkC 0 rfl ?_
  refine tkC 1 rfl ?_
  refine tkC 2 rfl ?_
  refine tkC 3 rfl ?_
  refine tkC 4 rfl ?_
  refine tkC 5 rfl ?_
  refine tkC 6 rfl ?_
  refine tkC 7 rfl ?_
  refine tkC 8 rfl ?_
  refine tkC 9 rfl ?_
  refine tkC 10 rfl ?_
  refine tkC 11 rfl ?_
  refine tkC 12 rfl ?_
  refine tkC 13 rfl ?_
  refine tkC 14 rfl ?_
  refine tkC 15 rfl ?_
  refine genCk (fun W => Below w.heap.size w W) (Below.refl _ _).drew ?_
  intro wx hbx
  refine wpAnyC_done (by kernel_rfl) (CW.of (hbx)) (by go_simp <;> with_reducible rfl) ?_
  have HQ1 := Lib.hid (HQ.out.keep hbx)
  have HO1 := Lib.hid (OwnR.keep HO.out hbx (Nat.le_refl _))
  have HM1 := Lib.hid (HM.out.keep hbx)
  have HB1 := Lib.hid (hbx)
  have HW1 := Lib.hid (HHw.out.trans (hbx.mono HHw.out.size))
  clear q0 q1 q2 q3 hbx HQ HO HM HHw
  have e0 := HM1.out.h.c0
  have e1 := HM1.out.h.c1
  have e2 := HM1.out.h.c2
  obtain ⟨key, hkey, hku⟩ := key_ofL (a * 4294967296) b
  have HG := Lib.hid (hash_Get vs vk vv H key hku wx (HH.out.keep HW1.out) hH4)
  repeat' (first | go_values | go_skip | go_guarded | go_step | go_upon)
  refine Calls.mono HG.out ?_
  rintro _ w2 ⟨⟨x, c, rfl, hxv, hxu⟩, hb2⟩
  dsimp only
  have HQ2 := Lib.hid (HQ1.out.keep hb2)
  have HO2 := Lib.hid (OwnR.keep HO1.out hb2 (Nat.le_refl _))
  have HB2 := Lib.hid (HB1.out.trans (hb2.mono HB1.out.size))
  have hBq := HM1.out.bq
  have hBw : B ≤ w.heap.size := by have := Hql.out; omega
  clear hb2 HQ1 HO1 HB1 HG HM1 HW1 hkey e0 e1 e2
  cases c with
  | false =>
    repeat' (first | go_values | go_skip | go_guarded | go_step | go_upon)
    go_end0
    exact ⟨rfl, ⟨v, l, HQ2.out, HO2.out, by omega, fun y hy => .inl hy⟩, QK.of HB2.out hBw⟩
  | true =>
    have hxm := hxv rfl
    unfold U64 at hxu
    have hand := and_mask x hxu
    obtain ⟨pid, hpid⟩ : ∃ q : Nat, q = x % 4294967296 := ⟨_, rfl⟩
    rw [← hpid] at hand
    have hpl : pid < 4294967296 := by omega
    have Hpid := Lib.hid hpid
    have Hxm := Lib.hid hxm
    obtain ⟨r, hr⟩ : ∃ q : Nat, q = x / 4294967296 := ⟨_, rfl⟩
    have hr1 : (x : Int) / 4294967296 = (r : Int) := by omega
    have hrl : r < 4294967296 := by omega
    clear hxv hxm hpid hr
    repeat' (first | go_values | go_skip | go_guarded | go_step | go_upon)
    refine Calls.mono (q_put l (fun q => [(r : Int), (k : Int), a, b, (pid : Int)].getD q 0) w2 v HQ2.out HO2.out hBq hl) ?_
    rintro _ w3 ⟨rfl, ⟨v', l', h1, h2, h3, h4⟩, h5⟩
    dsimp only
    have R1 := Lib.hid h1
    have R2 := Lib.hid h2
    have R3 := Lib.hid h3
    have R4 := Lib.hid h4
    have R5 := Lib.hid h5
    clear h1 h2 h3 h4 h5
    repeat' (first | go_values | go_skip | go_guarded | go_step | go_upon)
    go_end0
    refine ⟨rfl, ⟨v', l', R1.out, R2.out, by rw [R3.out]; exact Nat.le_refl _, fun y hy => ?_⟩, (QK.of HB2.out hBw).trans R5.out⟩
    rcases List.mem_append.1 (R4.out y hy) with h | h
    · exact .inl h
    · simp at h
      subst h
      exact .inr ⟨hk0, by show (k : Int) < n; omega, by show 0 ≤ a; omega, by show 0 ≤ b; omega, by show (0 : Int) ≤ pid; omega, x, Hxm.out, by show (pid : Int) = _; rw [Hpid.out]⟩
end Go.Proofs.Ytkpdcejnanhgoaa
/- Walk: the least pair is taken from the queue. Conditions: the queue's variable and its row lie in memory, the row is not empty. -/
namespace Go.Proofs.Ytkpdcejnanhgoaa
open Go.RowKit
theorem PrAt.new (w : World) (v : Nat → Int) : PrAt (w.alloc (.cells (ic v) 147)) w.heap.size v := Go.heap_alloc_new _ _
theorem PrAt.set5 {w : World} {g g1 o : Nat} {v : Nat → Int} {vs : List Value} (h : PrAt w g v) (hne : g ≠ g1) : PrAt (w.setCells g1 o vs) g v := by
  unfold PrAt; rw [setCells_other _ _ _ _ _ hne]; exact h
theorem PrAt.setq {w : World} {g gq o : Nat} {v : Nat → Int} {u : Value} (h : PrAt w g v) (hne : g ≠ gq) : PrAt (w.setCell ⟨gq, o, none⟩ u) g v := by
  unfold PrAt; rw [heap_setCell_other _ _ _ _ (by dsimp only; omega)]; exact h
/-- a row cut by its last element -/
theorem own_cut {B : Nat} {e : TypeId} {w : World} {g n cap k : Nat} {l : List (Nat → Int)} (h : OwnR icL 5 B e w (.slice (some ⟨g, 0, none⟩) n cap) l) (hk : k ≤ l.length) : OwnR icL 5 B e w (.slice (some ⟨g, 0, none⟩) k cap) (l.take k) := by
  unfold OwnR at h ⊢
  have hl : (l.take k).length = k := by rw [List.length_take]; omega
  rw [hl]
  obtain ⟨h1, h2⟩ := h
  refine ⟨by rw [flatMap_lenA icL_len, hl], .inr ?_⟩
  rcases h2 with ⟨h0, _⟩ | ⟨g', cap', cur, fz, h0, hB, hg, hf, hnc, hcm, hcs, ht⟩
  · simp at h0
  · simp only [Value.slice.injEq, Option.some.injEq, Addr.mk.injEq, and_true] at h0
    obtain ⟨rfl, _, rfl⟩ := h0
    refine ⟨_, _, cur, fz, rfl, hB, hg, hf, by omega, hcm, hcs, ?_⟩
    have e1 : (l.take k).flatMap icL = (l.flatMap icL).take (k * 5) := by
      have e2 : l.flatMap icL = (l.take k).flatMap icL ++ (l.drop k).flatMap icL := by rw [← List.flatMap_append, List.take_append_drop]
      rw [e2]
      exact (List.take_left' (by rw [flatMap_lenA icL_len, hl])).symm
    rw [e1, ← ht, List.take_take, Nat.min_eq_left (Nat.mul_le_mul_right _ hk)]
theorem take_mem {α : Type} {L M : List α} {k : Nat} (h : ∀ y ∈ L, y ∈ M) : ∀ y ∈ L.take k, y ∈ M := fun y hy => h y (List.mem_of_mem_take hy)
theorem set_mem {α : Type} {L M : List α} {i : Nat} {a : α} (h : ∀ y ∈ L, y ∈ M) (ha : a ∈ M) : ∀ y ∈ L.set i a, y ∈ M := fun y hy => by
  rcases List.mem_or_eq_of_mem_set hy with hy | rfl
  · exact h y hy
  · exact ha
/-- what stands while the queue is mended -/
structure TK (B gq g1 n1 gx g2 : Nat) (w0 : World) (l : List (Nat → Int)) (y : Nat → Int) (n : Nat) (L : List (Nat → Int)) (w : World) : Prop where
  q : QAt w gq (.slice (some ⟨g1, 0, none⟩) n n1)
  o : OwnR icL 5 B 147 w (.slice (some ⟨g1, 0, none⟩) n n1) L
  k : QK B gq w0 w
  x : PrAt w gx y
  r : PrAt w g2 (fun _ => 0)
  n : n = L.length
  m : ∀ z ∈ L, z ∈ l
  b : B ≤ gq
  nx : gx ≠ g1
  nr : g2 ≠ g1
theorem TK.keep {B gq g1 n1 gx g2 : Nat} {w0 w w' : World} {l : List (Nat → Int)} {y : Nat → Int} {n : Nat} {L : List (Nat → Int)} (h : TK B gq g1 n1 gx g2 w0 l y n L w) (hb : Below w.heap.size w w') : TK B gq g1 n1 gx g2 w0 l y n L w' :=
  ⟨h.q.keep hb, OwnR.keep h.o hb (Nat.le_refl _), h.k.trans (QK.of hb (Nat.le_trans h.b (Nat.le_of_lt h.q.lt))), h.x.keep hb, h.r.keep hb, h.n, h.m, h.b, h.nx, h.nr⟩
theorem TK.set {B gq g1 n1 gx g2 : Nat} {w0 w : World} {l : List (Nat → Int)} {y : Nat → Int} {n : Nat} {L : List (Nat → Int)} (h : TK B gq g1 n1 gx g2 w0 l y n L w) {i : Nat} (hi : i < n) {z : Nat → Int} (hz : z ∈ l) : TK B gq g1 n1 gx g2 w0 l y n (L.set i z) (w.setCells g1 (i * 5) (icL z)) :=
  ⟨h.q.set5 h.o _ _, own_set5 h.o h.n z (by rw [← h.n]; exact hi), h.k.set5 h.o _ _, h.x.set5 h.nx, h.r.set5 h.nr, by rw [List.length_set]; exact h.n, set_mem h.m hz, h.b, h.nx, h.nr⟩
theorem TK.cut {B gq g1 n1 gx g2 : Nat} {w0 w : World} {l : List (Nat → Int)} {y : Nat → Int} {n : Nat} {L : List (Nat → Int)} (h : TK B gq g1 n1 gx g2 w0 l y n L w) {k : Nat} (hk : k ≤ n) (h1 : gx ≠ gq) (h2 : g2 ≠ gq) : TK B gq g1 n1 gx g2 w0 l y k (L.take k) (w.setCell ⟨gq, 0, none⟩ (.slice (some ⟨g1, 0, none⟩) k n1)) :=
  ⟨h.q.set _, OwnR.setOther (own_cut h.o (by rw [← h.n]; exact hk)) fun k' hk' e => q_ne h.q h.o (by rw [e] at hk'; exact hk'), h.k.setq h.b _ _, h.x.setq h1, h.r.setq h2, by rw [List.length_take]; have := h.n; omega, take_mem h.m, h.b, h.nx, h.nr⟩
theorem TK.range {B gq g1 n1 gx g2 : Nat} {w0 w : World} {l : List (Nat → Int)} {y : Nat → Int} {n : Nat} {L : List (Nat → Int)} (h : TK B gq g1 n1 gx g2 w0 l y n L w) {i : Nat} (hi : i < n) : ∃ z, z ∈ l ∧ w.rangeAt g1 (i * 5) (icL z) :=
  ⟨L.getD i k2, h.m _ (getD_mem (by rw [← h.n]; exact hi)), own_range h.o (by rw [← h.n]; exact hi)⟩
theorem info_prs : (Try.prog.info? 147).map (fun i => i.size) = some 5 := by kernel_rfl
theorem load_pr {o : Oper} {a : Act} {w : World} {K : Act → World → Prop} {Q : Exit → Act → World → Prop} {g : Nat} {v : Nat → Int} (hs : PrAt w g v) (x : Operand) (ho : o.op = .load 147 x)
    (hx : a.eval x = .pointer (some ⟨g, 0, none⟩)) (h : K (a.put o.dst (vI v)) w) : o.wp Try.prog a w K Q :=
  wp_load_row _ x ho g hx 147 (ic v) (0, 0) _ hs Try.underlying147 rfl info_prs h
theorem store_pr {o : Oper} {a : Act} {w : World} {K : Act → World → Prop} {Q : Exit → Act → World → Prop} {g : Nat} {v : Nat → Int} (hs : PrAt w g v) (u : Nat → Int) (x y : Operand) (ho : o.op = .store 147 x y)
    (hx : a.eval x = .pointer (some ⟨g, 0, none⟩)) (hy : a.eval y = vI u) (h : K (a.put o.dst undef) (w.setRow g (ic u))) : o.wp Try.prog a w K Q :=
  wp_store_row _ x y ho g (ic u) hx hy 147 (ic v) hs info_prs rfl (ins_one u) h
theorem results_pr {fn : Func} {p' : Tmp} (h : fn.results = #[.cell p' 147]) (tmps : Array Value) (w : World) (g : Nat) (v : Nat → Int) (hp : tmps.getD p' undef = .pointer (some ⟨g, 0, none⟩)) (hs : PrAt w g v) :
    (results fn tmps).run Try.prog w = .ok (vI v) w :=
  results_cell_row h tmps w g 147 (ic v) (0, 0) _ hp hs Try.underlying147 rfl info_prs
theorem QAt.rowOther {w : World} {gq g : Nat} {v : Value} {cs : Array Value} (h : QAt w gq v) (hne : gq ≠ g) : QAt (w.setRow g cs) gq v := by
  unfold QAt; rw [setRow_other _ _ _ _ hne]; exact h
theorem own_rowOther {B : Nat} {e : TypeId} {w : World} {g1 n c g : Nat} {cs : Array Value} {l : List (Nat → Int)} (h : OwnR icL 5 B e w (.slice (some ⟨g1, 0, none⟩) n c) l) (hne : g1 ≠ g) : OwnR icL 5 B e (w.setRow g cs) (.slice (some ⟨g1, 0, none⟩) n c) l :=
  h.other fun k hk => by
    have e1 : k = g1 := by simp only [Value.ownBlock, Option.some.injEq] at hk; exact hk.symm
    rw [e1, setRow_other _ _ _ _ hne]
theorem QK.rowFresh {B gq : Nat} {w w' : World} {g : Nat} {cs : Array Value} (h : QK B gq w w') (hB : B ≤ w.heap.size) (hg : w.heap.size ≤ g) : QK B gq w (w'.setRow g cs) :=
  ⟨Below.row h.bel (by omega) _, fun k cs' t fz a b c => by
    have hk := (Array.getElem?_eq_some_iff.1 a).1
    rw [setRow_other _ _ _ _ (by omega)]; exact h.keep k cs' t fz a b c⟩
theorem genCt {P : Program} {md : Region.Mode} {ops : Array Oper} {C : World → Prop} {Q : Exit → Act → World → Prop} {fuel : Nat} {listed : Array Bool} {a : Act} {w : World} (F : World → Prop) (hF : F w) (h : ∀ w', F w' → wpAnyC P md ops C Q fuel listed a w') : wpAnyC P md ops C Q fuel listed a w := h w hF
theorem prAt_range {w : World} {g : Nat} {v : Nat → Int} (h : PrAt w g v) : w.cell? ⟨g, 0, none⟩ = some (.int .i64 (v 0)) ∧ w.cell? ⟨g, 1, none⟩ = some (.int .i64 (v 1)) ∧ w.cell? ⟨g, 2, none⟩ = some (.int .i64 (v 2)) ∧ w.cell? ⟨g, 3, none⟩ = some (.int .i64 (v 3)) ∧ w.cell? ⟨g, 4, none⟩ = some (.int .i64 (v 4)) := ⟨h.cell 0, h.cell 1, h.cell 2, h.cell 3, h.cell 4⟩
set_option maxRecDepth 100000 in
set_option maxHeartbeats 8000000 in
theorem q_take {B gq : Nat} (l : List (Nat → Int)) (w : World) (v : Value) (hq : QAt w gq v) (ho : OwnR icL 5 B 147 w v l) (hB : B ≤ gq) (hl : l.length ≤ 100000001) (h0 : 0 < l.length) :
    Calls Try.prog 80 #[.pointer (some ⟨gq, 0, none⟩)] w fun e w' => (∃ y, e = .returned (vI y) ∧ y ∈ l) ∧ (∃ v' l', QAt w' gq v' ∧ OwnR icL 5 B 147 w' v' l' ∧ l'.length + 1 = l.length ∧ ∀ z ∈ l', z ∈ l) ∧ QK B gq w w' := by
  have hBw : B ≤ w.heap.size := by have := hq.lt; omega
  have hab := (Below.refl w.heap.size w).alloc (Nat.le_refl _) (.cells (ic fun _ => 0) 147)
  obtain ⟨g1, n1, hv⟩ := ho.somewhere h0
  obtain ⟨m, hm⟩ : ∃ m, m = l.length := ⟨_, rfl⟩
  rw [← hm] at hv hl h0
  subst hv
  have hg1 : g1 < w.heap.size := (ho.below (g := g1) rfl).2
  have hgq := hq.lt
  have hzp : (zeroValue 147).run Try.prog w = .ok (.agg (ic fun _ => 0)) w := by
    have h : (Try.prog.info? 147).map (fun i => (i.zero, i.size)) = some (some (.agg (ic fun _ => 0)), 5) := by kernel_rfl
    exact (zero_of_info h).1 w
  go_enter Try.func80, Try.ntmps80
  repeat' (go_not_at_region 1; first | go_values | go_skip | go_guarded | go_step | go_upon)
  refine gen_wd (fun W => QAt W gq (.slice (some ⟨g1, 0, none⟩) m n1) ∧ OwnR icL 5 B 147 W (.slice (some ⟨g1, 0, none⟩) m n1) l ∧ PrAt W w.heap.size (fun _ => 0) ∧ QK B gq w W ∧ w.heap.size < W.heap.size) ⟨hq.keep hab, OwnR.keep ho hab (Nat.le_refl _), Go.heap_alloc_new _ _, QK.of hab hBw, by rw [World.size_alloc]; omega⟩ ?_
  clear hab hq ho hzp
  rintro wx ⟨hq, ho, hr, hk, hsx⟩
  obtain ⟨y, hy⟩ : ∃ y, y = l.getD 0 k2 := ⟨_, rfl⟩
  have hyl : y ∈ l := by rw [hy]; exact getD_mem (by omega)
  have hrg := own_range ho (i := 0) (by omega)
  rw [← hy, Nat.zero_mul] at hrg
  have Hyl := Lib.hid hyl
  have Hm := Lib.hid hm
  clear hy hyl hm
  have hgl := (ho.below (g := g1) rfl).2
  have k0 : ∀ nq : WB wx, nq.1.cell? ⟨gq, 0, none⟩ = some (.slice (some ⟨g1, 0, none⟩) m n1) := fun nq => (hq.keep nq.2).cell
  have a0 : ∀ nq : WB wx, nq.1.cell? ⟨g1, 0, none⟩ = some (.int .i64 (y 0)) := fun nq => (nq.2.cell hgl).trans (hrg 0 _ rfl)
  have a1 : ∀ nq : WB wx, nq.1.cell? ⟨g1, 1, none⟩ = some (.int .i64 (y 1)) := fun nq => (nq.2.cell hgl).trans (hrg 1 _ rfl)
  have a2 : ∀ nq : WB wx, nq.1.cell? ⟨g1, 2, none⟩ = some (.int .i64 (y 2)) := fun nq => (nq.2.cell hgl).trans (hrg 2 _ rfl)
  have a3 : ∀ nq : WB wx, nq.1.cell? ⟨g1, 3, none⟩ = some (.int .i64 (y 3)) := fun nq => (nq.2.cell hgl).trans (hrg 3 _ rfl)
  have a4 : ∀ nq : WB wx, nq.1.cell? ⟨g1, 4, none⟩ = some (.int .i64 (y 4)) := fun nq => (nq.2.cell hgl).trans (hrg 4 _ rfl)
  have HQ := Lib.hid hq
  have HO := Lib.hid ho
  have HR := Lib.hid hr
  have HK := Lib.hid hk
  clear hq ho hr hk hrg hgl
  obtain ⟨n, hn⟩ : ∃ n, m = n + 1 := ⟨m - 1, by omega⟩
  have Hn := Lib.hid hn
  have hmi : (m : Int) - 1 = (n : Int) := by omega
  have hwn : IntKind.i64.wrap (n : Int) = (n : Int) := by rw [IntKind.wrap_i64]; omega
  have hnm : n < m := by omega
  clear hn
  refine wp_region_anyC (by kernel_rfl) wx ?_
  refine tkC 0 rfl ?_
  refine tkC 1 rfl ?_
  refine tkC 2 rfl ?_
  refine tkC 3 rfl ?_
  refine tkC 4 rfl ?_
  refine tkC 5 rfl ?_
  refine tkC 6 rfl ?_
  refine tkC 7 rfl ?_
  refine tkC 8 rfl ?_
  refine tkC 9 rfl ?_
  refine tkC 10 rfl ?_
  refine tkC 11 rfl ?_
  clear k0 a0 a1 a2 a3 a4
  refine wpAnyC_ready (CW.of ((Below.refl _ _).drew)) (rs := [12]) (by kernel_rfl) (by simp) ?_
  refine (AllReadyC.cons rfl (fun K hK => ?_) AllReadyC.nil)
  go_simp
  refine hK _ _ ?_
  clear hK K
  refine wpAnyC_ready (CW.of ((Below.refl _ _).drew.alloc (by simp) _)) (rs := [13]) (by kernel_rfl) (by simp) ?_
  refine (AllReadyC.cons rfl (fun K hK => ?_) AllReadyC.nil)
  go_simp
  refine hK _ _ ?_
  clear hK K
  have hbz : Below wx.heap.size wx ((wx.alloc (.cells (ic y) 147)).drew) := ((Below.refl _ _).alloc (Nat.le_refl _) _).drew
  have hgx : B ≤ wx.heap.size := by omega
  refine genCt (fun W => Below wx.heap.size wx W ∧ TK B gq g1 n1 wx.heap.size w.heap.size w l y m l W)
    ⟨hbz, ⟨HQ.out.keep hbz, OwnR.keep HO.out hbz (Nat.le_refl _), HK.out.trans (QK.of hbz hgx), PrAt.new _ _, HR.out.keep hbz, Hm.out, fun z hz => hz, hB, by omega, by omega⟩⟩ ?_
  clear hbz
  rintro wy ⟨hby, hT⟩
  refine tkC 14 rfl ?_
  refine wpAnyC_done (by kernel_rfl) (CW.of (hby)) (by go_simp <;> with_reducible rfl) ?_
  have n1q : wx.heap.size ≠ gq := by have := HQ.out.lt; omega
  have n2q : w.heap.size ≠ gq := by omega
  clear hby HQ HO HR HK
  generalize wx.heap.size = gx at hT n1q ⊢
  have HT := Lib.hid hT
  clear hT
  repeat' (go_not_at_region 2; first | go_values | go_skip | go_guarded | go_step | go_upon)
  -- the last one goes ahead
  obtain ⟨z, hzl, hzr⟩ := HT.out.range (i := n) hnm
  obtain ⟨C, hC⟩ : ∃ C : World → Prop, C = fun W => QAt W gq (.slice (some ⟨g1, 0, none⟩) m n1) ∧ W.rangeAt g1 (n * 5) (icL z) := ⟨_, rfl⟩
  have Hmk : Hid (∀ W, QAt W gq (.slice (some ⟨g1, 0, none⟩) m n1) → W.rangeAt g1 (n * 5) (icL z) → C W) := Lib.hid fun W h1 h2 => by rw [hC]; exact ⟨h1, h2⟩
  have Hop : Hid (∀ W, C W → QAt W gq (.slice (some ⟨g1, 0, none⟩) m n1) ∧ W.rangeAt g1 (n * 5) (icL z)) := Lib.hid fun W h => by rw [hC] at h; exact h
  clear hC
  have k0 : ∀ nq : GW C, nq.1.cell? ⟨gq, 0, none⟩ = some (.slice (some ⟨g1, 0, none⟩) m n1) := fun nq => (Hop.out _ nq.2).1.cell
  have a0 : ∀ nq : GW C, nq.1.cell? ⟨g1, n * 5, none⟩ = some (.int .i64 (z 0)) := fun nq => (Hop.out _ nq.2).2 0 _ rfl
  have a1 : ∀ nq : GW C, nq.1.cell? ⟨g1, n * 5 + 1, none⟩ = some (.int .i64 (z 1)) := fun nq => (Hop.out _ nq.2).2 1 _ rfl
  have a2 : ∀ nq : GW C, nq.1.cell? ⟨g1, n * 5 + 2, none⟩ = some (.int .i64 (z 2)) := fun nq => (Hop.out _ nq.2).2 2 _ rfl
  have a3 : ∀ nq : GW C, nq.1.cell? ⟨g1, n * 5 + 3, none⟩ = some (.int .i64 (z 3)) := fun nq => (Hop.out _ nq.2).2 3 _ rfl
  have a4 : ∀ nq : GW C, nq.1.cell? ⟨g1, n * 5 + 4, none⟩ = some (.int .i64 (z 4)) := fun nq => (Hop.out _ nq.2).2 4 _ rfl
  refine wp_region_anyU (by kernel_rfl) C 12 ?_
  refine tkU 0 rfl ?_
  refine tkU 1 rfl ?_
  refine tkU 2 rfl ?_
  refine tkU 3 rfl ?_
  refine tkU 4 rfl ?_
  refine tkU 5 rfl ?_
  refine tkU 6 rfl ?_
  refine tkU 7 rfl ?_
  refine tkU 8 rfl ?_
  refine tkU 9 rfl ?_
  refine tkU 10 rfl ?_
  refine tkU 11 rfl ?_
  clear k0 a0 a1 a2 a3 a4
  have HT1 := Lib.hid (HT.out.keep (Below.refl _ _).drew)
  refine wpAnyU_ready (CG.of (Hmk.out _ HT1.out.q hzr)) (rs := [12]) (by kernel_rfl) (by simp) ?_
  refine (AllReadyU.cons rfl (fun K hK => ?_) AllReadyU.nil)
  refine step_of rfl (wp_store_mid 147 _ _ rfl g1 0 (icL z).toArray rfl rfl (by have h := own_there HT1.out.o HT1.out.n (i := 0) (by rw [← HT1.out.n]; omega); rw [Nat.zero_mul] at h; exact h) (by kernel_rfl) (by simp [icL, Value.oneCell']) ?_)
  refine hK _ _ ?_
  clear hK K
  have hT2 := HT1.out.set (i := 0) (by omega) hzl
  rw [Nat.zero_mul] at hT2
  refine genUv (fun W => TK B gq g1 n1 gx w.heap.size w l y m (l.set 0 z) W) hT2 ?_
  clear hT2 HT HT1 hzr hzl Hmk Hop
  intro wz hT
  refine wpAnyU_done (by kernel_rfl) (by kernel_rfl) (by go_simp <;> with_reducible rfl) ?_
  have HT := Lib.hid hT
  clear hT
  repeat' (go_not_at_region 3; first | go_values | go_skip | go_guarded | go_step | go_upon)
  have o1 := HT.out.q.cell
  have f1 := HT.out.q.free 0
  have hcap : m ≤ n1 := by
    obtain ⟨_, c, e, h, _⟩ := HT.out.o.form
    simp only [Value.slice.injEq] at e
    omega
  have hcap2 : n ≤ n1 := by omega
  repeat' (go_not_at_region 4; first | go_values | go_skip | go_guarded | go_step | go_upon)
  clear hcap hcap2
  have hT2 := HT.out.cut (k := n) (by omega) n1q n2q
  obtain ⟨L0, hL0⟩ : ∃ L, L = (l.set 0 z).take n := ⟨_, rfl⟩
  rw [← hL0] at hT2
  clear hL0
  refine gen_wd (fun W => TK B gq g1 n1 gx w.heap.size w l y n L0 W) hT2 ?_
  clear hT2 HT o1 f1
  intro wz hT
  have HT := Lib.hid hT
  clear hT
  have hnl : n ≤ 100000000 := by omega
  clear hl hnm hmi hwn h0
  repeat' (first | go_values | go_skip | go_guarded | go_step | go_upon)
  go_loopw [5] (fun s5 wr => ∃ (i : Nat) (L : List (Nat → Int)), s5 = .int .i64 i ∧ (i = 0 ∨ i < n) ∧ i ≤ 100000000 ∧ Hid (TK B gq g1 n1 gx w.heap.size w l y n L wr)) (fun s5 _ => n - (intOf s5).toNat)
  case atStart => exact ⟨0, L0, rfl, .inl rfl, by omega, HT⟩
  case round =>
    clear HT
    obtain ⟨i, L, rfl, hi, hi8, HT⟩ := hrel
    repeat' (first | go_values | go_skip | go_guarded | go_step | go_upon)
    go_loopw [6, 7] (fun s6 s7 wr => ∃ (e k : Nat), s6 = .int .i64 e ∧ s7 = .int .i64 k ∧ (e = i ∨ (i < e ∧ e < n)) ∧ 2 * i + 1 ≤ k ∧ k ≤ 2 * i + 3 ∧ Hid (TK B gq g1 n1 gx w.heap.size w l y n L wr)) (fun _ s7 _ => 2 * i + 3 - (intOf s7).toNat)
    case atStart => exact ⟨i, 2 * i + 1, rfl, by go_num, .inl rfl, by omega, by omega, HT⟩
    case round =>
      clear HT
      obtain ⟨e, k, rfl, rfl, he, hk1, hk2, HT⟩ := hrel
      by_cases hin : k ≤ 2 * i + 2 ∧ k < n
      · have ha : (k : Int) ≤ 2 * (i : Int) + 2 := by omega
        have hb : (k : Int) < (n : Int) := by omega
        have hkn : k < n := hin.2
        have hen : e < n := by omega
        obtain ⟨zk, hzk, rk⟩ := HT.out.range hkn
        obtain ⟨ze, hze, re⟩ := HT.out.range hen
        have hgl := (HT.out.o.below (g := g1) rfl).2
        have k0 : ∀ nq : WB wr, nq.1.cell? ⟨gq, 0, none⟩ = some (.slice (some ⟨g1, 0, none⟩) n n1) := fun nq => (HT.out.q.keep nq.2).cell
        have a0 : ∀ nq : WB wr, nq.1.cell? ⟨g1, k * 5, none⟩ = some (.int .i64 (zk 0)) := fun nq => (nq.2.cell hgl).trans (rk 0 _ rfl)
        have a1 : ∀ nq : WB wr, nq.1.cell? ⟨g1, k * 5 + 1, none⟩ = some (.int .i64 (zk 1)) := fun nq => (nq.2.cell hgl).trans (rk 1 _ rfl)
        have a2 : ∀ nq : WB wr, nq.1.cell? ⟨g1, k * 5 + 2, none⟩ = some (.int .i64 (zk 2)) := fun nq => (nq.2.cell hgl).trans (rk 2 _ rfl)
        have a3 : ∀ nq : WB wr, nq.1.cell? ⟨g1, k * 5 + 3, none⟩ = some (.int .i64 (zk 3)) := fun nq => (nq.2.cell hgl).trans (rk 3 _ rfl)
        have a4 : ∀ nq : WB wr, nq.1.cell? ⟨g1, k * 5 + 4, none⟩ = some (.int .i64 (zk 4)) := fun nq => (nq.2.cell hgl).trans (rk 4 _ rfl)
        have b0 : ∀ nq : WB wr, nq.1.cell? ⟨g1, e * 5, none⟩ = some (.int .i64 (ze 0)) := fun nq => (nq.2.cell hgl).trans (re 0 _ rfl)
        have b1 : ∀ nq : WB wr, nq.1.cell? ⟨g1, e * 5 + 1, none⟩ = some (.int .i64 (ze 1)) := fun nq => (nq.2.cell hgl).trans (re 1 _ rfl)
        have b2 : ∀ nq : WB wr, nq.1.cell? ⟨g1, e * 5 + 2, none⟩ = some (.int .i64 (ze 2)) := fun nq => (nq.2.cell hgl).trans (re 2 _ rfl)
        have b3 : ∀ nq : WB wr, nq.1.cell? ⟨g1, e * 5 + 3, none⟩ = some (.int .i64 (ze 3)) := fun nq => (nq.2.cell hgl).trans (re 3 _ rfl)
        have b4 : ∀ nq : WB wr, nq.1.cell? ⟨g1, e * 5 + 4, none⟩ = some (.int .i64 (ze 4)) := fun nq => (nq.2.cell hgl).trans (re 4 _ rfl)
        clear hzk rk hze re hgl hin
        repeat' (go_not_at_region 9; first | go_values | go_skip | go_guarded | go_step | go_upon)
        refine wp_region_anyC (by kernel_rfl) wr ?_
        refine tkC 0 rfl ?_
        refine tkC 1 rfl ?_
        refine tkC 2 rfl ?_
        refine tkC 3 rfl ?_
        refine tkC 4 rfl ?_
        refine tkC 5 rfl ?_
        refine tkC 6 rfl ?_
        refine tkC 7 rfl ?_
        refine tkC 8 rfl ?_
        refine tkC 9 rfl ?_
        refine tkC 10 rfl ?_
        refine tkC 11 rfl ?_
        refine tkC 12 rfl ?_
        refine tkC 13 rfl ?_
        clear k0 a0 a1 a2 a3 a4 b0 b1 b2 b3 b4
        refine wpAnyC_ready (CW.of ((Below.refl _ _).drew)) (rs := [14]) (by kernel_rfl) (by simp) ?_
        refine (AllReadyC.cons rfl (fun K hK => ?_) AllReadyC.nil)
        go_simp
        refine Calls.mono (vm_less _ _ _) ?_
        rintro _ w2 ⟨⟨c, rfl⟩, hb2⟩
        dsimp only
        refine hK _ _ ?_
        clear hK K
        have B2 : Below wr.heap.size wr w2 := (Below.refl _ _).drew.trans hb2
        refine wpAnyC_done (by kernel_rfl) (CW.of (B2)) (by go_simp <;> with_reducible rfl) ?_
        have HT2 := Lib.hid (HT.out.keep B2)
        clear hb2 B2 HT
        cases c with
        | false =>
          repeat' (first | go_values | go_skip | go_guarded | go_step | go_upon)
          go_roundw
          case rel => exact ⟨e, k + 1, rfl, by go_num, he, by omega, by omega, HT2⟩
          case measure => simp [intOf]; omega
        | true =>
          repeat' (first | go_values | go_skip | go_guarded | go_step | go_upon)
          go_roundw
          case rel => exact ⟨k, k + 1, rfl, by go_num, .inr ⟨by omega, hkn⟩, by omega, by omega, HT2⟩
          case measure => simp [intOf]; omega
      · have hex : (2 * (i : Int) + 2 < k) ∨ ((k : Int) ≤ 2 * (i : Int) + 2 ∧ (n : Int) ≤ k) := by omega
        clear hin
        by_cases hei : e = i
        · subst hei
          have hib : ((e : Int) == (e : Int)) = true := by rw [beq_iff_eq]
          rcases hex with h1 | ⟨h1, h2⟩
          all_goals
            repeat' (first | (with_reducible refine load_pr HT.out.x _ rfl rfl ?_) | (with_reducible refine store_pr HT.out.r y _ _ rfl rfl rfl ?_) | go_values | go_skip | go_guarded | go_step | go_upon)
            have hr : PrAt (wr.setRow w.heap.size (ic y)) w.heap.size y := setRow_heap _ _ _ _ _ _ HT.out.r
            refine bodyPost_ret (results_pr rfl _ _ _ _ rfl hr) rfl ⟨⟨y, rfl, Hyl.out⟩, ⟨_, L, HT.out.q.rowOther n2q.symm, own_rowOther HT.out.o HT.out.nr.symm, by rw [← HT.out.n, ← Hm.out]; exact Hn.out.symm, HT.out.m⟩, HT.out.k.rowFresh hBw (Nat.le_refl _)⟩
        · have hib : ((e : Int) == (i : Int)) = false := beq_false_of_ne (by omega)
          have he2 : i < e ∧ e < n := by omega
          rcases hex with h1 | ⟨h1, h2⟩
          all_goals
            repeat' (go_not_at_region 13; first | go_values | go_skip | go_guarded | go_step | go_upon)
            obtain ⟨zi, hzi, ri⟩ := HT.out.range (i := i) (by omega)
            obtain ⟨ze, hze, re⟩ := HT.out.range (i := e) he2.2
            have hi3 : i < n := by omega
            have he3 : e < n := he2.2
            obtain ⟨C', hC⟩ : ∃ C' : World → Prop, C' = fun W => QAt W gq (.slice (some ⟨g1, 0, none⟩) n n1) ∧ W.rangeAt g1 (i * 5) (icL zi) ∧ W.rangeAt g1 (e * 5) (icL ze) := ⟨_, rfl⟩
            have Hmk : Hid (∀ W, QAt W gq (.slice (some ⟨g1, 0, none⟩) n n1) → W.rangeAt g1 (i * 5) (icL zi) → W.rangeAt g1 (e * 5) (icL ze) → C' W) := Lib.hid fun W h1 h2 h3 => by rw [hC]; exact ⟨h1, h2, h3⟩
            have Hop : Hid (∀ W, C' W → QAt W gq (.slice (some ⟨g1, 0, none⟩) n n1) ∧ W.rangeAt g1 (i * 5) (icL zi) ∧ W.rangeAt g1 (e * 5) (icL ze)) := Lib.hid fun W h => by rw [hC] at h; exact h
            clear hC
            have k0 : ∀ nq : GW C', nq.1.cell? ⟨gq, 0, none⟩ = some (.slice (some ⟨g1, 0, none⟩) n n1) := fun nq => (Hop.out _ nq.2).1.cell
            have a0 : ∀ nq : GW C', nq.1.cell? ⟨g1, i * 5, none⟩ = some (.int .i64 (zi 0)) := fun nq => (Hop.out _ nq.2).2.1 0 _ rfl
            have a1 : ∀ nq : GW C', nq.1.cell? ⟨g1, i * 5 + 1, none⟩ = some (.int .i64 (zi 1)) := fun nq => (Hop.out _ nq.2).2.1 1 _ rfl
            have a2 : ∀ nq : GW C', nq.1.cell? ⟨g1, i * 5 + 2, none⟩ = some (.int .i64 (zi 2)) := fun nq => (Hop.out _ nq.2).2.1 2 _ rfl
            have a3 : ∀ nq : GW C', nq.1.cell? ⟨g1, i * 5 + 3, none⟩ = some (.int .i64 (zi 3)) := fun nq => (Hop.out _ nq.2).2.1 3 _ rfl
            have a4 : ∀ nq : GW C', nq.1.cell? ⟨g1, i * 5 + 4, none⟩ = some (.int .i64 (zi 4)) := fun nq => (Hop.out _ nq.2).2.1 4 _ rfl
            have b0 : ∀ nq : GW C', nq.1.cell? ⟨g1, e * 5, none⟩ = some (.int .i64 (ze 0)) := fun nq => (Hop.out _ nq.2).2.2 0 _ rfl
            have b1 : ∀ nq : GW C', nq.1.cell? ⟨g1, e * 5 + 1, none⟩ = some (.int .i64 (ze 1)) := fun nq => (Hop.out _ nq.2).2.2 1 _ rfl
            have b2 : ∀ nq : GW C', nq.1.cell? ⟨g1, e * 5 + 2, none⟩ = some (.int .i64 (ze 2)) := fun nq => (Hop.out _ nq.2).2.2 2 _ rfl
            have b3 : ∀ nq : GW C', nq.1.cell? ⟨g1, e * 5 + 3, none⟩ = some (.int .i64 (ze 3)) := fun nq => (Hop.out _ nq.2).2.2 3 _ rfl
            have b4 : ∀ nq : GW C', nq.1.cell? ⟨g1, e * 5 + 4, none⟩ = some (.int .i64 (ze 4)) := fun nq => (Hop.out _ nq.2).2.2 4 _ rfl
            refine wp_region_anyU (by kernel_rfl) C' 25 ?_
            refine tkU 0 rfl ?_
            refine tkU 1 rfl ?_
            refine tkU 2 rfl ?_
            refine tkU 3 rfl ?_
            refine tkU 4 rfl ?_
            refine tkP 5 rfl ?_
            refine tkP 6 rfl ?_
            refine tkP 7 rfl ?_
            refine tkU 8 rfl ?_
            refine tkP 9 rfl ?_
            refine tkU 10 rfl ?_
            refine tkU 11 rfl ?_
            refine tkU 12 rfl ?_
            refine tkU 13 rfl ?_
            refine tkU 14 rfl ?_
            refine tkU 15 rfl ?_
            refine tkU 16 rfl ?_
            refine tkP 17 rfl ?_
            refine tkP 18 rfl ?_
            refine tkP 19 rfl ?_
            refine tkU 20 rfl ?_
            refine tkP 21 rfl ?_
            refine tkP 22 rfl ?_
            refine tkU 23 rfl ?_
            refine tkP 24 rfl ?_
            clear k0 a0 a1 a2 a3 a4 b0 b1 b2 b3 b4
            refine genUv (fun W => TK B gq g1 n1 gx w.heap.size w l y n L W ∧ W.rangeAt g1 (i * 5) (icL zi) ∧ W.rangeAt g1 (e * 5) (icL ze)) ⟨HT.out.keep (Below.refl _ _).drew, ri, re⟩ ?_
            clear HT ri re
            rintro wc ⟨hT, ri, re⟩
            refine wpAnyU_ready (CG.of (Hmk.out _ hT.q ri re)) (rs := [25]) (by kernel_rfl) (by simp) ?_
            refine (AllReadyU.cons rfl (fun K hK => ?_) AllReadyU.nil)
            refine step_of rfl (wp_store_mid 147 _ _ rfl g1 (i * 5) (icL ze).toArray rfl rfl (own_there hT.o hT.n (by rw [← hT.n]; exact hi3)) (by kernel_rfl) (by simp [icL, Value.oneCell']) ?_)
            refine hK _ _ ?_
            clear hK K
            have HT1 := Lib.hid (hT.set hi3 hze)
            clear hT ri re
            refine tkP 26 rfl ?_
            refine wpAnyU_readyV (by kernel_rfl) (rs := [27]) (by kernel_rfl) (by simp) ?_
            refine (AllReadyU.cons rfl (fun K hK => ?_) AllReadyU.nil)
            refine step_of rfl (wp_store_mid 147 _ _ rfl g1 (e * 5) (icL zi).toArray rfl rfl (own_there HT1.out.o HT1.out.n (by rw [← HT1.out.n]; exact he3)) (by kernel_rfl) (by simp [icL, Value.oneCell']) ?_)
            refine hK _ _ ?_
            clear hK K
            have HT2 := Lib.hid (HT1.out.set he3 hzi)
            clear HT1
            refine wpAnyU_done (by kernel_rfl) (by kernel_rfl) (by go_simp <;> with_reducible rfl) ?_
            repeat' (first | go_values | go_skip | go_guarded | go_step | go_upon)
            go_roundw
            case rel => exact ⟨e, (L.set i ze).set e zi, rfl, .inr he3, by omega, HT2⟩
            case measure => simp [intOf]; omega
end Go.Proofs.Ytkpdcejnanhgoaa
/- The list of signs as it lies in memory: laid, set place by place. No conditions. -/
namespace Go.Proofs.Ytkpdcejnanhgoaa
open Go.RowKit
theorem ndC_size (n : Nat) (id nx ls : Nat → Int) : (ndC n id nx ls).size = n * 3 := by
  unfold ndC
  have := flatMap_lenA (f := ndL id nx ls) (sz := 3) (fun _ => rfl) (List.range n)
  simpa using this
theorem ndC_get (n : Nat) (id nx ls : Nat → Int) {q : Nat} (hq : q < n * 3) : (ndC n id nx ls)[q]? = (ndL id nx ls (q / 3))[q % 3]? := by
  have h := ndC_at n id nx ls (i := q / 3) (j := q % 3) (by omega) (by omega)
  rw [show q / 3 * 3 + q % 3 = q by omega] at h
  exact h
/-- one cell set -/
theorem ndC_set {n : Nat} {id nx ls id' nx' ls' : Nat → Int} {i j : Nat} (hi : i < n) (hj : j < 3) (v : Int) (h : ∀ x y, x < n → y < 3 → (ndL id' nx' ls' x)[y]? = if x = i ∧ y = j then some (.int .i64 v) else (ndL id nx ls x)[y]?) :
    (ndC n id nx ls).setIfInBounds (i * 3 + j) (.int .i64 v) = ndC n id' nx' ls' := by
  apply Array.ext_getElem?
  intro q
  rw [Array.getElem?_setIfInBounds]
  by_cases hq : q < n * 3
  · rw [ndC_get n id nx ls hq, ndC_get n id' nx' ls' hq, h (q / 3) (q % 3) (by omega) (by omega)]
    by_cases he : i * 3 + j = q
    · rw [if_pos he, if_pos (by rw [ndC_size]; omega), if_pos (by omega)]
    · rw [if_neg he, if_neg (by omega)]
  · have e1 : (ndC n id nx ls)[q]? = none := by rw [Array.getElem?_eq_none (by rw [ndC_size]; omega)]
    have e2 : (ndC n id' nx' ls')[q]? = none := by rw [Array.getElem?_eq_none (by rw [ndC_size]; omega)]
    rw [if_neg (by omega), e1, e2]
section
variable {B gl gh gq gn n : Nat} {vs vk vv : Value} {id nx ls : Nat → Int} {w : World}
theorem MK.setAt (h : MK B gl gh gq gn n vs vk vv id nx ls w) {id' nx' ls' : Nat → Int} {i j : Nat} (hi : i < n) (hj : j < 3) (v : Int) (he : ∀ x y, x < n → y < 3 → (ndL id' nx' ls' x)[y]? = if x = i ∧ y = j then some (.int .i64 v) else (ndL id nx ls x)[y]?) :
    MK B gl gh gq gn n vs vk vv id' nx' ls' (w.setCell ⟨gn, i * 3 + j, none⟩ (.int .i64 v)) := by
  have t : ∀ {g : Nat} {cs : Array Value} {ty : TypeId}, w.heap[g]? = some (.cells cs ty (0, 0)) → ty ≠ 138 → g ≠ gn := fun h1 h2 e => by
    subst e
    rw [h.nd] at h1
    simp at h1
    exact h2 h1.2.symm
  refine ⟨?_, ?_, ?_, h.bl, h.bn, h.bh, h.bq⟩
  · rw [heap_setCell_other _ _ _ _ (by have := t h.l (by decide); dsimp only; omega)]; exact h.l
  · rw [setCell_eq_setRow w gn (i * 3 + j) _ _ _ _ h.nd, ndC_set hi hj v he]; exact setRow_heap _ _ _ _ _ _ h.nd
  · unfold HBox; rw [heap_setCell_other _ _ _ _ (by have := t h.h (by decide); dsimp only; omega)]; exact h.h
theorem MK.setId (h : MK B gl gh gq gn n vs vk vv id nx ls w) {i : Nat} (hi : i < n) (v : Int) : MK B gl gh gq gn n vs vk vv (updN id i v) nx ls (w.setCell ⟨gn, i * 3, none⟩ (.int .i64 v)) :=
  h.setAt (j := 0) hi (by decide) v fun x y _ hy => by
    rcases (by omega : y = 0 ∨ y = 1 ∨ y = 2) with rfl | rfl | rfl <;> by_cases hx : x = i <;> simp [ndL, updN, hx]
theorem MK.setNx (h : MK B gl gh gq gn n vs vk vv id nx ls w) {i : Nat} (hi : i < n) (v : Int) : MK B gl gh gq gn n vs vk vv id (updN nx i v) ls (w.setCell ⟨gn, i * 3 + 1, none⟩ (.int .i64 v)) :=
  h.setAt (j := 1) hi (by decide) v fun x y _ hy => by
    rcases (by omega : y = 0 ∨ y = 1 ∨ y = 2) with rfl | rfl | rfl <;> by_cases hx : x = i <;> simp [ndL, updN, hx]
theorem MK.setLs (h : MK B gl gh gq gn n vs vk vv id nx ls w) {i : Nat} (hi : i < n) (v : Int) : MK B gl gh gq gn n vs vk vv id nx (updN ls i v) (w.setCell ⟨gn, i * 3 + 2, none⟩ (.int .i64 v)) :=
  h.setAt (j := 2) hi (by decide) v fun x y _ hy => by
    rcases (by omega : y = 0 ∨ y = 1 ∨ y = 2) with rfl | rfl | rfl <;> by_cases hx : x = i <;> simp [ndL, updN, hx]
theorem MK.free (h : MK B gl gh gq gn n vs vk vv id nx ls w) (k : Nat) : w.frozen? ⟨gn, k, none⟩ = false := frozen_of_row _ _ _ _ _ h.nd
theorem MK.slice (h : MK B gl gh gq gn n vs vk vv id nx ls w) : w.cell? ⟨gl, 0, none⟩ = some (.slice (some ⟨gn, 0, none⟩) n n) := by rw [cell_of_row w gl 0 _ _ _ h.l]; rfl
/-- the queue stands while a place is set -/
theorem MK.q (h : MK B gl gh gq gn n vs vk vv id nx ls w) {v u : Value} {k : Nat} (hq : QAt w gq v) : QAt (w.setCell ⟨gn, k, none⟩ u) gq v := by
  have hne : gq ≠ gn := fun e => by
    unfold QAt at hq
    rw [e, h.nd] at hq
    simp at hq
  unfold QAt
  rw [heap_setCell_other _ _ _ _ (by dsimp only; omega)]; exact hq
theorem MK.own (h : MK B gl gh gq gn n vs vk vv id nx ls w) {v u : Value} {k : Nat} {l : List (Nat → Int)} (ho : OwnR icL 5 B 147 w v l) : OwnR icL 5 B 147 (w.setCell ⟨gn, k, none⟩ u) v l :=
  ho.setOther fun k' hk' e => by
    subst e
    obtain ⟨cs, fz, hb⟩ := ho.typed hk'
    rw [h.nd] at hb
    simp at hb
end
theorem MK.pr {B gl gh gq gn n : Nat} {vs vk vv : Value} {id nx ls : Nat → Int} {w : World} (h : MK B gl gh gq gn n vs vk vv id nx ls w) {g k : Nat} {u : Value} {y : Nat → Int} (hx : PrAt w g y) : PrAt (w.setCell ⟨gn, k, none⟩ u) g y := by
  have hne : g ≠ gn := fun e => by
    unfold PrAt at hx
    rw [e, h.nd] at hx
    simp at hx
  unfold PrAt
  rw [heap_setCell_other _ _ _ _ (by dsimp only; omega)]; exact hx
theorem nd_made (n : Nat) : madeCells #[Value.int .i64 0, .int .i64 0, .int .i64 0] (n * 3) = ndC n (fun _ => 0) (fun _ => 0) (fun _ => 0) := by
  apply Array.ext_getElem?
  intro q
  by_cases hq : q < n * 3
  · rw [ndC_get n _ _ _ hq, made_atv _ _ _ hq]
    have : q % 3 < 3 := by omega
    rcases (by omega : q % 3 = 0 ∨ q % 3 = 1 ∨ q % 3 = 2) with e | e | e <;> simp [ndL, e]
  · rw [Array.getElem?_eq_none (by rw [size_madeCells]; omega), Array.getElem?_eq_none (by rw [ndC_size]; omega)]
end Go.Proofs.Ytkpdcejnanhgoaa
/- The machine of vm as it lies in memory: its block, its rows. No conditions. -/
namespace Go.Proofs.Ytkpdcejnanhgoaa
open Go.RowKit
def sgnI (n : Int) : Int := min (max n 0) 65536
/-- the machine's registers and marks, its rows (source, put, signs, told), its numbers -/
structure RS where
  rg : Nat → Int
  mrk : Nat → Int
  vr : Value
  hr : Int
  vp : Value
  vg : Value
  vl : Value
  pl : Int
  room : Int
  fuel : Int
  used : Int
abbrev rnC (p : Prg) (v : PV) (s : RS) : Array Value := #[.int .i64 p.grow, .int .i64 p.rest, .int .i64 p.extra, .int .i64 p.signs, v.vc, v.vt, v.vx, v.vs, v.vk, v.vv,
  .int .i64 (s.rg 0), .int .i64 (s.rg 1), .int .i64 (s.rg 2), .int .i64 (s.rg 3), .int .i64 (s.rg 4), .int .i64 (s.rg 5), .int .i64 (s.rg 6), .int .i64 (s.rg 7), .int .i64 (s.mrk 0), .int .i64 (s.mrk 1),
  s.vr, .int .i64 s.hr, s.vp, s.vg, s.vl, .int .i64 s.pl, .int .i64 s.room, .int .i64 s.fuel, .int .i64 s.used]
def RnAt (w : World) (g : Nat) (p : Prg) (v : PV) (s : RS) : Prop := w.heap[g]? = some (.cells (rnC p v s) 92 (0, 0))
section
variable {w w' : World} {g : Nat} {p : Prg} {v : PV} {s : RS}
theorem RnAt.lt (h : RnAt w g p v s) : g < w.heap.size := (Array.getElem?_eq_some_iff.1 h).1
theorem RnAt.keep (h : RnAt w g p v s) (hb : Below w.heap.size w w') : RnAt w' g p v s := by unfold RnAt; rw [hb.block g h.lt]; exact h
theorem RnAt.cell (h : RnAt w g p v s) (k : Nat) : w.cell? ⟨g, k, none⟩ = (rnC p v s)[k]? := cell_of_row w g k _ _ _ h
theorem RnAt.free (h : RnAt w g p v s) (k : Nat) : w.frozen? ⟨g, k, none⟩ = false := frozen_of_row _ _ _ _ _ h
theorem RnAt.reg (h : RnAt w g p v s) {i : Nat} (hi : i < 8) : w.cell? ⟨g, 10 + i, none⟩ = some (.int .i64 (s.rg i)) := by
  rw [h.cell]
  rcases (by omega : i = 0 ∨ i = 1 ∨ i = 2 ∨ i = 3 ∨ i = 4 ∨ i = 5 ∨ i = 6 ∨ i = 7) with rfl | rfl | rfl | rfl | rfl | rfl | rfl | rfl <;> rfl
theorem RnAt.mark (h : RnAt w g p v s) {i : Nat} (hi : i < 2) : w.cell? ⟨g, 18 + i, none⟩ = some (.int .i64 (s.mrk i)) := by
  rw [h.cell]
  rcases (by omega : i = 0 ∨ i = 1) with rfl | rfl <;> rfl
theorem RnAt.setReg (h : RnAt w g p v s) {i : Nat} (hi : i < 8) (u : Int) : RnAt (w.setCell ⟨g, 10 + i, none⟩ (.int .i64 u)) g p v { s with rg := updN s.rg i u } := by
  unfold RnAt
  rw [setCell_eq_setRow _ _ _ _ _ _ _ h, setRow_heap _ _ _ _ _ _ h]
  rcases (by omega : i = 0 ∨ i = 1 ∨ i = 2 ∨ i = 3 ∨ i = 4 ∨ i = 5 ∨ i = 6 ∨ i = 7) with rfl | rfl | rfl | rfl | rfl | rfl | rfl | rfl <;> simp [updN]
theorem RnAt.setMk (h : RnAt w g p v s) {i : Nat} (hi : i < 2) (u : Int) : RnAt (w.setCell ⟨g, 18 + i, none⟩ (.int .i64 u)) g p v { s with mrk := updN s.mrk i u } := by
  unfold RnAt
  rw [setCell_eq_setRow _ _ _ _ _ _ _ h, setRow_heap _ _ _ _ _ _ h]
  rcases (by omega : i = 0 ∨ i = 1) with rfl | rfl <;> simp [updN]
theorem RnAt.set20 (h : RnAt w g p v s) (x : Value) : RnAt (w.setCell ⟨g, 20, none⟩ x) g p v { s with vr := x } := by
  unfold RnAt; rw [setCell_eq_setRow _ _ _ _ _ _ _ h, setRow_heap _ _ _ _ _ _ h]; simp
theorem RnAt.set21 (h : RnAt w g p v s) (x : Int) : RnAt (w.setCell ⟨g, 21, none⟩ (.int .i64 x)) g p v { s with hr := x } := by
  unfold RnAt; rw [setCell_eq_setRow _ _ _ _ _ _ _ h, setRow_heap _ _ _ _ _ _ h]; simp
theorem RnAt.set22 (h : RnAt w g p v s) (x : Value) : RnAt (w.setCell ⟨g, 22, none⟩ x) g p v { s with vp := x } := by
  unfold RnAt; rw [setCell_eq_setRow _ _ _ _ _ _ _ h, setRow_heap _ _ _ _ _ _ h]; simp
theorem RnAt.set23 (h : RnAt w g p v s) (x : Value) : RnAt (w.setCell ⟨g, 23, none⟩ x) g p v { s with vg := x } := by
  unfold RnAt; rw [setCell_eq_setRow _ _ _ _ _ _ _ h, setRow_heap _ _ _ _ _ _ h]; simp
theorem RnAt.set24 (h : RnAt w g p v s) (x : Value) : RnAt (w.setCell ⟨g, 24, none⟩ x) g p v { s with vl := x } := by
  unfold RnAt; rw [setCell_eq_setRow _ _ _ _ _ _ _ h, setRow_heap _ _ _ _ _ _ h]; simp
theorem RnAt.set25 (h : RnAt w g p v s) (x : Int) : RnAt (w.setCell ⟨g, 25, none⟩ (.int .i64 x)) g p v { s with pl := x } := by
  unfold RnAt; rw [setCell_eq_setRow _ _ _ _ _ _ _ h, setRow_heap _ _ _ _ _ _ h]; simp
theorem RnAt.set28 (h : RnAt w g p v s) (x : Int) : RnAt (w.setCell ⟨g, 28, none⟩ (.int .i64 x)) g p v { s with used := x } := by
  unfold RnAt; rw [setCell_eq_setRow _ _ _ _ _ _ _ h, setRow_heap _ _ _ _ _ _ h]; simp
end
/-- the machine and what belongs to it -/
structure VM (w0 : World) (g : Nat) (p : Prg) (v : PV) (s : RS) (src put sg tl : List Int) (w : World) : Prop where
  bel : Below w0.heap.size w0 w
  prg : PrgAt w0 v p
  box : RnAt w g p v s
  gb : w0.heap.size ≤ g
  osrc : OwnI w0.heap.size 5 .u8 w s.vr src
  oput : OwnI w0.heap.size 5 .u8 w s.vp put
  osg : OwnI w0.heap.size 3 .i64 w s.vg sg
  otl : OwnI w0.heap.size 3 .i64 w s.vl tl
  nsp : ∀ q, s.vp.ownBlock = some q → s.vr.ownBlock ≠ some q
  ngl : ∀ q, s.vl.ownBlock = some q → s.vg.ownBlock ≠ some q
/-- what holds of any machine -/
structure VI (p : Prg) (s : RS) (src put sg tl : List Int) : Prop where
  bsrc : ∀ x ∈ src, 0 ≤ x ∧ x ≤ 255
  bput : ∀ x ∈ put, 0 ≤ x ∧ x ≤ 255
  lsrc : src.length ≤ 262144
  lput : put.length ≤ 262144
  lsg : sg.length ≤ 262144
  bsg : ∀ x ∈ sg, 0 ≤ x ∧ x < min p.signs 65536
  ltl : (tl.length : Int) ≤ s.room
  room : 0 ≤ s.room ∧ s.room ≤ 5000000000
  fuel : 0 ≤ s.used ∧ s.used ≤ s.fuel ∧ s.fuel ≤ 35184372088832
  here : 0 ≤ s.hr ∧ s.hr ≤ 262144
  mark : ∀ k, k < 2 → 0 ≤ s.mrk k ∧ s.mrk k ≤ 262144
  regs : ∀ k, k < 8 → I64 (s.rg k)
/-- a program's numbers are ints -/
def P64 (p : Prg) : Prop := (∀ x ∈ p.code, ∀ j, j < 5 → I64 (x j)) ∧ ∀ t ∈ p.tabs, ∀ d ∈ t.2, I64 d
section
variable {w0 w w' : World} {g : Nat} {p : Prg} {v : PV} {s : RS} {src put sg tl : List Int}
theorem VM.prgw (h : VM w0 g p v s src put sg tl w) : PrgAt w v p := h.prg.keep h.bel
theorem VM.keep (h : VM w0 g p v s src put sg tl w) (hb : Below w.heap.size w w') : VM w0 g p v s src put sg tl w' :=
  ⟨h.bel.trans (hb.mono h.bel.size), h.prg, h.box.keep hb, h.gb, h.osrc.keep hb (Nat.le_refl _), h.oput.keep hb (Nat.le_refl _), h.osg.keep hb (Nat.le_refl _), h.otl.keep hb (Nat.le_refl _), h.nsp, h.ngl⟩
theorem own_typedV {B : Nat} {e : TypeId} {k : IntKind} {w : World} {v : Value} {l : List Int} (h : OwnI B e k w v l) {b : Nat} (hb : v.ownBlock = some b) : ∃ cs fz, w.heap[b]? = some (.cells cs e fz) := by
  rcases h.2 with ⟨rfl, _⟩ | ⟨g', cap, cur, fz', rfl, _, hg', _⟩
  · simp [Value.ownBlock] at hb
  · simp only [Value.ownBlock, Option.some.injEq] at hb
    subst hb; exact ⟨_, _, hg'⟩
theorem ty_ne {w : World} {g q : Nat} {cs cs' : Array Value} {t t' : TypeId} {fz fz' : Nat × Nat} (h : w.heap[g]? = some (.cells cs t fz)) (h' : w.heap[q]? = some (.cells cs' t' fz')) (hne : t ≠ t') : q ≠ g := fun e => by
  subst e; rw [h] at h'; simp at h'; exact hne h'.2.1
/-- a cell of the machine is set -/
theorem VM.set (h : VM w0 g p v s src put sg tl w) {k : Nat} {u : Value} {s' : RS} (hb : RnAt (w.setCell ⟨g, k, none⟩ u) g p v s') (h1 : s'.vr = s.vr) (h2 : s'.vp = s.vp) (h3 : s'.vg = s.vg) (h4 : s'.vl = s.vl) : VM w0 g p v s' src put sg tl (w.setCell ⟨g, k, none⟩ u) := by
  have F : ∀ {e : TypeId} {kd : IntKind} {x : Value} {l : List Int}, e ≠ 92 → OwnI w0.heap.size e kd w x l → OwnI w0.heap.size e kd (w.setCell ⟨g, k, none⟩ u) x l := fun {e kd x l} hne ho =>
    OwnC.block ho fun q hq => Below.heap_setCell _ _ _ _ (by
      obtain ⟨cs, fz, hc⟩ := own_typedV ho hq
      exact (ty_ne h.box hc (Ne.symm hne)))
  refine ⟨h.bel.setCell h.gb _, h.prg, hb, h.gb, ?_, ?_, ?_, ?_, ?_, ?_⟩
  · rw [h1]; exact F (by decide) h.osrc
  · rw [h2]; exact F (by decide) h.oput
  · rw [h3]; exact F (by decide) h.osg
  · rw [h4]; exact F (by decide) h.otl
  · rw [h1, h2]; exact h.nsp
  · rw [h3, h4]; exact h.ngl
end
end Go.Proofs.Ytkpdcejnanhgoaa
/- A program that came in, opened: its numbers are ints, its keys few enough. No conditions. -/
namespace Go.Proofs.Ytkpdcejnanhgoaa
open Go.RowKit Go.Deep
section
variable {H : Type} {enc : TypeId × Value → H} {w : World} {spare : Nat → Bool} {held : Bool}
theorem slice_rowsB {α : Type} {f : α → List Value} {G : α → Prop} {t e : TypeId} {n0 : Nat} {ks : List FK} (ht : Try.prog.underlying t = some (.slice e)) (hk : flat Try.prog n0 e = some ks) (hc : Try.prog.cellsOf e = ks.length) (hsz : 0 < ks.length)
    (hp : ∀ cs, AllOk enc Try.prog w 0 spare held ks cs → ∃ y, cs = f y ∧ G y) {fuel : Nat} {c : Value} {x : DataW H × List MemPlace}
    (h : DataW.trod enc Try.prog w 0 spare held fuel t [c] = some x) (hw : Light Try.prog t x.1) : ∃ ys : List α, RowOf f ks.length w c ys ∧ (∀ y ∈ ys, G y) ∧ ys.length * Try.prog.bytesOf e ≤ 140737488351232 := by
  obtain ⟨n, xs, h1, hn, h3⟩ := slice_open ht hk hc hsz h hw
  have hl : xs.length = n * ks.length := by obtain ⟨_, _, _, _, _, h, _⟩ := h1; exact h
  obtain ⟨ys, e1, e2, e3⟩ := chunks (f := f) (G := G) n xs hl fun i hi => hp _ (h3 i hi)
  subst e1 e2
  exact ⟨ys, h1, e3, hn⟩
theorem ints_row64 {t : TypeId} (ht : Try.prog.underlying t = some (.slice 3)) {fuel : Nat} {c : Value} {x : DataW H × List MemPlace} (h : DataW.trod enc Try.prog w 0 spare held fuel t [c] = some x) (hw : Light Try.prog t x.1) : ∃ l, RowOf intC 1 w c l ∧ ∀ d ∈ l, I64 d :=
  slice_rows (f := intC) (G := fun d => I64 d) ht flat_pint (by kernel_rfl) (by decide) (fun cs ho => by
    obtain ⟨a, rfl⟩ := list1 ho.1
    obtain ⟨z, rfl, hz⟩ := ho.2 0 _ a rfl rfl
    exact ⟨z, rfl, int_i64 hz⟩) h hw
theorem u64_rowB {fuel : Nat} {c : Value} {x : DataW H × List MemPlace} (h : DataW.trod enc Try.prog w 0 spare held fuel 41 [c] = some x) (hw : Light Try.prog 41 x.1) : ∃ l : List Nat, RowOf u64C 1 w c l ∧ (∀ y ∈ l, U64 y) ∧ l.length ≤ 35184372088832 := by
  obtain ⟨l, h1, h2, h3⟩ := slice_rowsB (f := u64C) (G := fun y => U64 y) Try.underlying41 flat_pu64 (by kernel_rfl) (by decide) (fun cs ho => by
    obtain ⟨a, rfl⟩ := list1 ho.1
    obtain ⟨z, rfl, hz⟩ := ho.2 0 _ a rfl rfl
    obtain ⟨n, rfl, hn⟩ := nat_u64 hz
    exact ⟨n, rfl, hn⟩) h hw
  rw [show Try.prog.bytesOf 23 = 8 from by kernel_rfl] at h3
  exact ⟨l, h1, h2, by omega⟩
theorem choose_tabs64 {w : World} : ∀ ys : List (Int × Value), (∀ y ∈ ys, I64 y.1 ∧ ∃ l, RowOf intC 1 w y.2 l ∧ ∀ d ∈ l, I64 d) → ∃ ds : List (Int × List Int), ys.length = ds.length ∧ (∀ (i : Nat) t d, ys[i]? = some t → ds[i]? = some d → t.1 = d.1 ∧ I64 d.1 ∧ RowOf intC 1 w t.2 d.2) ∧ ∀ t ∈ ds, ∀ d ∈ t.2, I64 d
  | [], _ => ⟨[], rfl, fun i t d h => by simp at h, by simp⟩
  | y :: ys, h => by
    obtain ⟨ds, h1, h2, h3⟩ := choose_tabs64 ys fun z hz => h z (by simp [hz])
    obtain ⟨hi, l, hl, hd⟩ := h y (by simp)
    refine ⟨(y.1, l) :: ds, by simp [h1], fun i t d ht hd => ?_, fun t ht => ?_⟩
    · cases i with
      | zero => simp at ht hd; subst ht hd; exact ⟨rfl, hi, hl⟩
      | succ i => exact h2 i t d (by simpa using ht) (by simpa using hd)
    · rcases List.mem_cons.1 ht with rfl | h'
      · exact hd
      · exact h3 t h'
theorem pg_open2 {fuel : Nat} {cs : List Value} {x : DataW H × List MemPlace} (hx : DataW.trod enc Try.prog w 0 spare held fuel 45 cs = some x) (hw : Light Try.prog 45 x.1) : ∃ p v, cs = (pgC p v).toList ∧ PrgAt w v p ∧ P64 p ∧ p.hash.keys.length ≤ 35184372088832 := by
  have hs := flat_open 20 45 _ flat_pg _ _ _ hx hw
  obtain ⟨c0, c1, c2, c3, c4, c5, c6, c7, c8, c9, rfl⟩ := list10 hs.1
  obtain ⟨a0, rfl, w0⟩ := hs.2 0 _ _ rfl rfl
  obtain ⟨a1, rfl, w1⟩ := hs.2 1 _ _ rfl rfl
  obtain ⟨a2, rfl, w2⟩ := hs.2 2 _ _ rfl rfl
  obtain ⟨a3, rfl, w3⟩ := hs.2 3 _ _ rfl rfl
  obtain ⟨m4, y4, h4, l4⟩ := hs.2 4 _ _ rfl rfl
  obtain ⟨m5, y5, h5, l5⟩ := hs.2 5 _ _ rfl rfl
  obtain ⟨m6, y6, h6, l6⟩ := hs.2 6 _ _ rfl rfl
  obtain ⟨m7, y7, h7, l7⟩ := hs.2 7 _ _ rfl rfl
  obtain ⟨m8, y8, h8, l8⟩ := hs.2 8 _ _ rfl rfl
  obtain ⟨m9, y9, h9, l9⟩ := hs.2 9 _ _ rfl rfl
  obtain ⟨code, r4, g4⟩ := slice_rows (f := icL) (G := fun x => ∀ j, j < 5 → I64 (x j)) Try.underlying38 flat_pins (by kernel_rfl) (by decide) (fun cs ho => by
    obtain ⟨b0, b1, b2, b3, b4, rfl⟩ := list5 ho.1
    obtain ⟨z0, rfl, y0⟩ := ho.2 0 _ _ rfl rfl
    obtain ⟨z1, rfl, y1⟩ := ho.2 1 _ _ rfl rfl
    obtain ⟨z2, rfl, y2⟩ := ho.2 2 _ _ rfl rfl
    obtain ⟨z3, rfl, y3⟩ := ho.2 3 _ _ rfl rfl
    obtain ⟨z4, rfl, y4⟩ := ho.2 4 _ _ rfl rfl
    refine ⟨fun j => [z0, z1, z2, z3, z4].getD j 0, rfl, fun j hj => ?_⟩
    rcases (by omega : j = 0 ∨ j = 1 ∨ j = 2 ∨ j = 3 ∨ j = 4) with rfl | rfl | rfl | rfl | rfl
    · exact int_i64 y0
    · exact int_i64 y1
    · exact int_i64 y2
    · exact int_i64 y3
    · exact int_i64 y4) h4 l4
  obtain ⟨ts, r5, g5⟩ := slice_rows (f := tbC) (G := fun t => I64 t.1 ∧ ∃ l, RowOf intC 1 w t.2 l ∧ ∀ d ∈ l, I64 d) Try.underlying39 flat_ptab (by kernel_rfl) (by decide) (fun cs ho => by
    obtain ⟨b0, b1, rfl⟩ := list2 ho.1
    obtain ⟨z0, rfl, hz⟩ := ho.2 0 _ _ rfl rfl
    obtain ⟨m, y, hy, ly⟩ := ho.2 1 _ _ rfl rfl
    exact ⟨(z0, b1), rfl, int_i64 hz, ints_row64 Try.underlying32 hy ly⟩) h5 l5
  obtain ⟨tx, r6, g6⟩ := slice_rows (f := strC) (G := fun l => l.length ≤ 140737488351232) Try.underlying31 flat_pstr (by kernel_rfl) (by decide) (fun cs ho => by
    obtain ⟨b0, rfl⟩ := list1 ho.1
    obtain ⟨z0, rfl, hz⟩ := ho.2 0 _ _ rfl rfl
    exact ⟨z0.data.toList, rfl, by simpa using hz⟩) h6 l6
  obtain ⟨ks, r7, g7⟩ := u32_row h7 l7
  obtain ⟨kk, r8, g8, n8⟩ := u64_rowB h8 l8
  obtain ⟨kv, r9, g9⟩ := u64_row h9 l9
  obtain ⟨tabs, e1, e2, e3⟩ := choose_tabs64 ts g5
  have getG : ∀ {G : Nat → Prop} (l : List Nat) (k : Nat), G 0 → (∀ y ∈ l, G y) → G (l.getD k 0) := fun {G} l k h0 h => by
    rw [List.getD_eq_getElem?_getD]
    cases e : l[k]? with
    | none => exact h0
    | some y => exact h y (List.mem_of_getElem? e)
  exact ⟨⟨a0, a1, a2, a3, code, tabs, tx, ⟨ks, kk, kv⟩⟩, ⟨c4, c5, c6, c7, c8, c9⟩, rfl, ⟨⟨int_i64 w0, int_i64 w1, int_i64 w2, int_i64 w3⟩, r4, ⟨ts, r5, e1, e2⟩, r6, ⟨r7, r8, r9, fun k => getG ks k (by decide) g7, fun k => getG kk k (u64_small (by decide)) g8, fun k => getG kv k (u64_small (by decide)) g9⟩, g6⟩, ⟨g4, e3⟩, n8⟩
end
end Go.Proofs.Ytkpdcejnanhgoaa
