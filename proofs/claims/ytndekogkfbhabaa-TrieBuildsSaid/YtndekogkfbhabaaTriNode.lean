/- Memory of a plain tree of words: each path has its node; the maker's steps leave it alone. No conditions. -/
import Derived.Test.YtndekogkfbhabaaTriKids2
import Derived.Test.YtndekogkfbhabaaTriReach
import Derived.Test.YtndekogkfbhabaaTriBase
import Derived.Test.YtndekogkfbhabaaTriLay
namespace Go.Proofs.Ytndekogkfbhabaa
open Go.RowKit
/-- each path among the words has its node -/
def TrAt (w : World) (ws0 : List Wd) (A Mp : List UInt8 → Nat) : Prop :=
  ∀ p, (p = [] ∨ subs ws0 p ≠ []) → ∃ l, NdAt w (A p) (wordN (subs ws0 p)) (Mp p) l ∧ ∀ c, bpOf l c = if sub (subs ws0 p) c = [] then none else some (A (p ++ [c]))
theorem TrAt.kn {w w' : World} {ws0 : List Wd} {A Mp : List UInt8 → Nat} (h : TrAt w ws0 A Mp) (hk : KN w w') : TrAt w' ws0 A Mp := fun p hp => by
  obtain ⟨l, h1, h2⟩ := h p hp
  exact ⟨l, h1.kn hk, h2⟩
theorem subs_snoc (ws : List Wd) (p : List UInt8) (c : UInt8) : subs ws (p ++ [c]) = sub (subs ws p) c := by
  induction p generalizing ws with
  | nil => rfl
  | cons d p ih => exact ih (sub ws d)
/-- a node's kids in memory -/
theorem kidL_eq {ws : List Wd} {l : List (UInt8 × Nat)} {q : UInt8 → Nat} (h : ∀ c, bpOf l c = if sub ws c = [] then none else some (q c)) : kidL l = (kids ws).map fun c => (c, q c) := by
  unfold kidL kids
  rw [← List.filterMap_eq_map, List.filterMap_filter]
  congr 1
  funext c
  rw [h c]
  cases e : sub ws c with
  | nil => simp
  | cons x y => simp
section
variable {B g : Nat} {v v' : MV} {w w' W W' : World} {M : TM}
/-- a block that the maker writes holds cells of its types -/
theorem MkAt.tch (h : MkAt B g w M v) {k : Nat} (hk : Tch g v k) : B ≤ k ∧ ∃ cs t fz, w.heap[k]? = some (.cells cs t fz) ∧ (t = 3 ∨ t = 45) := by
  rcases hk with rfl | hk | hk | hk
  · exact ⟨h.gB, _, _, _, h.box, .inr rfl⟩
  · obtain ⟨cs, fz, hc⟩ := own_typedV h.row.ob hk
    exact ⟨h.row.ob.below hk, _, _, _, hc, .inl rfl⟩
  · obtain ⟨cs, fz, hc⟩ := own_typedV h.row.oc hk
    exact ⟨h.row.oc.below hk, _, _, _, hc, .inl rfl⟩
  · obtain ⟨cs, fz, hc⟩ := own_typedV h.row.ow hk
    exact ⟨h.row.ow.below hk, _, _, _, hc, .inl rfl⟩
theorem MSt.obj (hM : MkAt B g w M v) (h : MSt B g v v' w w') {k : Nat} {o : Obj} (hk : w.heap[k]? = some o) (hn : ∀ cs t fz, o = .cells cs t fz → t ≠ 3 ∧ t ≠ 45) : w'.heap[k]? = some o := by
  rw [h.keep k (Array.getElem?_eq_some_iff.1 hk).1 fun q => ?_]
  · exact hk
  · obtain ⟨_, cs, t, fz, hc, ht⟩ := hM.tch q
    rw [hk] at hc
    obtain ⟨h1, h2⟩ := hn cs t fz (Option.some.inj hc)
    rcases ht with ht | ht
    · exact h1 ht
    · exact h2 ht
theorem MSt.kn (hM : MkAt B g w M v) (h : MSt B g v v' w w') : KN w w' := fun k o ho hk => h.obj hM hk fun cs t fz e => by
  subst e
  rcases ho with ho | ⟨cs', t', fz', e, ht⟩
  · simp [Obj.isWalk] at ho
  · injection e with e1 e2 e3
    subst e2
    rcases ht with rfl | rfl <;> exact ⟨by decide, by decide⟩
theorem MSt.others (hM : MkAt B g w M v) (h : MSt B g v v' w w') : KeepsOthers w w' :=
  ⟨h.bel.size, fun k o hk ho => h.obj hM hk fun cs t fz e => by subst e; simp [Obj.isCells] at ho⟩
/-- what holds no cells may turn -/
theorem MkAt.grow0 (h : MkAt B g W M v) {row : Option Nat} (hg : W.grownBy W' row) (hr : ∀ r, row = some r → ∃ o : Obj, W.heap[r]? = some o ∧ o.isCells = false) : MkAt B g W' M v := by
  have F : ∀ k, Tch g v k → W'.heap[k]? = W.heap[k]? := fun k hk => by
    obtain ⟨_, cs, t, fz, hc, _⟩ := h.tch hk
    refine hg.block k (Array.getElem?_eq_some_iff.1 hc).1 fun e => ?_
    obtain ⟨o, ho, hoc⟩ := hr k e.symm
    rw [hc] at ho
    obtain rfl := Option.some.inj ho
    simp [Obj.isCells] at hoc
  refine ⟨by unfold MkB; rw [F g (.inl rfl)]; exact h.box, ⟨OwnC.block h.row.ob fun k hk => F k (.inr (.inl hk)), OwnC.block h.row.oc fun k hk => F k (.inr (.inr (.inl hk))), OwnC.block h.row.ow fun k hk => F k (.inr (.inr (.inr hk))), h.row.bc, h.row.bw, h.row.cw⟩, h.gB⟩
theorem MSt.grow0 (h : MSt B g v v' w W) {row : Option Nat} (hg : W.grownBy W' row) (hB : B ≤ w.heap.size) (hr : ∀ r, row = some r → w.heap.size ≤ r) : MSt B g v v' w W' :=
  ⟨h.bel.grown hg (Nat.le_trans hB h.bel.size) fun r e => Nat.le_trans hB (hr r e), fun k hk hn => by
    rw [hg.block k (Nat.lt_of_lt_of_le hk h.bel.size) fun e => by have := hr k e.symm; omega]
    exact h.keep k hk hn, h.tch⟩
end
/-- the maker's rows are alike long, and its free place is in them -/
def WfM (M : TM) : Prop := M.b.length = M.c.length ∧ M.w.length = M.c.length ∧ 1 ≤ M.free ∧ M.free ≤ M.c.length
theorem put_wf {M : TM} {s : Nat} {k : UInt8} {ks : List UInt8} (h : WfM M) : WfM (putF M s k ks) ∧ M.c.length ≤ (putF M s k ks).c.length := by
  obtain ⟨h1, h2, h3, h4⟩ := h
  obtain ⟨e1, e2, e3⟩ := put_len (M := M) (k := k) (ks := ks) (s := s) ⟨h1, h2⟩
  obtain ⟨f1, f2, f3⟩ := freeF_at M.c (M.c.length + 1) M.free (by omega) h4
  refine ⟨⟨e2, e3, ?_, ?_⟩, by rw [e1]; omega⟩
  · show 1 ≤ freeF M.c (M.c.length + 1) M.free
    omega
  · rw [e1]
    show freeF M.c (M.c.length + 1) M.free ≤ _
    omega
theorem put_max {M : TM} {s : Nat} {k : UInt8} {ks : List UInt8} (h : WfM M) (hp : (k :: ks).Pairwise fun a b => a.toNat < b.toNat) : (putF M s k ks).c.length ≤ M.c.length + 256 ∧ (ks = [] → (putF M s k ks).c.length ≤ M.c.length + 1) ∧
    ∀ c ∈ k :: ks, (baseF M k ks + c.toNat + 1).toNat < (putF M s k ks).c.length ∧ 1 ≤ baseF M k ks + c.toNat + 1 := by
  obtain ⟨h1, h2, h3, h4⟩ := h
  obtain ⟨e1, _, _⟩ := put_len (M := M) (k := k) (ks := ks) (s := s) ⟨h1, h2⟩
  obtain ⟨b1, b2, b3⟩ := base_at (M := M) (k := k) (ks := ks) ⟨h3, h4⟩ (List.pairwise_cons.1 hp).1
  have hl := last_ge hp (by simp)
  have h8 : lastF k ks < 256 := UInt8.toNat_lt _
  refine ⟨by rw [e1]; omega, fun e => ?_, fun c hc => ?_⟩
  · subst e
    have : lastF k [] = k.toNat := rfl
    rw [e1]; omega
  · have := hl c hc
    have := (b1 c hc).1
    refine ⟨?_, this⟩
    rw [e1]
    have : c.toNat ≤ lastF k ks := hl c hc
    omega
/-- the maker's rows stay alike long; how long they grow -/
theorem lay_wf : ∀ (f : Nat) (ws : List Wd) (s : Nat) (M : TM), WfM M → s < M.c.length → WfM (layF f ws s M) ∧ M.c.length ≤ (layF f ws s M).c.length ∧ (layF f ws s M).c.length ≤ M.c.length + costW ws
  | 0, ws, s, M, h, _ => ⟨h, Nat.le_refl _, Nat.le_add_right _ _⟩
  | f + 1, ws, s, M, h, hs => by
    unfold layF
    have hM : WfM { M with w := M.w.set s (wordN ws) } := ⟨h.1, by show (M.w.set _ _).length = _; rw [List.length_set]; exact h.2.1, h.2.2⟩
    cases e : kids ws with
    | nil => exact ⟨hM, Nat.le_refl _, Nat.le_add_right _ _⟩
    | cons k ks =>
      dsimp only
      have hp : (k :: ks).Pairwise fun a b => a.toNat < b.toNat := e ▸ kids_lt ws
      obtain ⟨p1, p2⟩ := put_wf (s := s) (k := k) (ks := ks) hM
      obtain ⟨q1, q2, q3⟩ := put_max (s := s) hM hp
      have hc := kids_cost e (len := M.c.length) (n := (putF { M with w := M.w.set s (wordN ws) } s k ks).c.length) q2 q1
      have F : ∀ (cs : List UInt8) (T : TM), (∀ c ∈ cs, c ∈ k :: ks) → WfM T → (putF { M with w := M.w.set s (wordN ws) } s k ks).c.length ≤ T.c.length →
          WfM (cs.foldl (fun T c => layF f (sub ws c) (baseF M k ks + c.toNat + 1).toNat T) T) ∧ T.c.length ≤ (cs.foldl (fun T c => layF f (sub ws c) (baseF M k ks + c.toNat + 1).toNat T) T).c.length ∧
          (cs.foldl (fun T c => layF f (sub ws c) (baseF M k ks + c.toNat + 1).toNat T) T).c.length ≤ T.c.length + (cs.map fun c => costW (sub ws c)).sum := by
        intro cs
        induction cs with
        | nil => intro T _ hT _; exact ⟨hT, Nat.le_refl _, Nat.le_add_right _ _⟩
        | cons c cs ih =>
          intro T hm hT hl
          have hlt := (q3 c (hm c (by simp))).1
          obtain ⟨r1, r2, r3⟩ := lay_wf f (sub ws c) (baseF M k ks + c.toNat + 1).toNat T hT (Nat.lt_of_lt_of_le hlt hl)
          obtain ⟨i1, i2, i3⟩ := ih _ (fun d hd => hm d (by simp [hd])) r1 (by omega)
          rw [List.foldl_cons, List.map_cons, List.sum_cons]
          exact ⟨i1, by omega, by omega⟩
      obtain ⟨a1, a2, a3⟩ := F (k :: ks) _ (fun _ h => h) p1 (Nat.le_refl _)
      have hbase : baseF { M with w := M.w.set s (wordN ws) } k ks = baseF M k ks := rfl
      exact ⟨a1, Nat.le_trans p2 a2, Nat.le_trans a3 (by omega)⟩
end Go.Proofs.Ytndekogkfbhabaa
