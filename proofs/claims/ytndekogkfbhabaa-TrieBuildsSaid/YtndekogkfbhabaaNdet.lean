/- Regions that draw their order, in whose head calls and allocs come up anywhere: what is ahead of the tail is walked once, in the text's order; calls and allocs hand back some value of which a relation is known. No conditions. -/
import Derived.Test.YtndekogkfbhabaaTail
namespace Go.Proofs.Ytndekogkfbhabaa
open Go.RowKit
/-- the world at a piece of code, only so much of it known -/
theorem gen_wd {P : Program} {c : Code} {Q : Exit → Act → World → Prop} {a : Act} {w : World} (F : World → Prop) (hF : F w) (h : ∀ w', F w' → c.wp P Q a w') : c.wp P Q a w := h w hF
/-- a value, and what is known of it in a world -/
abbrev Rel := Value → World → Prop
/-- what is known stays known while worlds grow -/
def MonoR (R : Rel) : Prop := ∀ v w w', R v w → Below w.heap.size w w' → R v w'
def MonoW (F : World → Prop) : Prop := ∀ w w', F w → Below w.heap.size w w' → F w'
/-- operations that never call -/
def plainOp : Op → Bool
  | .move _ | .assign _ | .pick _ _ _ | .load _ _ | .fieldAddr _ _ _ | .field _ _ _ | .indexAddr _ _ _ | .index _ _ _ | .binOp _ _ _ _ _ | .unOp _ _ _ | .convert _ _ _ | .build _ _ | .extract _ _ | .slice _ _ _ _ _ => true
  | .call { callee := .builtin b, .. } => (match b with | .len | .cap | .min | .max => true | _ => false)
  | .nilCheck _ => true
  | _ => false
theorem val_val {P : Program} {s : Sem Value} {w w' : World} {n : Next} (h : (do pure (Next.value (← s)) : Sem Next).run P w = .ok n w') : ∃ v, n = .value v := by
  rw [Sem.run_bind] at h
  cases hs : s.run P w with
  | ok x w1 => rw [hs] at h; simp [Result.andThen, Sem.run_pure] at h; exact ⟨x, h.1.symm⟩
  | halt x w1 => rw [hs] at h; simp [Result.andThen] at h
theorem bind_val {α : Type} {P : Program} {s : Sem α} {g : α → Sem Next} {w w' : World} {n : Next} (hg : ∀ x w1 w2, (g x).run P w1 = .ok n w2 → ∃ v, n = .value v) (h : (do let x ← s; g x : Sem Next).run P w = .ok n w') : ∃ v, n = .value v := by
  rw [Sem.run_bind] at h
  cases hs : s.run P w with
  | ok x w1 => rw [hs] at h; exact hg x w1 w' (by simpa [Result.andThen] using h)
  | halt x w1 => rw [hs] at h; simp [Result.andThen] at h
theorem pure_val {P : Program} {x : Value} {w w' : World} {n : Next} (h : (pure (Next.value x) : Sem Next).run P w = .ok n w') : ∃ v, n = .value v := by
  simp [Sem.run_pure] at h; exact ⟨x, h.1.symm⟩
theorem plain_val {P : Program} {o : Oper} {ρ : Operand → Value} {w w' : World} {n : Next} (hp : plainOp o.op = true) (h : (execOp ρ o).run P w = .ok n w') : ∃ v, n = .value v := by
  unfold execOp at h
  dsimp only at h
  split at h
  all_goals first
    | (exact val_val h)
    | (exact pure_val h)
    | (rename_i heq; rw [heq] at hp; simp [plainOp] at hp; done)
    | (refine bind_val (fun x w1 w2 h => ?_) h; exact pure_val h)
    | skip
  · split at h
    · simp [runtimePanic] at h
    · simp [runtimePanic] at h
    · simp [runtimePanic] at h
    · split at h
      · simp [runtimePanic] at h
      · refine bind_val (fun x w1 w2 h => ?_) h
        refine bind_val (fun x w1 w2 h => ?_) h
        split at h
        · refine bind_val (fun x w1 w2 h => ?_) h
          exact pure_val h
        · exact pure_val h
      · exact pure_val h
    · exact pure_val h
  · rename_i c heq
    rw [heq] at hp
    obtain ⟨callee, ars, ts⟩ := c
    cases callee with
    | builtin b =>
      simp only [resolve, Sem.run_bind, Sem.run_pure, Result.andThen] at h
      cases b <;> first
        | (exact val_val h)
        | (simp [plainOp] at hp; done)
    | invoke r n => simp [plainOp] at hp
    | value v => simp [plainOp] at hp
theorem plain_no {P : Program} {o : Oper} {ρ : Operand → Value} {w w' : World} {f : FuncId} {args : Array Value} (hp : plainOp o.op = true) (h : (execOp ρ o).run P w = .ok (.enter f args) w') : False := by
  obtain ⟨v, e⟩ := plain_val hp h
  cases e
/-- what is known of calls and allocs, and which operations may come late -/
structure Cfg where
  rel : List (Nat × Rel)
  fl : List Nat
/-- the relation known of operation i's value, if it is a call or an alloc -/
def relAt (Rs : Cfg) (i : Nat) : Option Rel := (Rs.rel.find? (·.1 == i)).map (·.2)
def allocB (op : Op) : Bool := match op with | .alloc _ => true | _ => false
/-- a new block's address -/
def Fresh (b : Bool) (w : World) (v : Value) (w' : World) : Prop := b = true → ∃ g, v = .pointer (some ⟨g, 0, none⟩) ∧ w.heap.size ≤ g ∧ g < w'.heap.size
/-- addresses of two blocks -/
def Dis (u v : Value) : Prop := ∀ g g', u = .pointer (some ⟨g, 0, none⟩) → v = .pointer (some ⟨g', 0, none⟩) → g ≠ g'
theorem Dis.symm {u v : Value} (h : Dis u v) : Dis v u := fun g g' h1 h2 e => h g' g h2 h1 e.symm
/-- what a call or an alloc leaves in a world -/
def nUpon (P : Program) (b : Bool) (w : World) (R : Rel) : Result Next → Prop
  | .ok (.value u) w' => Below w.heap.size w w' ∧ R u w' ∧ Fresh b w u w'
  | .ok (.enter f args) w' => b = false ∧ w' = w ∧ Calls P f args w fun e w'' => ∃ v, e = .returned v ∧ Below w.heap.size w w'' ∧ R v w''
  | _ => False
/-- what is known: of the world, and which blocks are new -/
structure Kn where
  f : World → Prop
  vs : List Value
def Kn.le (k k' : Kn) : Prop := (∀ w, k'.f w → k.f w) ∧ ∀ u ∈ k.vs, u ∈ k'.vs
theorem Kn.le.refl (k : Kn) : k.le k := ⟨fun _ h => h, fun _ h => h⟩
def ext (o : Oper) (v : Value) (vs : List Value) : List Value := if allocB o.op then v :: vs else vs
def Kn.add (k : Kn) (o : Oper) (R : Rel) (v : Value) : Kn := ⟨fun w => k.f w ∧ R v w, ext o v k.vs⟩
def disOk (o : Oper) (v : Value) (vs : List Value) : Prop := allocB o.op = true → ∀ u ∈ vs, Dis u v
theorem disOk.sub {o : Oper} {v : Value} {vs vs' : List Value} (h : disOk o v vs') (hs : ∀ u ∈ vs, u ∈ vs') : disOk o v vs := fun hb u hu => h hb u (hs u hu)
theorem mem_ext {o : Oper} {v u : Value} {vs : List Value} : u ∈ ext o v vs ↔ (allocB o.op = true ∧ u = v) ∨ u ∈ vs := by
  unfold ext
  split
  · rename_i h; simp [h]
  · rename_i h; simp [h]
theorem Kn.add_le {k k' : Kn} (h : k.le k') (o : Oper) (R : Rel) (v : Value) : (k.add o R v).le (k'.add o R v) :=
  ⟨fun w hw => ⟨h.1 w hw.1, hw.2⟩, fun u hu => mem_ext.2 ((mem_ext.1 hu).imp id (h.2 u))⟩
theorem Kn.add_comm (k : Kn) (o o' : Oper) (R R' : Rel) (v v' : Value) : ((k.add o R v).add o' R' v').le ((k.add o' R' v').add o R v) :=
  ⟨fun w hw => ⟨⟨hw.1.1, hw.2⟩, hw.1.2⟩, fun u hu => by
    rcases mem_ext.1 hu with h | h
    · exact mem_ext.2 (.inr (mem_ext.2 (.inl h)))
    · rcases mem_ext.1 h with h | h
      · exact mem_ext.2 (.inl h)
      · exact mem_ext.2 (.inr (mem_ext.2 (.inr h)))⟩
section
variable {P : Program} {ops : Array Oper} {md : Region.Mode} {w0 : World} {Rs : Cfg}
abbrev CB (w0 : World) (w' : World) : Prop := ∃ n : WB w0, w' = n.1
def opN (P : Program) (ops : Array Oper) (w0 : World) (Rs : Cfg) (i : Nat) (o : Oper) (a : Act) (F : Kn) (K : Act → Kn → Prop) : Prop :=
  if Region.wanted o (yielded ops a.tmps) then
    match relAt Rs i with
    | none => plainOp o.op = true ∧ ∃ v, (∀ w, Rs.fl.contains i = true ∨ CB w0 w → o.quietAt P a (CB w0) w v) ∧ K (a.put o.dst v) F
    | some R => (∀ w, CB w0 w → nUpon P (allocB o.op) w R ((execOp a.eval o).run P w)) ∧ ∀ v, (∃ w, R v w) → disOk o v F.vs → K (a.put o.dst v) (F.add o R v)
  else K (a.put o.dst undef) F
theorem opN_mono {i : Nat} {o : Oper} {a : Act} {F : Kn} {K K' : Act → Kn → Prop} (h : ∀ a F, K a F → K' a F) (hh : opN P ops w0 Rs i o a F K) : opN P ops w0 Rs i o a F K' := by
  unfold opN at *
  split
  · rename_i hw
    simp only [hw, if_true] at hh
    cases hr : relAt Rs i with
    | none => simp only [hr] at hh; obtain ⟨h1, v, h2, h3⟩ := hh; exact ⟨h1, v, h2, h _ _ h3⟩
    | some R => simp only [hr] at hh; exact ⟨hh.1, fun v hv hd => h _ _ (hh.2 v hv hd)⟩
  · rename_i hw
    simp only [hw] at hh
    exact h _ _ hh
theorem opN_weak {i : Nat} {o : Oper} {a : Act} {F F' : Kn} {K : Act → Kn → Prop} (hF : F.le F') (hK : ∀ a F F', F.le F' → K a F → K a F') (hh : opN P ops w0 Rs i o a F K) : opN P ops w0 Rs i o a F' K := by
  unfold opN at *
  split
  · rename_i hw
    simp only [hw, if_true] at hh
    cases hr : relAt Rs i with
    | none => simp only [hr] at hh; obtain ⟨h1, v, h2, h3⟩ := hh; exact ⟨h1, v, h2, hK _ _ _ hF h3⟩
    | some R => simp only [hr] at hh; exact ⟨hh.1, fun v hv hd => hK _ _ _ (Kn.add_le hF o R v) (hh.2 v hv (hd.sub hF.2))⟩
  · rename_i hw
    simp only [hw] at hh
    exact hK _ _ _ hF hh
theorem big_world (w0 : World) : ∀ N : Nat, ∃ w, CB w0 w ∧ N ≤ w.heap.size
  | 0 => ⟨w0, ⟨⟨w0, Below.refl _ _⟩, rfl⟩, Nat.zero_le _⟩
  | N + 1 => by
    obtain ⟨w, ⟨q, rfl⟩, h⟩ := big_world w0 N
    exact ⟨q.1.alloc (.cells #[] 0), ⟨⟨_, q.2.alloc q.2.size _⟩, rfl⟩, by rw [World.size_alloc]; omega⟩
theorem blocks_bound : ∀ vs : List Value, ∃ N, ∀ u ∈ vs, ∀ g, u = .pointer (some ⟨g, 0, none⟩) → g < N
  | [] => ⟨0, fun u hu => by cases hu⟩
  | v :: vs => by
    obtain ⟨N, h⟩ := blocks_bound vs
    by_cases hv : ∃ g, v = .pointer (some ⟨g, 0, none⟩)
    · obtain ⟨g0, rfl⟩ := hv
      refine ⟨N + g0 + 1, fun u hu g hg => ?_⟩
      rcases List.mem_cons.1 hu with rfl | hu
      · simp at hg; omega
      · have := h u hu g hg; omega
    · refine ⟨N, fun u hu g hg => ?_⟩
      rcases List.mem_cons.1 hu with rfl | hu
      · exact absurd ⟨g, hg⟩ hv
      · exact h u hu g hg
theorem nUpon_some {o : Oper} {a : Act} {R : Rel} (hh : ∀ w, CB w0 w → nUpon P (allocB o.op) w R ((execOp a.eval o).run P w)) (vs : List Value) : ∃ v, (∃ w', R v w') ∧ disOk o v vs := by
  obtain ⟨N, hN⟩ := blocks_bound vs
  obtain ⟨w, hw, hs⟩ := big_world w0 N
  have h := hh w hw
  generalize (execOp a.eval o).run P w = r at h
  cases r with
  | ok n w' =>
    cases n <;> simp only [nUpon] at h
    case value u =>
      refine ⟨u, ⟨_, h.2.1⟩, fun hb x hx g g' h1 h2 => ?_⟩
      obtain ⟨g2, e, hl, _⟩ := h.2.2 hb
      have := hN x hx g h1
      rw [e] at h2
      simp at h2
      omega
    case enter f args =>
      obtain ⟨e, w1, fr, ⟨v, _, _, hr⟩, _⟩ := h.2.2 []
      exact ⟨v, ⟨_, hr⟩, fun hb => by rw [h.1] at hb; cases hb⟩
  | halt x w' => simp only [nUpon] at h
theorem opN_some {i : Nat} {o : Oper} {a : Act} {F : Kn} {K : Act → Kn → Prop} (hh : opN P ops w0 Rs i o a F K) : ∃ a' F', K a' F' := by
  unfold opN at hh
  split at hh
  · split at hh
    · obtain ⟨_, v, _, h⟩ := hh; exact ⟨_, _, h⟩
    · obtain ⟨v, hv, hd⟩ := nUpon_some hh.1 F.vs
      exact ⟨_, _, hh.2 v hv hd⟩
  · exact ⟨_, _, hh⟩
/-- a plain operation's value is one -/
theorem quiet_one {o : Oper} {a : Act} {u v : Value} (hp : plainOp o.op = true) (hu : ∀ w, CB w0 w → o.quietAt P a (CB w0) w u) (hv : ∀ w, CB w0 w → o.quietAt P a (CB w0) w v) : u = v := by
  have h1 := hu w0 ⟨⟨w0, Below.refl _ _⟩, rfl⟩
  have h2 := hv w0 ⟨⟨w0, Below.refl _ _⟩, rfl⟩
  unfold Oper.quietAt at h1 h2
  cases hr : (execOp a.eval o).run P w0 with
  | ok n w' =>
    rw [hr] at h1 h2
    cases n <;> simp only [Oper.quietUpon] at h1 h2
    case value x => exact h1.2.symm.trans h2.2
    case skip => exact h1.2.trans h2.2.symm
    case enter f args => exact (plain_no hp hr).elim
  | halt x w' => rw [hr] at h1; simp only [Oper.quietUpon] at h1
theorem wp_of_nUpon {o : Oper} {a : Act} {R : Rel} {w : World} {K : Act → World → Prop} {Q : Exit → Act → World → Prop} (h : nUpon P (allocB o.op) w R ((execOp a.eval o).run P w)) (hK : ∀ v w', Below w.heap.size w w' → R v w' → Fresh (allocB o.op) w v w' → K (a.put o.dst v) w') : o.wp P a w K Q := by
  unfold Oper.wp
  generalize (execOp a.eval o).run P w = r at *
  cases r with
  | ok n w' =>
    cases n <;> simp only [nUpon] at h <;> simp only [Oper.upon]
    case value u => exact hK _ _ h.1 h.2.1 h.2.2
    case enter f args =>
      obtain ⟨hbf, rfl, hc⟩ := h
      exact hc.mono fun e w'' ⟨v, he, hb, hr⟩ => by subst he; exact hK _ _ hb hr (fun hb' => by rw [hbf] at hb'; cases hb')
  | halt x w' => simp only [nUpon] at h
/-- an operation j, apart from i, in the frame in which i has handed back v: as if it had not -/
theorem quiet_put {oi oj : Oper} {v : Value} (hap : oi.apart ops oj = true) (hsj : ∀ cs b, oj.op ≠ .select cs b) (a : Act) : execOp (a.put oi.dst v).eval oj = execOp a.eval oj :=
  execOp_put oj hsj a oi.dst v (Oper.apart_spec hap).1
theorem opN_swap {j : Nat} {oi oj : Oper} {v : Value} (hap : oi.apart ops oj = true) (hsj : ∀ cs b, oj.op ≠ .select cs b) {a : Act} {F : Kn} {K : Act → Kn → Prop}
    (h : opN P ops w0 Rs j oj (a.put oi.dst v) F K) : opN P ops w0 Rs j oj a F (fun a' F' => (∃ u, a' = a.put oj.dst u) ∧ K (a'.put oi.dst v) F') := by
  obtain ⟨h1, h2, h3⟩ := Oper.apart_spec hap
  have hx := quiet_put (v := v) hap hsj a
  unfold opN at *
  rw [wanted_put oj a oi.dst v h1] at h
  split
  · rename_i hw
    simp only [hw, if_true] at h
    cases hr : relAt Rs j with
    | none =>
      simp only [hr] at h
      obtain ⟨hp, u, hu, hk⟩ := h
      refine ⟨hp, u, fun w hw' => ?_, ⟨u, rfl⟩, by rw [← Act.put_comm a v u h2]; exact hk⟩
      have := hu w hw'
      unfold Oper.quietAt at *
      rwa [hx] at this
    | some R =>
      simp only [hr] at h
      rw [hx] at h
      exact ⟨h.1, fun u hu hd => ⟨⟨u, rfl⟩, by rw [← Act.put_comm a v u h2]; exact h.2 u hu hd⟩⟩
  · rename_i hw
    simp only [hw] at h
    exact ⟨⟨undef, rfl⟩, by rw [← Act.put_comm a v undef h2]; exact h⟩
theorem opN_swapAll {j : Nat} {oi oj : Oper} {R : Rel} (hap : oi.apart ops oj = true) (hsj : ∀ cs b, oj.op ≠ .select cs b) {a : Act} {F : Kn} {K : Act → Kn → Prop} (hK : ∀ a F F', F.le F' → K a F → K a F') (hne : ∃ v, (∃ w, R v w) ∧ disOk oi v F.vs)
    (h : ∀ v, (∃ w, R v w) → disOk oi v F.vs → opN P ops w0 Rs j oj (a.put oi.dst v) (F.add oi R v) K) : opN P ops w0 Rs j oj a F (fun a' F' => (∃ u, a' = a.put oj.dst u) ∧ ∀ v, (∃ w, R v w) → disOk oi v F'.vs → K (a'.put oi.dst v) (F'.add oi R v)) := by
  obtain ⟨v0, hv0, hd0⟩ := hne
  obtain ⟨h1, h2, h3⟩ := Oper.apart_spec hap
  have hx := fun v => quiet_put (v := v) hap hsj a
  unfold opN at *
  have hwp := fun v => wanted_put oj a oi.dst v h1
  simp only [hwp, hx] at h
  split
  · rename_i hw
    simp only [hw, if_true] at h
    cases hr : relAt Rs j with
    | none =>
      simp only [hr] at h
      obtain ⟨hp, u, hu, _⟩ := h v0 hv0 hd0
      have hu' : ∀ w, Rs.fl.contains j = true ∨ CB w0 w → oj.quietAt P a (CB w0) w u := fun w hw' => by
        have := hu w hw'
        unfold Oper.quietAt at *
        rwa [hx] at this
      refine ⟨hp, u, hu', ⟨u, rfl⟩, fun v hv hd => ?_⟩
      obtain ⟨_, u2, hu2, hk⟩ := h v hv hd
      have hu2' : ∀ w, Rs.fl.contains j = true ∨ CB w0 w → oj.quietAt P a (CB w0) w u2 := fun w hw' => by
        have := hu2 w hw'
        unfold Oper.quietAt at *
        rwa [hx] at this
      obtain rfl := quiet_one hp (fun w h => hu2' w (.inr h)) (fun w h => hu' w (.inr h))
      rw [← Act.put_comm a v u2 h2]; exact hk
    | some R' =>
      simp only [hr] at h
      refine ⟨(h v0 hv0 hd0).1, fun u hu hdu => ⟨⟨u, rfl⟩, fun v hv hdv => ?_⟩⟩
      rw [← Act.put_comm a v u h2]
      refine hK _ _ _ (Kn.add_comm F oi oj R R' v u) ((h v hv (hdv.sub fun x hx' => mem_ext.2 (.inr hx'))).2 u hu fun hb x hx' => ?_)
      rcases mem_ext.1 hx' with ⟨hbi, rfl⟩ | hx'
      · exact (hdv hbi u (mem_ext.2 (.inl ⟨hb, rfl⟩))).symm
      · exact hdu hb x hx'
  · rename_i hw
    simp only [hw] at h
    exact ⟨⟨undef, rfl⟩, fun v hv hd => by rw [← Act.put_comm a v undef h2]; exact h v hv hd⟩
theorem float_any {o : Oper} {a : Act} {v : Value} (hg : o.guard = none) (hp : plainOp o.op = true) (hq : ∀ w, o.quietAt P a (CB w0) w v) : Yields P ops o v a := by
  have hw : Region.wanted o (yielded ops a.tmps) = true := by
    unfold Region.wanted
    rw [hg]
  left
  refine ⟨hw, fun w => ?_⟩
  have h1 := hq w
  unfold Oper.quietAt at h1
  cases hr : (execOp a.eval o).run P w with
  | ok n w' =>
    obtain ⟨x, rfl⟩ := plain_val hp hr
    rw [hr] at h1
    simp only [Oper.quietUpon] at h1
    rw [h1.1, h1.2]
  | halt x w' => rw [hr] at h1; simp only [Oper.quietUpon] at h1
/-- does every operation of the tail wait for h? -/
def waitAll (md : Region.Mode) (ops : Array Oper) (hd : List Nat) (h : Nat) : Bool := (List.range ops.size).all fun t => hd.contains t || Region.waitsFor md ops t h
/-- is all done that the tail waits for? -/
def allH (md : Region.Mode) (ops : Array Oper) (hd : List Nat) (done : Array Bool) : Bool := hd.all fun h => !waitAll md ops hd h || done.getD h false
/-- the tail waits for all of the head but what hangs on no world -/
def floatsB (md : Region.Mode) (ops : Array Oper) (Rs : Cfg) (hd : List Nat) : Bool := hd.all fun h => waitAll md ops hd h || ((match ops[h]? with | some o => o.guard.isNone | none => false) && (Rs.fl.contains h && (relAt Rs h).isNone))
theorem tail_late {hd : List Nat} {j : Nat} {done : Array Bool} (h : allH md ops hd done = false) (hj : j ∈ Region.ready md ops done) : j ∈ hd := by
  refine Classical.byContradiction fun h1 => ?_
  unfold allH at h
  obtain ⟨x, hx, hb⟩ := List.all_eq_false.1 h
  simp only [Bool.or_eq_true, Bool.not_eq_true', not_or, Bool.not_eq_false, Bool.not_eq_true] at hb
  obtain ⟨hun, oj, hoj, hall⟩ := mem_ready.1 hj
  have hjs : j < ops.size := (Array.getElem?_eq_some_iff.1 hoj).1
  have hw := List.all_eq_true.1 hb.1 j (List.mem_range.2 hjs)
  simp only [Bool.or_eq_true] at hw
  rcases hw with hw | hw
  · exact h1 (by simpa using hw)
  · obtain ⟨oj', hoj', e, he, hbe, hon⟩ := Region.waitsFor_spec hw
    rw [hoj] at hoj'; cases hoj'
    have := hall e he hbe
    rw [hon, hb.2] at this
    cases this
theorem allH_set {hd : List Nat} {i : Nat} {done : Array Bool} (h : allH md ops hd done = true) : allH md ops hd (done.setIfInBounds i true) = true := by
  unfold allH at *
  rw [List.all_eq_true] at *
  intro x hx
  have := h x hx
  simp only [Bool.or_eq_true] at *
  exact this.imp id fun h => getD_set_true h
/-- what comes up next, whatever it hands back; the tail may begin when all that it waits for is done -/
def headN (P : Program) (md : Region.Mode) (ops : Array Oper) (w0 : World) (Rs : Cfg) (Q : Exit → Act → World → Prop) (hd : List Nat) : Nat → Array Bool → Act → Kn → Prop
  | 0, done, a, F => (∀ w, CB w0 w → F.f w → wpAny P md ops Q 0 done a w) ∧ ∀ i, i ∈ Region.ready md ops done → i ∉ hd
  | m + 1, done, a, F => (allH md ops hd done = true → ∀ w, CB w0 w → F.f w → wpAny P md ops Q (m + 1) done a w) ∧
    (∀ i, i ∈ Region.ready md ops done → i ∈ hd → ∃ o, ops[i]? = some o ∧ opN P ops w0 Rs i o a F (headN P md ops w0 Rs Q hd m (done.setIfInBounds i true))) ∧
    (allH md ops hd done = false → Region.ready md ops done ≠ [])
theorem headN_weak {Q : Exit → Act → World → Prop} {hd : List Nat} :
    ∀ (k : Nat) (done : Array Bool) (a : Act) (F F' : Kn), F.le F' → headN P md ops w0 Rs Q hd k done a F → headN P md ops w0 Rs Q hd k done a F' := by
  intro k
  induction k with
  | zero => intro done a F F' h hh; exact ⟨fun w hw hf => hh.1 w hw (h.1 w hf), hh.2⟩
  | succ k ih =>
    intro done a F F' h hh
    refine ⟨fun hdn w hw hf => hh.1 hdn w hw (h.1 w hf), fun i hi hin => ?_, hh.2.2⟩
    obtain ⟨o, ho, h2⟩ := hh.2.1 i hi hin
    exact ⟨o, ho, opN_weak h (fun a F F' h h' => ih _ a F F' h h') h2⟩
theorem headN_any {Q : Exit → Act → World → Prop} {hd : List Nat} (hR : ∀ i R, relAt Rs i = some R → MonoR R) :
    ∀ (k : Nat) (done : Array Bool) (a : Act) (F : Kn) (w : World), MonoW F.f → CB w0 w → F.f w → (∀ u ∈ F.vs, ∀ g, u = .pointer (some ⟨g, 0, none⟩) → g < w.heap.size) → headN P md ops w0 Rs Q hd k done a F → wpAny P md ops Q k done a w := by
  intro k
  induction k with
  | zero => intro done a F w _ hw hF _ h; exact h.1 w hw hF
  | succ k ih =>
    intro done a F w hM hw hF hV h
    cases had : allH md ops hd done with
    | true => exact h.1 had w hw hF
    | false =>
    refine ⟨fun e => absurd e (h.2.2 had), fun i hi => ?_⟩
    obtain ⟨o, ho, h2⟩ := h.2.1 i hi (tail_late had hi)
    unfold wpOp
    simp only [ho]
    unfold opN at h2
    split
    · rename_i hwant
      simp only [hwant, if_true] at h2
      left
      cases hr : relAt Rs i with
      | none =>
        simp only [hr] at h2
        obtain ⟨_, v, hq, hk⟩ := h2
        refine Oper.wp_of_quiet (C := fun w' => w' = w) (K := fun a' => a' = a.put o.dst v) rfl (fun a' w' hw' ha' => ?_) ⟨v, fun w' hw' => ?_, rfl⟩
        · subst hw' ha'; exact ih _ _ _ _ hM hw hF hV hk
        · subst hw'
          have h3 := hq w' (.inr hw)
          unfold Oper.quietAt at *
          cases hrun : (execOp a.eval o).run P w' with
          | ok nx w'' =>
            rw [hrun] at h3
            cases nx <;> simp only [Oper.quietUpon] at h3 ⊢
            case value u => exact h3
            case skip => exact h3
            case enter f args => rename_i hp; exact (plain_no hp hrun).elim
          | halt x w'' => rw [hrun] at h3; simp only [Oper.quietUpon] at h3
      | some R =>
        simp only [hr] at h2
        refine wp_of_nUpon (h2.1 w hw) (fun v w' hb hrv hfr => ?_)
        obtain ⟨q, rfl⟩ := hw
        refine ih _ _ (F.add o R v) w' (fun w1 w2 hf hb' => ⟨hM _ _ hf.1 hb', hR i R hr _ _ _ hf.2 hb'⟩) ⟨⟨w', q.2.trans (hb.mono q.2.size)⟩, rfl⟩ ⟨hM _ _ hF hb, hrv⟩ (fun u hu g hg => ?_) (h2.2 v ⟨_, hrv⟩ fun hbb u hu g g' h3 h4 => ?_)
        · rcases mem_ext.1 hu with ⟨hbb, rfl⟩ | hu
          · obtain ⟨g2, e, _, hl⟩ := hfr hbb
            rw [e] at hg; simp at hg; omega
          · exact Nat.lt_of_lt_of_le (hV u hu g hg) hb.size
        · obtain ⟨g2, e, hl, _⟩ := hfr hbb
          have := hV u hu g h3
          rw [e] at h4; simp at h4; omega
    · rename_i hwant
      simp only [hwant] at h2
      exact ih _ _ _ _ hM hw hF hV h2

theorem headN_take {Q : Exit → Act → World → Prop} {hd : List Nat} {i : Nat} {oi : Oper} (hQ : ∀ c a d v w, Q (.panic c) (Act.put a d v) w → Q (.panic c) a w) (hfl : floatsB md ops Rs hd = true) (hi : ops[i]? = some oi) (hsel : Region.noSelect ops = true) (hin : i ∈ hd) :
    ∀ (k : Nat) (done : Array Bool) (a : Act) (F : Kn),
      (∀ j oj, ops[j]? = some oj → j ≠ i → done.getD j true = false → (∀ e ∈ oj.after, Region.binds md e = true → e.on ≠ i) → oi.apart ops oj = true) →
      i ∈ Region.ready md ops done → opN P ops w0 Rs i oi a F (headN P md ops w0 Rs Q hd k (done.setIfInBounds i true)) → headN P md ops w0 Rs Q hd (k + 1) done a F := by
  have sel := Region.noSelect_spec hsel
  have hsi : ∀ cs b, oi.op ≠ .select cs b := fun cs b => sel i oi cs b hi
  have first : ∀ (k : Nat) (done : Array Bool) (a : Act) (F : Kn),
      (∀ j oj, ops[j]? = some oj → j ≠ i → done.getD j true = false → (∀ e ∈ oj.after, Region.binds md e = true → e.on ≠ i) → oi.apart ops oj = true) →
      i ∈ Region.ready md ops done → opN P ops w0 Rs i oi a F (headN P md ops w0 Rs Q hd k (done.setIfInBounds i true)) → allH md ops hd done = true → ∀ w, CB w0 w → F.f w → wpAny P md ops Q (k + 1) done a w := by
    intro k done a F hfree hr H had w hw hF
    have hun : done.getD i false = false := by
      have := (mem_ready.1 hr).1
      rcases Nat.lt_or_ge i done.size with h' | h'
      · simp [h'] at this ⊢; exact this
      · simp [Array.getElem?_eq_none h']
    have hfi := List.all_eq_true.1 hfl i hin
    have hwi : waitAll md ops hd i = false := by
      have := List.all_eq_true.1 had i hin
      simp only [Bool.or_eq_true, Bool.not_eq_true', hun, Bool.false_eq_true, or_false] at this
      exact this
    rw [hwi, Bool.false_or, hi, Bool.and_eq_true, Bool.and_eq_true, Option.isNone_iff_eq_none, Option.isNone_iff_eq_none] at hfi
    obtain ⟨hff, hfc, hrel⟩ := hfi
    have hwant : Region.wanted oi (yielded ops a.tmps) = true := by
      unfold Region.wanted
      rw [hff]
    unfold opN at H
    rw [if_pos hwant] at H
    simp only [hrel] at H
    obtain ⟨hp, v, hq, hk⟩ := H
    refine wpAny_first hi sel (fun c a w h => hQ c a _ _ w h) k done a w hfree hr (float_any hff hp (fun w => hq w (.inl hfc))) ?_
    cases k with
    | zero => exact hk.1 w hw hF
    | succ k => exact hk.1 (allH_set had) w hw hF
  intro k
  induction k with
  | zero =>
    intro done a F hfree hr H
    refine ⟨first 0 done a F hfree hr H, fun j hj hjn => ?_, fun _ => List.ne_nil_of_mem hr⟩
    rcases Nat.decEq j i with hji | hji
    · obtain ⟨a', F', hL'⟩ := opN_some H
      exact absurd hjn (hL'.2 j (ready_mono hj hji))
    · subst hji; exact ⟨oi, hi, H⟩
  | succ k ih =>
    intro done a F hfree hr H
    refine ⟨first (k + 1) done a F hfree hr H, fun j hj hjn => ?_, fun _ => List.ne_nil_of_mem hr⟩
    rcases Nat.decEq j i with hji | hji
    rotate_left
    · subst hji; exact ⟨oi, hi, H⟩
    obtain ⟨hjun, oj, hoj, hall⟩ := mem_ready.1 hj
    have hno : ∀ e ∈ oj.after, Region.binds md e = true → e.on ≠ i := fun e he hb h => by
      have h1 := hall e he hb
      rw [h, getD_both (mem_ready.1 hr).1] at h1
      cases h1
    have hap := hfree j oj hoj hji hjun hno
    have hsj : ∀ cs b, oj.op ≠ .select cs b := fun cs b => sel j oj cs b hoj
    obtain ⟨p1, p2, p3⟩ := Oper.apart_spec hap
    refine ⟨oj, hoj, ?_⟩
    have next : ∀ a' F', opN P ops w0 Rs i oi a' F' (headN P md ops w0 Rs Q hd k ((done.setIfInBounds j true).setIfInBounds i true)) → headN P md ops w0 Rs Q hd (k + 1) (done.setIfInBounds j true) a' F' := fun a' F' h3 =>
      ih (done.setIfInBounds j true) a' F' (fun m om hm hmi hun hnm => hfree m om hm hmi (by
        rcases Nat.decEq j m with h | h
        · rwa [getD_set_ne true h] at hun
        · subst h; exact hjun) hnm) (ready_mono hr (Ne.symm hji)) h3
    have comm : (done.setIfInBounds i true).setIfInBounds j true = (done.setIfInBounds j true).setIfInBounds i true := Array.setIfInBounds_comm _ _ (fun e => hji e.symm)
    unfold opN at H
    split at H
    · rename_i hw
      cases hrl : relAt Rs i with
      | none =>
        simp only [hrl] at H
        obtain ⟨hp, v, hq, hk⟩ := H
        obtain ⟨oj', hoj', h2⟩ := hk.2.1 j (ready_mono hj hji) hjn
        rw [hoj] at hoj'; cases hoj'
        rw [comm] at h2
        refine opN_mono (fun a' F' h3 => next a' F' ?_) (opN_swap hap hsj h2)
        obtain ⟨⟨u, rfl⟩, h4⟩ := h3
        unfold opN
        rw [wanted_put oi a oj.dst u p3, if_pos hw]
        simp only [hrl]
        refine ⟨hp, v, fun w hw' => ?_, h4⟩
        have := hq w hw'
        unfold Oper.quietAt at *
        rwa [execOp_put oi hsi a oj.dst u p3]
      | some R =>
        simp only [hrl] at H
        have h2 : ∀ v, (∃ w, R v w) → disOk oi v F.vs → opN P ops w0 Rs j oj (a.put oi.dst v) (F.add oi R v) (headN P md ops w0 Rs Q hd k ((done.setIfInBounds j true).setIfInBounds i true)) := fun v hv hd => by
          obtain ⟨oj', hoj', h2⟩ := (H.2 v hv hd).2.1 j (ready_mono hj hji) hjn
          rw [hoj] at hoj'; cases hoj'
          rwa [comm] at h2
        refine opN_mono (fun a' F' h3 => next a' F' ?_) (opN_swapAll hap hsj (fun a F F' h h' => headN_weak _ _ a F F' h h') (nUpon_some H.1 F.vs) h2)
        obtain ⟨⟨u, rfl⟩, h4⟩ := h3
        unfold opN
        rw [wanted_put oi a oj.dst u p3, if_pos hw]
        simp only [hrl]
        refine ⟨fun w hw' => ?_, h4⟩
        rw [execOp_put oi hsi a oj.dst u p3]
        exact H.1 w hw'
    · rename_i hw
      obtain ⟨oj', hoj', h2⟩ := H.2.1 j (ready_mono hj hji) hjn
      rw [hoj] at hoj'; cases hoj'
      rw [comm] at h2
      refine opN_mono (fun a' F' h3 => next a' F' ?_) (opN_swap hap hsj h2)
      obtain ⟨⟨u, rfl⟩, h4⟩ := h3
      unfold opN
      rw [wanted_put oi a oj.dst u p3, if_neg hw]
      exact h4
/-- the walk in the text's order -/
def lexN (P : Program) (ops : Array Oper) (w0 : World) (Rs : Cfg) (Lq : Act → Kn → Prop) : List (Nat × Oper) → Act → Kn → Prop
  | [], a, F => Lq a F
  | (k, o) :: l, a, F => opN P ops w0 Rs k o a F (lexN P ops w0 Rs Lq l)
section
variable {Lq : Act → Kn → Prop} {k : Nat} {o : Oper} {l : List (Nat × Oper)} {a : Act} {F : Kn}
theorem lexN_nil (h : Lq a F) : lexN P ops w0 Rs Lq [] a F := h
theorem lexN_D (hf : Rs.fl.contains k = false) (hr : relAt Rs k = none) (hp : plainOp o.op = true) (hw : Region.wanted o (yielded ops a.tmps) = true) (h : ∀ K : Act → Prop, (∀ a, lexN P ops w0 Rs Lq l a F → K a) → o.quiet P a (fun w' => ∃ n : WB w0, w' = n.1) K) : lexN P ops w0 Rs Lq ((k, o) :: l) a F := by
  show opN P ops w0 Rs k o a F (lexN P ops w0 Rs Lq l)
  unfold opN
  rw [if_pos hw]
  simp only [hr]
  obtain ⟨v, h1, h2⟩ := h (fun a => lexN P ops w0 Rs Lq l a F) (fun _ h => h)
  exact ⟨hp, v, fun w hw' => h1 w (by rcases hw' with e | e; · rw [hf] at e; cases e
                                      · exact e), h2⟩
/-- an operation that may come late: whatever the world -/
theorem lexN_L (hr : relAt Rs k = none) (hp : plainOp o.op = true) (hw : Region.wanted o (yielded ops a.tmps) = true) (h : ∀ K : Act → Prop, (∀ a, lexN P ops w0 Rs Lq l a F → K a) → o.quiet P a (fun w' => ∃ n : World, w' = n) K) : lexN P ops w0 Rs Lq ((k, o) :: l) a F := by
  show opN P ops w0 Rs k o a F (lexN P ops w0 Rs Lq l)
  unfold opN
  rw [if_pos hw]
  simp only [hr]
  obtain ⟨v, h1, h2⟩ := h (fun a => lexN P ops w0 Rs Lq l a F) (fun _ h => h)
  refine ⟨hp, v, fun w _ => ?_, h2⟩
  have h3 := h1 w ⟨w, rfl⟩
  unfold Oper.quietAt at *
  cases hrun : (execOp a.eval o).run P w with
  | ok nx w'' =>
    obtain ⟨x, rfl⟩ := plain_val hp hrun
    rw [hrun] at h3
    exact h3
  | halt x w'' => rw [hrun] at h3; simp only [Oper.quietUpon] at h3
theorem lexN_skip (hw : Region.wanted o (yielded ops a.tmps) = false) (h : lexN P ops w0 Rs Lq l (a.put o.dst undef) F) : lexN P ops w0 Rs Lq ((k, o) :: l) a F := by
  show opN P ops w0 Rs k o a F (lexN P ops w0 Rs Lq l)
  unfold opN
  rw [if_neg (by rw [hw]; decide)]
  exact h
theorem lexN_N {R : Rel} (hr : relAt Rs k = some R) (hw : Region.wanted o (yielded ops a.tmps) = true) (h1 : ∀ nq : WB w0, nUpon P (allocB o.op) nq.1 R ((execOp a.eval o).run P nq.1)) (h2 : ∀ v, (∃ w, R v w) → disOk o v F.vs → lexN P ops w0 Rs Lq l (a.put o.dst v) (F.add o R v)) : lexN P ops w0 Rs Lq ((k, o) :: l) a F := by
  show opN P ops w0 Rs k o a F (lexN P ops w0 Rs Lq l)
  unfold opN
  rw [if_pos hw]
  simp only [hr]
  exact ⟨fun w ⟨nq, e⟩ => by subst e; exact h1 nq, h2⟩
end
/-- the tail goes one by one -/
def seqL (md : Region.Mode) (ops : Array Oper) : List Nat → Array Bool → Bool
  | [], done => (Region.ready md ops done).isEmpty
  | t :: ts, done => decide (Region.ready md ops done = [t]) && seqL md ops ts (done.setIfInBounds t true)
theorem wpAny_seqL {Q : Exit → Act → World → Prop} : ∀ (ts : List Nat) (T : List Oper) (done : Array Bool) (a : Act) (w : World), T.length = ts.length → (∀ (j t : Nat), ts[j]? = some t → ops[t]? = T[j]?) →
    seqL md ops ts done = true → wpList P ops Q T a w → wpAny P md ops Q ts.length done a w
  | [], T, _, _, _, hl, _, hB, h => by
    obtain rfl : T = [] := List.eq_nil_of_length_eq_zero hl
    exact ⟨by simpa [seqL] using hB, h⟩
  | t :: ts, [], _, _, _, hl, _, _, _ => by simp at hl
  | t :: ts, o :: T, done, a, w, hl, hT, hB, h => by
    have h0 : ops[t]? = some o := by simpa using hT 0 t rfl
    simp only [seqL, Bool.and_eq_true, decide_eq_true_eq] at hB
    refine ⟨fun h1 => (by rw [hB.1] at h1; cases h1), fun i hi => ?_⟩
    rw [hB.1] at hi
    have hik : i = t := by simpa using hi
    subst hik
    have hw : wpOp P ops Q i (wpList P ops Q T) a w := by unfold wpOp; simp only [h0]; exact h
    exact wpOp_mono (fun a' w' h' => wpAny_seqL ts T _ a' w' (by simpa using hl) (fun j t ht => by simpa using hT (j + 1) t (by simpa using ht)) hB.2 h') hw
/-- the head's order is one that may be; behind it the tail -/
def lexL (md : Region.Mode) (ops : Array Oper) (tl : List Nat) : List Nat → Array Bool → Bool
  | [], done => seqL md ops tl done
  | i :: hd, done => (Region.ready md ops done).contains i && Region.free md ops done i && lexL md ops tl hd (done.setIfInBounds i true)
theorem seqL_ready {tl : List Nat} {done : Array Bool} (h : seqL md ops tl done = true) : ∀ j ∈ Region.ready md ops done, j ∈ tl := by
  cases tl with
  | nil => intro j hj; simp only [seqL, List.isEmpty_iff] at h; rw [h] at hj; cases hj
  | cons t ts =>
    intro j hj
    simp only [seqL, Bool.and_eq_true, decide_eq_true_eq] at h
    rw [h.1] at hj
    have : j = t := by simpa using hj
    simp [this]
theorem headN_lex {Q : Exit → Act → World → Prop} {hd0 tl : List Nat} (hQ : ∀ c a d v w, Q (.panic c) (Act.put a d v) w → Q (.panic c) a w) (hfl : floatsB md ops Rs hd0 = true) (hsel : Region.noSelect ops = true) {T : List Oper} (hTl : T.length = tl.length) (hT : ∀ (j t : Nat), tl[j]? = some t → ops[t]? = T[j]?) (hdis : ∀ t ∈ tl, t ∉ hd0) :
    ∀ (hd : List Nat) (l : List (Nat × Oper)) (done : Array Bool) (a : Act) (F : Kn), l.map (·.1) = hd → (∀ x ∈ l, ops[x.1]? = some x.2) → (∀ h ∈ hd0, h ∈ hd ∨ done.getD h false = true) → (∀ h ∈ hd, h ∈ hd0) →
    lexL md ops tl hd done = true → lexN P ops w0 Rs (fun a' F' => ∀ w', CB w0 w' → F'.f w' → wpList P ops Q T a' w') l a F → headN P md ops w0 Rs Q hd0 (hd.length + tl.length) done a F := by
  intro hd
  induction hd with
  | nil =>
    intro l done a F hl _ hd' _ hB h
    obtain rfl : l = [] := List.map_eq_nil_iff.1 hl
    have hB' : seqL md ops tl done = true := by simpa [lexL] using hB
    have hany : ∀ w, CB w0 w → F.f w → wpAny P md ops Q tl.length done a w := fun w hw hF => wpAny_seqL tl T done a w hTl hT hB' (h w hw hF)
    have hlate : ∀ i, i ∈ Region.ready md ops done → i ∉ hd0 := fun i hi => hdis i (seqL_ready hB' i hi)
    have hall : allH md ops hd0 done = true := by
      unfold allH
      rw [List.all_eq_true]
      intro x hx
      rcases hd' x hx with h1 | h1
      · cases h1
      · rw [h1]; simp
    rw [List.length_nil, Nat.zero_add]
    generalize tl.length = g at hany
    cases g with
    | zero => exact ⟨hany, hlate⟩
    | succ g => exact ⟨fun _ => hany, fun i hi hin => absurd hin (hlate i hi), fun e => by rw [hall] at e; cases e⟩
  | cons k hd ih =>
    intro l done a F hl hop hd' hsub hB h
    obtain ⟨⟨k', o⟩, l, rfl⟩ : ∃ x l', l = x :: l' := by
      cases l with
      | nil => cases hl
      | cons x l' => exact ⟨x, l', rfl⟩
    simp only [List.map_cons, List.cons.injEq] at hl
    obtain ⟨rfl, hl⟩ := hl
    have h0 : ops[k']? = some o := hop (k', o) (by simp)
    simp only [lexL, Bool.and_eq_true] at hB
    have hr : k' ∈ Region.ready md ops done := by simpa using hB.1.1
    rw [List.length_cons, show hd.length + 1 + tl.length = (hd.length + tl.length) + 1 by omega]
    refine headN_take hQ hfl h0 hsel (hsub k' (by simp)) (hd.length + tl.length) done a F (Region.free_spec h0 hB.1.2) hr ?_
    refine opN_mono (fun a' F' h' => ?_) (show opN P ops w0 Rs k' o a F (lexN P ops w0 Rs _ l) from h)
    refine ih l _ _ _ hl (fun x hx => hop x (by simp [hx])) (fun x hx => ?_) (fun x hx => hsub x (by simp [hx])) hB.2 h'
    rcases hd' x hx with h1 | h1
    · rcases List.mem_cons.1 h1 with rfl | h1
      · right
        have hun := (mem_ready.1 hr).1
        rcases Nat.lt_or_ge x done.size with h' | h'
        · simp [h']
        · simp [Array.getElem?_eq_none h'] at hun
      · exact .inl h1
    · exact .inr (getD_set_true h1)
end
/-- Q, but False at a panic -/
def NoPan (Q : Exit → Act → World → Prop) : Exit → Act → World → Prop
  | .panic _, _, _ => False
  | e, a, w => Q e a w
theorem NoPan.normal {Q : Exit → Act → World → Prop} {a : Act} {w : World} (h : Q .normal a w) : NoPan Q .normal a w := h
theorem NoPan.imp {Q : Exit → Act → World → Prop} : ∀ (e : Exit) (a : Act) (w : World), NoPan Q e a w → Q e a w := fun e a w h => by
  cases e <;> first | exact h | exact (h : False).elim
/-- as wp_region_n, whatever the end says of a panic: the tail ends by NoPan.normal -/
theorem wp_region_np {P : Program} {id : Nat} {Q : Exit → Act → World → Prop} {a : Act} {w : World} {ops : Array Oper} {b : Bool} (h : (Code.region id ops b).wp P (NoPan Q) a w) : (Code.region id ops b).wp P Q a w := Code.wp_mono NoPan.imp h
/-- the operations at some places -/
def opsAt (l : List Oper) (hd : List Nat) : List (Nat × Oper) := hd.filterMap fun i => (l[i]?).map fun o => (i, o)
def opsOf (l : List Oper) (tl : List Nat) : List Oper := tl.filterMap fun i => l[i]?
theorem opsAt_map : ∀ (l : List Oper) (hd : List Nat), (∀ i ∈ hd, i < l.length) → (opsAt l hd).map (·.1) = hd
  | _, [], _ => rfl
  | l, i :: hd, h => by
    have hi := h i (by simp)
    unfold opsAt
    rw [List.filterMap_cons, List.getElem?_eq_getElem hi]
    simp only [Option.map_some, List.map_cons, List.cons.injEq, true_and]
    exact opsAt_map l hd fun j hj => h j (by simp [hj])
theorem opsAt_mem {l : List Oper} {hd : List Nat} : ∀ x ∈ opsAt l hd, l.toArray[x.1]? = some x.2 := fun x hx => by
  unfold opsAt at hx
  obtain ⟨i, _, h⟩ := List.mem_filterMap.1 hx
  obtain ⟨o, ho, rfl⟩ := Option.map_eq_some_iff.1 h
  simpa using ho
theorem opsOf_at : ∀ (l : List Oper) (tl : List Nat), (∀ i ∈ tl, i < l.length) → (opsOf l tl).length = tl.length ∧ ∀ (j t : Nat), tl[j]? = some t → l.toArray[t]? = (opsOf l tl)[j]?
  | _, [], _ => ⟨rfl, fun j t h => by simp at h⟩
  | l, i :: tl, h => by
    have hi := h i (by simp)
    obtain ⟨ih1, ih2⟩ := opsOf_at l tl fun j hj => h j (by simp [hj])
    have e : opsOf l (i :: tl) = l[i] :: opsOf l tl := by
      unfold opsOf
      rw [List.filterMap_cons, List.getElem?_eq_getElem hi]
    rw [e]
    refine ⟨by simp [ih1], fun j t ht => ?_⟩
    cases j with
    | zero => simp at ht; subst ht; simp [hi]
    | succ j => simpa using ih2 j t (by simpa using ht)
theorem wp_region_n {P : Program} {id : Nat} {Q : Exit → Act → World → Prop} {a : Act} {w : World} {l : List Oper} (hd tl : List Nat) (Rs : Cfg) (hm : P.follows .mixedOrders = true)
    (hB : (Region.noSelect l.toArray && decide (l.length = hd.length + tl.length) && hd.all (fun i => decide (i < l.length)) && tl.all (fun i => decide (i < l.length) && !hd.contains i) && lexL .any l.toArray tl hd (Array.replicate l.toArray.size false)) = true) (hfl : floatsB .any l.toArray Rs hd = true) (hQ : ∀ c a d v w, Q (.panic c) (Act.put a d v) w → Q (.panic c) a w)
    (hR : ∀ i R, relAt Rs i = some R → MonoR R) (w0 : World) (hw : Below w0.heap.size w0 w)
    (h : lexN P l.toArray w0 Rs (fun a' F => ∀ w', CB w0 w' → F.f w' → wpList P l.toArray Q (opsOf l tl) a' w') (opsAt l hd) a ⟨fun _ => True, []⟩) : (Code.region id l.toArray true).wp P Q a w := by
  simp only [Bool.and_eq_true, decide_eq_true_eq] at hB
  obtain ⟨⟨⟨⟨hsel, hlen⟩, hhd⟩, htl⟩, hlex⟩ := hB
  have hhd' : ∀ i ∈ hd, i < l.length := fun i hi => by simpa using List.all_eq_true.1 hhd i hi
  have htl' : ∀ i ∈ tl, i < l.length ∧ i ∉ hd := fun i hi => by simpa using List.all_eq_true.1 htl i hi
  obtain ⟨t1, t2⟩ := opsOf_at l tl fun i hi => (htl' i hi).1
  have H := headN_lex (md := .any) hQ hfl hsel t1 t2 (fun t ht => (htl' t ht).2) hd (opsAt l hd) _ a _ (opsAt_map l hd hhd') opsAt_mem (fun h hh => .inl hh) (fun h hh => hh) hlex h
  have H2 := headN_any (Q := Q) hR _ _ _ _ w.drew (fun _ _ h _ => h) ⟨⟨w.drew, hw.drew⟩, rfl⟩ trivial (fun u hu => by cases hu) H
  rw [← hlen] at H2
  exact wp_region_any hm (by simpa using H2)
/-- an alloc's relation -/
def alR (w0 : World) (z : Array Value) (t : TypeId) : Rel := fun v w => ∃ g, v = .pointer (some ⟨g, 0, none⟩) ∧ w0.heap.size ≤ g ∧ w.heap[g]? = some (.cells z t (0, 0))
theorem alR_mono (w0 : World) (z : Array Value) (t : TypeId) : MonoR (alR w0 z t) := fun v w w' ⟨g, h1, h2, h3⟩ hb => ⟨g, h1, h2, by rw [hb.block g (Array.getElem?_eq_some_iff.1 h3).1]; exact h3⟩
theorem alR_at {w0 w : World} {z : Array Value} {t : TypeId} {g : Nat} (h : alR w0 z t (.pointer (some ⟨g, 0, none⟩)) w) : w0.heap.size ≤ g ∧ w.heap[g]? = some (.cells z t (0, 0)) := by
  obtain ⟨g', e, h1, h2⟩ := h
  simp at e
  subst e
  exact ⟨h1, h2⟩
theorem alR_upon {P : Program} {w0 : World} {z : Array Value} {t : TypeId} {o : Oper} {a : Act} (ho : o.op = .alloc t) (hl : ∀ w : World, (Instr.alloc t true (.tuple #[])).run P w = .ok (.pointer (some ⟨w.heap.size, 0, none⟩)) (w.alloc (.cells z t))) (nq : WB w0) : nUpon P (allocB o.op) nq.1 (alR w0 z t) ((execOp a.eval o).run P nq.1) := by
  unfold execOp
  simp only [ho, Sem.run_bind, hl, Result.andThen, Sem.run_pure, nUpon]
  exact ⟨(Below.refl _ _).alloc (Nat.le_refl _) _, ⟨_, rfl, nq.2.size, Go.heap_alloc_new _ _⟩, fun _ => ⟨_, rfl, Nat.le_refl _, by rw [World.size_alloc]; omega⟩⟩
theorem monoR_nil {fl : List Nat} : ∀ i R, relAt ⟨[], fl⟩ i = some R → MonoR R := fun i R h => by simp [relAt] at h
theorem monoR_cons {j : Nat} {R0 : Rel} {Rs : List (Nat × Rel)} {fl : List Nat} (h0 : MonoR R0) (h : ∀ i R, relAt ⟨Rs, fl⟩ i = some R → MonoR R) : ∀ i R, relAt ⟨(j, R0) :: Rs, fl⟩ i = some R → MonoR R := fun i R hr => by
  unfold relAt at hr
  rw [List.find?_cons] at hr
  split at hr
  · simp only [Option.map_some, Option.some.injEq] at hr; exact hr ▸ h0
  · exact h i R hr
attribute [go_sem] nUpon
end Go.Proofs.Ytndekogkfbhabaa
