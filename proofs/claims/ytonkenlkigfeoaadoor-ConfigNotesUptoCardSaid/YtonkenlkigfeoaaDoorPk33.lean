/- A configuration that config.Parse has made so far, in memory: rows of the call's own. No conditions. -/
import Derived.Test.YtonkenlkigfeoaaDoorPk29
import Derived.Test.YtonkenlkigfeoaaDoorPk13
import Derived.Test.YtonkenlkigfeoaaDoorPk26
import Derived.Test.YtonkenlkigfeoaaDoorPk31
namespace Go.Proofs.YtonkenlkigfeoaaDoor
open Go.RowKit
section
variable {P : Program} {ops : Array Oper} {md : Region.Mode} {C : World → Prop} {Q : Exit → Act → World → Prop} {u : Nat}
theorem wpAnyU_firstP {i : Nat} {oi : Oper} {v : Value} (hi : ops[i]? = some oi) (hui : i ≠ u) (hsel : ∀ (j : Nat) (o : Oper) cs b, ops[j]? = some o → o.op ≠ .select cs b)
   (hQ : ∀ c a w, Q (.panic c) (a.put oi.dst v) w → Q (.panic c) a w) :
   ∀ (fuel : Nat) (listed : Array Bool) (a : Act) (w : World),
     (∀ j oj, ops[j]? = some oj → j ≠ i → listed.getD j true = false → (∀ e ∈ oj.after, Region.binds md e = true → e.on ≠ i) → oi.apart ops oj = true) →
     i ∈ Region.ready md ops listed → YieldsK P ops (fun _ => True) oi v a →
     wpAnyU P md ops C u Q fuel (listed.setIfInBounds i true) (a.put oi.dst v) w → wpAnyU P md ops C u Q (fuel + 1) listed a w := by
 intro fuel
 induction fuel with
 | zero =>
   intro listed a w _ hr hy H; refine ⟨fun hun => H.cls (by rw [getD_set_ne false hui]; exact hun), fun h => (by rw [h] at hr; cases hr), fun j hj => ?_⟩
   by_cases hji : j = i
   · subst hji; exact hy.wpOp hi trivial H
   · have := ready_mono hj hji; rw [H.2.1] at this
     cases this
 | succ fuel ih =>
   intro listed a w hfree hr hy H; refine ⟨fun hun => H.cls (by rw [getD_set_ne false hui]; exact hun), fun h => (by rw [h] at hr; cases hr), fun j hj => ?_⟩
   by_cases hji : j = i
   · subst hji; exact hy.wpOp hi trivial H
   · have h1 := H.2.2 j (ready_mono hj hji); obtain ⟨hjun, oj, hoj, hall⟩ := mem_ready.1 hj; have hnot : ∀ e ∈ oj.after, Region.binds md e = true → e.on ≠ i := fun e he hb heq => by
       have h1 := hall e he hb; have h0 := (mem_ready.1 hr).1; rw [heq] at h1
       rcases Nat.lt_or_ge i listed.size with h' | h'
       · simp [h'] at h0 h1; rw [h0] at h1; cases h1
       · simp [Array.getElem?_eq_none h'] at h1
     have h2 := wpOp_putK hoj (hfree j oj hoj hji hjun hnot) (fun cs b => hsel i oi cs b hi) (fun cs b => hsel j oj cs b hoj) hQ hy h1; have hfree' : ∀ k ok, ops[k]? = some ok → k ≠ i → (listed.setIfInBounds j true).getD k true = false →
         (∀ e ∈ ok.after, Region.binds md e = true → e.on ≠ i) → oi.apart ops ok = true := fun k ok hk hki hun hno => by
       refine hfree k ok hk hki ?_ hno
       by_cases hjk : j = k
       · subst hjk; exact hjun
       · rw [getD_set_ne true hjk] at hun; exact hun
     refine wpOp_mono (fun a' w' h3 => ih (listed.setIfInBounds j true) a' w' hfree' (ready_mono hr (Ne.symm hji)) h3.1 ?_) h2; rw [Array.setIfInBounds_comm _ _ hji]; exact h3.2
theorem wpAnyU_takeP {i : Nat} {oi : Oper} {v : Value} {fuel : Nat} {listed : Array Bool} {a a' : Act} {w : World} (hi : ops[i]? = some oi) (hui : i ≠ u)
   (hs : Region.noSelect ops = true) (hf : Region.free md ops listed i = true) (hr : (Region.ready md ops listed).contains i = true)
   (hQ : ∀ c a w, Q (.panic c) (a.put oi.dst v) w → Q (.panic c) a w) (hy : YieldsK P ops (fun _ => True) oi v a) (ha : a.put oi.dst v = a')
   (h : wpAnyU P md ops C u Q fuel (listed.setIfInBounds i true) a' w) : wpAnyU P md ops C u Q (fuel + 1) listed a w := by
 subst ha; exact wpAnyU_firstP hi hui (Region.noSelect_spec hs) hQ fuel listed a w (Region.free_spec hi hf) (by simpa using hr) hy h
theorem tkP (i : Nat) {oi : Oper} {v : Value} {fuel : Nat} {listed : Array Bool} {a a' : Act} {w : World} (hi : ops[i]? = some oi)
   (h : wpAnyU P md ops C u Q fuel (listed.setIfInBounds i true) a' w) (hui : i ≠ u := by decide) (hs : Region.noSelect ops = true := by kernel_rfl) (hf : Region.free md ops listed i = true := by kernel_rfl) (hr : (Region.ready md ops listed).contains i = true := by kernel_rfl)
   (hQ : ∀ c a w, Q (.panic c) (a.put oi.dst v) w → Q (.panic c) a w := by exact fun _ _ _ h => h) (hy : YieldsK P ops (fun _ => True) oi v a := by exact Or.inl ⟨by rfl, fun w _ => by (go_simp; first | exact ⟨rfl, rfl⟩ | rfl)⟩) (ha : a.put oi.dst v = a' := by go_simp <;> with_reducible rfl) : wpAnyU P md ops C u Q (fuel + 1) listed a w := wpAnyU_takeP hi hui hs hf hr hQ hy ha h
end
theorem genUv {P : Program} {md : Region.Mode} {ops : Array Oper} {C : World → Prop} {u : Nat} {Q : Exit → Act → World → Prop} {fuel : Nat} {listed : Array Bool} {a : Act} {w : World} (F : World → Prop) (hF : F w) (h : ∀ w', F w' → wpAnyU P md ops C u Q fuel listed a w') : wpAnyU P md ops C u Q fuel listed a w := h w hF
/-- an append of a whole row; where the row lies behind it -/
theorem app_rowD {α : Type} {f : α → List Value} {sz B : Nat} {e : TypeId} {P : Program} {w : World} {v : Value} {l0 l1 : List α} {o : Oper} {a : Act} {K : Act → World → Prop} {Q : Exit → Act → World → Prop} {t : TypeId} {z : Value} (bytes : Nat)
   (hf : ∀ y, (f y).length = sz) (ho : ∀ y, y ∈ l1 → ∀ u ∈ f y, u.oneCell' = true) (h1 : P.underlying t = some (.slice e)) (h2 : (P.info? e).map (fun i => (i.zero, i.size, i.bytes)) = some (some z, sz, bytes)) (hzs : z.cells.size = sz)
   (s x' : Operand) (hop : o.op = Op.call { callee := Callee.builtin Builtin.append, args := #[s, x'], argTypes := #[t, t] }) (hs : a.eval s = v) (hx : RowOf f sz w (a.eval x') l1)
   (hown : OwnR f sz B e w v l0) (hB : B ≤ w.heap.size) (hbig : (l0.length + l1.length) * bytes ≤ 140737488355328) (h63 : l0.length + l1.length ≤ maxLen)
   (hK : ∀ v' w', OwnR f sz B e w' v' (l0 ++ l1) → w.grownBy w' v.ownBlock → (v'.ownBlock = v.ownBlock ∨ ∃ g, v'.ownBlock = some g ∧ w.heap.size ≤ g) → K (a.put o.dst v') w') : o.wp P a w K Q := by
 obtain ⟨i, hi, hz0, hz1, hz2⟩ := info_parts h2; have hfl := flatMap_lenA hf l1; obtain ⟨ad, cap, hxe, _, _, _, hc⟩ := hx; have hlen : (Builtin.lenOf (a.eval x')).run P w = .ok l1.length w := by rw [hxe]; exact lenOf_slice
 have hfc : ∀ k : Nat, (Builtin.firstCells sz l1.length (a.eval x')).run P (w.drewN k) = .ok (l1.flatMap f).toArray (w.drewN k) := fun k => by
   rw [hxe]
   rcases hc with h0 | ⟨b, off, rfl, _, hc⟩
   · have : l1 = [] := List.eq_nil_of_length_eq_zero h0; subst this
     cases ad with
     | none => exact firstCells_none k
     | some ad => exact firstCells_at (news := []) (by simp) (fun j u hj => by simp at hj) k
   · refine firstCells_at hfl (fun j u hj => ?_) k; have hj' : j < (l1.flatMap f).length := (List.getElem?_eq_some_iff.1 hj).1; rw [Addr.add_lit, hc j (by omega)]; exact hj
 have h1c : ∀ u ∈ l1.flatMap f, u.oneCell' = true := fun u hu => by
   obtain ⟨y, hm, hy⟩ := List.mem_flatMap.1 hu; exact ho y hm u hy
 obtain ⟨v', w', hrun, r1, r2, r3⟩ := run_append_D (P := P) w B t t o.type e i z sz bytes h1 (.inl h1) hi hz0 hz1 hz2 hzs v l0.length (l0.flatMap f) hown (a.eval x') l1.length (l1.flatMap f) hlen hfc hfl h1c hbig h63 hB; unfold Oper.wp
 simp [execOp, hop, resolve, invoke, builtin, hs, hrun, Result.andThen]
 refine hK _ _ ?_ r2 r3; unfold OwnR; rw [List.length_append, List.flatMap_append]; exact r1
/-- a tree whose rows lie from tb on, ahead of tc -/
inductive ReS (tb tc : Nat) (w : World) : RN → Re → Prop where
 | mk (r : RN) (kids : List Re) (rs : List RN) (hI : I64 r.k ∧ I64 r.mn ∧ I64 r.mx) (hk : kids.length ≤ 140737488351232) (hrow : RowOf reC 8 w r.v rs) (hb : rs.length = 0 ∨ ∃ b off n cap, r.v = .slice (some ⟨b, off, none⟩) n cap ∧ tb ≤ b ∧ b < tc) (hl : rs.length = kids.length)
     (hs : ∀ (i : Nat) (r' : RN) (t : Re), rs[i]? = some r' → kids[i]? = some t → ReS tb tc w r' t) : ReS tb tc w r (.mk r.k r.s r.mn r.mx kids)
section
variable {tb tc B p : Nat} {w w' : World} {r : RN} {t : Re}
theorem RowOf.keepS {rs : List RN} {v : Value} (h : RowOf reC 8 w v rs) (hb : rs.length = 0 ∨ ∃ b off n cap, v = .slice (some ⟨b, off, none⟩) n cap ∧ tb ≤ b ∧ b < tc) (hK : ∀ k, tb ≤ k → k < tc → w'.heap[k]? = w.heap[k]?) (hz : w.heap.size ≤ w'.heap.size) : RowOf reC 8 w' v rs := by
 obtain ⟨a, cap, rfl, h1, h2, h3, h4⟩ := h; refine ⟨a, cap, rfl, h1, h2, h3, ?_⟩
 rcases h4 with h4 | ⟨b, off, rfl, hlt, hc⟩
 · exact .inl h4
 · rcases hb with hb | ⟨b', off', n', cap', he, hB, hp⟩
   · exact .inl hb
   · simp only [Value.slice.injEq, Option.some.injEq, Addr.mk.injEq] at he; obtain ⟨⟨rfl, rfl, _⟩, _, _⟩ := he; exact .inr ⟨b, off, rfl, by omega, fun i hi => by rw [World.cell?_of_block (w := w) (hK b hB hp)]; exact hc i hi⟩
theorem ReS.keep (h : ReS tb tc w r t) (hK : ∀ k, tb ≤ k → k < tc → w'.heap[k]? = w.heap[k]?) (hz : w.heap.size ≤ w'.heap.size) : ReS tb tc w' r t := by
 induction h with
 | mk r kids rs hI hk hrow hb hl hs ih => exact .mk r kids rs hI hk (hrow.keepS hb hK hz) hb hl ih
theorem ReS.of (h : ReX B p w r t) : ReS B w.heap.size w r t := by
 induction h with
 | mk r kids rs hI hk hrow hb hl hs ih =>
   refine .mk r kids rs hI hk hrow ?_ hl ih
   rcases hb with hb | ⟨b, off, n, cap, e, h1, _⟩
   · exact .inl hb
   · rcases Nat.eq_zero_or_pos rs.length with h0 | h0
     · exact .inl h0
     refine .inr ⟨b, off, n, cap, e, h1, ?_⟩; obtain ⟨a, cap', hv, _, _, _, h4⟩ := hrow
     rcases h4 with h4 | ⟨b2, off2, rfl, hlt, _⟩
     · omega
     · rw [e] at hv; simp only [Value.slice.injEq, Option.some.injEq, Addr.mk.injEq] at hv; have := hv.1.1; omega
theorem ReS.at' (h : ReS tb tc w r t) : ∃ n, ReAt w n r t := by
 induction h with
 | mk r kids rs hI hk hrow hb hl hs ih =>
   obtain ⟨n, hn⟩ := many_levels (w := w) (rs := rs) (ts := kids) rs.length fun i r t hi hr ht => ih i r t hr ht
   exact ⟨n + 1, ⟨rfl, rfl, rfl, rfl⟩, hI, hk, rs, hrow, hl, fun i r' t hr ht => hn i r' t (List.getElem?_eq_some_iff.1 hr).1 hr ht⟩
theorem ReS.zero (tb tc : Nat) (w : World) : ReS tb tc w reZ (.mk 0 (0, 0, 0, 0) 0 0 []) :=
 .mk reZ [] [] ⟨by show I64 0; unfold I64; omega, by show I64 0; unfold I64; omega, by show I64 0; unfold I64; omega⟩ (Nat.zero_le _) ⟨none, 0, rfl, Nat.le_refl _, Nat.zero_le _, rfl, .inl rfl⟩ (.inl rfl) rfl fun i r t h => by simp at h
theorem ReS.one (h : ReS tb tc w r t) : r.v.oneCell' = true := by
 cases h with
 | mk _ kids rs hI hk hrow hb hl hs => exact hrow.one
end
/-- a row of the call's own, not among the tree's rows -/
def OX {α : Type} (f : α → List Value) (sz B tb tc : Nat) (e : TypeId) (w : World) (v : Value) (l : List α) : Prop := OwnR f sz B e w v l ∧ ∀ k, v.ownBlock = some k → k < tb ∨ tc ≤ k
theorem apart_type {α β : Type} {f1 : α → List Value} {f2 : β → List Value} {s1 s2 B : Nat} {e1 e2 : TypeId} {w : World} {u v : Value} {l1 : List α} {l2 : List β} (h1 : OwnR f1 s1 B e1 w u l1) (h2 : OwnR f2 s2 B e2 w v l2) (he : e1 ≠ e2) : ∀ k, u.ownBlock = some k → v.ownBlock ≠ some k := fun k hk hv => by
 obtain ⟨cs, fz, a⟩ := h1.typed hk; obtain ⟨cs', fz', b⟩ := h2.typed hv; rw [a] at b
 simp at b
 exact he b.2.1
section
variable {α : Type} {f : α → List Value} {sz B tb tc : Nat} {e : TypeId} {w w' : World} {v : Value} {l : List α} {r : Option Nat}
theorem OX.grown (h : OX f sz B tb tc e w v l) (hg : w.grownBy w' r) (hne : ∀ k, v.ownBlock = some k → r ≠ some k) : OX f sz B tb tc e w' v l :=
 ⟨h.1.other fun k hk => hg.block k (h.1.below hk).2 (fun e => hne k hk e.symm), h.2⟩
theorem OX.keep (h : OX f sz B tb tc e w v l) (hK : ∀ k, B ≤ k → k < w.heap.size → w'.heap[k]? = w.heap[k]?) : OX f sz B tb tc e w' v l :=
 ⟨h.1.other fun k hk => hK k (h.1.below hk).1 (h.1.below hk).2, h.2⟩
theorem OX.new {l' : List α} {v' : Value} (h : OX f sz B tb tc e w v l) (ho : OwnR f sz B e w' v' l') (hr : v'.ownBlock = v.ownBlock ∨ ∃ g, v'.ownBlock = some g ∧ w.heap.size ≤ g) (hz : tc ≤ w.heap.size) : OX f sz B tb tc e w' v' l' :=
 ⟨ho, fun k hk => by
   rcases hr with q | ⟨g, q, hge⟩
   · exact h.2 k (q ▸ hk)
   · rw [q] at hk
     exact .inr (by rw [← Option.some.inj hk]; omega)⟩
end
/-- what has been read lies so -/
structure StX (B tb tc : Nat) (vs : List Value) (w : World) (V : CV) (st : CS) : Prop where
 sz : B ≤ w.heap.size
 hc : tc ≤ w.heap.size
 hb : B ≤ tb
 p : OX oneC 1 B tb tc 58 w V.p vs
 pl : vs.length = st.c.ps.length
 pr : ∀ (i : Nat) u l, vs[i]? = some u → st.c.ps[i]? = some l → OX ruC 2 B tb tc 60 w u l
 pd : ∀ (i j : Nat) u v, vs[i]? = some u → vs[j]? = some v → i ≠ j → ∀ k, u.ownBlock = some k → v.ownBlock ≠ some k
 m : OX mgC 2 B tb tc 62 w V.m st.c.ms
 n : OX strC 1 B tb tc 9 w V.n st.c.ns
 b : OX intC 1 B tb tc 3 w V.b st.c.bf
 a : OX intC 1 B tb tc 3 w V.a st.c.af
 ab : ∀ k, V.b.ownBlock = some k → V.a.ownBlock ≠ some k
 re : ReS tb tc w V.r st.c.re
 sp : V.sp = st.split
 kv : KvAt w V.mp st.ids
 mp : V.mp < B
/-- how the world has gone on: blocks ahead of B but g and m stand -/
structure Mid (B g m : Nat) (w w' : World) : Prop where
 os : w'.os = w.os
 tape : w'.tape = w.tape
 output : w'.output = w.output
 size : w.heap.size ≤ w'.heap.size
 block : ∀ k, k < B → k ≠ g → k ≠ m → w'.heap[k]? = w.heap[k]?
section
variable {B g m : Nat} {w w' w'' : World}
theorem Mid.refl (B g m : Nat) (w : World) : Mid B g m w w := ⟨rfl, rfl, rfl, Nat.le_refl _, fun _ _ _ _ => rfl⟩
theorem Mid.trans (h : Mid B g m w w') (h' : Mid B g m w' w'') : Mid B g m w w'' :=
 ⟨h'.os.trans h.os, h'.tape.trans h.tape, h'.output.trans h.output, Nat.le_trans h.size h'.size, fun k h1 h2 h3 => (h'.block k h1 h2 h3).trans (h.block k h1 h2 h3)⟩
theorem Mid.els (h : Else g w w') (hB : B ≤ w.heap.size) : Mid B g m w w' := ⟨h.os, h.tape, h.output, h.size, fun k h1 h2 _ => h.block k (by omega) h2⟩
theorem Mid.below {C : Nat} (h : Below C w w') (hB : B ≤ C) : Mid B g m w w' := ⟨h.os, h.tape, h.output, h.size, fun k h1 _ _ => h.block k (by omega)⟩
theorem Mid.grown {r : Option Nat} (h : w.grownBy w' r) (hB : B ≤ w.heap.size) (hr : ∀ k, r = some k → B ≤ k) : Mid B g m w w' :=
 ⟨h.os, h.tape, h.output, h.size, fun k h1 _ _ => h.block k (by omega) (fun e => by have := hr k e.symm; omega)⟩
theorem Mid.cell {o : Nat} {u : Value} {q : Nat} (h : Mid B g m w w') (hq : q = g ∨ q = m ∨ B ≤ q) : Mid B g m w (w'.setCell ⟨q, o, none⟩ u) :=
 ⟨h.os, h.tape, h.output, by have := h.size; simpa [World.setCell] using this, fun k h1 h2 h3 => by
   rw [show (w'.setCell ⟨q, o, none⟩ u).heap[k]? = w'.heap[k]? from Below.heap_setCell _ _ _ _ (by dsimp only; omega)]; exact h.block k h1 h2 h3⟩
end
section
variable {B tb tc g : Nat} {vs : List Value} {w w' : World} {V : CV} {st : CS} {r : Option Nat} {v' : Value}
theorem StX.keep (h : StX B tb tc vs w V st) (hK : ∀ k, B ≤ k → k < w.heap.size → w'.heap[k]? = w.heap[k]?) (hz : w.heap.size ≤ w'.heap.size) (hm : KvAt w' V.mp st.ids) : StX B tb tc vs w' V st :=
 ⟨Nat.le_trans h.sz hz, Nat.le_trans h.hc hz, h.hb, h.p.keep hK, h.pl, fun i u l hu hl => (h.pr i u l hu hl).keep hK, h.pd, h.m.keep hK, h.n.keep hK, h.b.keep hK, h.a.keep hK, h.ab, h.re.keep (fun k h1 h2 => hK k (by have := h.hb; omega) (by have := h.hc; omega)) hz, h.sp, hm, h.mp⟩
theorem StX.els (h : StX B tb tc vs w V st) (he : Else g w w') (hg : g < B) (hm : V.mp ≠ g) : StX B tb tc vs w' V st :=
 h.keep (fun k hB hk => he.block k hk (by omega)) he.size (by unfold KvAt; rw [he.block _ h.kv.lt hm]; exact h.kv)
theorem StX.below (h : StX B tb tc vs w V st) (hb : Below w.heap.size w w') : StX B tb tc vs w' V st :=
 h.keep (fun k _ hk => hb.block k hk) hb.size (h.kv.keep hb)
theorem StX.reg (h : StX B tb tc vs w V st) (hg : w.grownBy w' r) (hr : ∀ k, r = some k → k < tb ∨ tc ≤ k) : ReS tb tc w' V.r st.c.re :=
 h.re.keep (fun k h1 h2 => hg.block k (by have := h.hc; omega) (fun e => by have := hr k e.symm; omega)) hg.size
theorem StX.kvg (h : StX B tb tc vs w V st) (hg : w.grownBy w' r) (hr : ∀ k, r = some k → B ≤ k) : KvAt w' V.mp st.ids := by
 unfold KvAt; rw [hg.block _ h.kv.lt (fun e => by have := hr _ e.symm; have := h.mp; omega)]; exact h.kv
/-- a name more -/
theorem StX.app_n (h : StX B tb tc vs w V st) {x : List UInt8} (ho : OwnR strC 1 B 9 w' v' (st.c.ns ++ [x])) (hg : w.grownBy w' V.n.ownBlock) (hr : v'.ownBlock = V.n.ownBlock ∨ ∃ g, v'.ownBlock = some g ∧ w.heap.size ≤ g) :
   StX B tb tc vs w' { V with n := v' } { st with c := { st.c with ns := st.c.ns ++ [x] } } :=
 ⟨Nat.le_trans h.sz hg.size, Nat.le_trans h.hc hg.size, h.hb, h.p.grown hg (apart_type h.p.1 h.n.1 (by decide)), h.pl, fun i u l hu hl => (h.pr i u l hu hl).grown hg (apart_type (h.pr i u l hu hl).1 h.n.1 (by decide)), h.pd, h.m.grown hg (apart_type h.m.1 h.n.1 (by decide)), h.n.new ho hr h.hc, h.b.grown hg (apart_type h.b.1 h.n.1 (by decide)), h.a.grown hg (apart_type h.a.1 h.n.1 (by decide)), h.ab, h.reg hg h.n.2, h.sp, h.kvg hg fun k hk => (h.n.1.below hk).1, h.mp⟩
/-- a merge more -/
theorem StX.app_m (h : StX B tb tc vs w V st) {x : Int × Int} (ho : OwnR mgC 2 B 62 w' v' (st.c.ms ++ [x])) (hg : w.grownBy w' V.m.ownBlock) (hr : v'.ownBlock = V.m.ownBlock ∨ ∃ g, v'.ownBlock = some g ∧ w.heap.size ≤ g) :
   StX B tb tc vs w' { V with m := v' } { st with c := { st.c with ms := st.c.ms ++ [x] } } :=
 ⟨Nat.le_trans h.sz hg.size, Nat.le_trans h.hc hg.size, h.hb, h.p.grown hg (apart_type h.p.1 h.m.1 (by decide)), h.pl, fun i u l hu hl => (h.pr i u l hu hl).grown hg (apart_type (h.pr i u l hu hl).1 h.m.1 (by decide)), h.pd, h.m.new ho hr h.hc, h.n.grown hg (apart_type h.n.1 h.m.1 (by decide)), h.b.grown hg (apart_type h.b.1 h.m.1 (by decide)), h.a.grown hg (apart_type h.a.1 h.m.1 (by decide)), h.ab, h.reg hg h.m.2, h.sp, h.kvg hg fun k hk => (h.m.1.below hk).1, h.mp⟩
/-- an id ahead more -/
theorem StX.app_b (h : StX B tb tc vs w V st) {x : Int} (ho : OwnR intC 1 B 3 w' v' (st.c.bf ++ [x])) (hg : w.grownBy w' V.b.ownBlock) (hr : v'.ownBlock = V.b.ownBlock ∨ ∃ g, v'.ownBlock = some g ∧ w.heap.size ≤ g) :
   StX B tb tc vs w' { V with b := v' } { st with c := { st.c with bf := st.c.bf ++ [x] } } :=
 ⟨Nat.le_trans h.sz hg.size, Nat.le_trans h.hc hg.size, h.hb, h.p.grown hg (apart_type h.p.1 h.b.1 (by decide)), h.pl, fun i u l hu hl => (h.pr i u l hu hl).grown hg (apart_type (h.pr i u l hu hl).1 h.b.1 (by decide)), h.pd, h.m.grown hg (apart_type h.m.1 h.b.1 (by decide)), h.n.grown hg (apart_type h.n.1 h.b.1 (by decide)), h.b.new ho hr h.hc, h.a.grown hg (fun k hk e => h.ab k e hk), (fun k hk => by
     rcases hr with q | ⟨g', q, hge⟩
     · exact h.ab k (q ▸ hk)
     · intro e; rw [q] at hk; have := (h.a.1.below e).2; have := Option.some.inj hk
       omega), h.reg hg h.b.2, h.sp, h.kvg hg fun k hk => (h.b.1.below hk).1, h.mp⟩
/-- an id behind more -/
theorem StX.app_a (h : StX B tb tc vs w V st) {x : Int} (ho : OwnR intC 1 B 3 w' v' (st.c.af ++ [x])) (hg : w.grownBy w' V.a.ownBlock) (hr : v'.ownBlock = V.a.ownBlock ∨ ∃ g, v'.ownBlock = some g ∧ w.heap.size ≤ g) :
   StX B tb tc vs w' { V with a := v' } { st with c := { st.c with af := st.c.af ++ [x] } } :=
 ⟨Nat.le_trans h.sz hg.size, Nat.le_trans h.hc hg.size, h.hb, h.p.grown hg (apart_type h.p.1 h.a.1 (by decide)), h.pl, fun i u l hu hl => (h.pr i u l hu hl).grown hg (apart_type (h.pr i u l hu hl).1 h.a.1 (by decide)), h.pd, h.m.grown hg (apart_type h.m.1 h.a.1 (by decide)), h.n.grown hg (apart_type h.n.1 h.a.1 (by decide)), h.b.grown hg (fun k hk e => h.ab k hk e), h.a.new ho hr h.hc, (fun k hk => by
     rcases hr with q | ⟨g', q, hge⟩
     · rw [q]; exact h.ab k hk
     · intro e; rw [q] at e; have := (h.b.1.below hk).2; have := Option.some.inj e
       omega), h.reg hg h.a.2, h.sp, h.kvg hg fun k hk => (h.a.1.below hk).1, h.mp⟩
/-- a pass more -/
theorem StX.app_p (h : StX B tb tc vs w V st) (ho : OwnR oneC 1 B 58 w' v' (vs ++ [.slice none 0 0])) (hg : w.grownBy w' V.p.ownBlock) (hr : v'.ownBlock = V.p.ownBlock ∨ ∃ g, v'.ownBlock = some g ∧ w.heap.size ≤ g) :
   StX B tb tc (vs ++ [.slice none 0 0]) w' { V with p := v' } { st with c := { st.c with ps := st.c.ps ++ [[]] } } := by
 have hpl := h.pl; refine ⟨Nat.le_trans h.sz hg.size, Nat.le_trans h.hc hg.size, h.hb, h.p.new ho hr h.hc, by simp [hpl], fun i u l hu hl => ?_, fun i j u v hu hv hij k hk => ?_, h.m.grown hg (apart_type h.m.1 h.p.1 (by decide)), h.n.grown hg (apart_type h.n.1 h.p.1 (by decide)), h.b.grown hg (apart_type h.b.1 h.p.1 (by decide)), h.a.grown hg (apart_type h.a.1 h.p.1 (by decide)), h.ab, h.reg hg h.p.2, h.sp, h.kvg hg fun k hk => (h.p.1.below hk).1, h.mp⟩
 · dsimp only at hl
   by_cases hi : i < vs.length
   · rw [List.getElem?_append_left hi] at hu; rw [List.getElem?_append_left (by omega)] at hl; exact (h.pr i u l hu hl).grown hg (apart_type (h.pr i u l hu hl).1 h.p.1 (by decide))
   · have h1 := (List.getElem?_eq_some_iff.1 hu).1; rw [List.length_append, List.length_cons, List.length_nil] at h1; obtain rfl : i = vs.length := by omega
     rw [List.getElem?_append_right (Nat.le_refl _), Nat.sub_self] at hu; rw [hpl, List.getElem?_append_right (Nat.le_refl _), Nat.sub_self] at hl; simp only [List.getElem?_cons_zero, Option.some.injEq] at hu hl; subst hu hl; exact ⟨OwnR.nil, fun k hk => by simp [Value.ownBlock] at hk⟩
 · by_cases hi : i < vs.length
   · rw [List.getElem?_append_left hi] at hu
     by_cases hj : j < vs.length
     · rw [List.getElem?_append_left hj] at hv; exact h.pd i j u v hu hv hij k hk
     · have h1 := (List.getElem?_eq_some_iff.1 hv).1; rw [List.length_append, List.length_cons, List.length_nil] at h1; obtain rfl : j = vs.length := by omega
       rw [List.getElem?_append_right (Nat.le_refl _), Nat.sub_self] at hv; simp only [List.getElem?_cons_zero, Option.some.injEq] at hv; subst hv
       simp [Value.ownBlock]
   · have h1 := (List.getElem?_eq_some_iff.1 hu).1; rw [List.length_append, List.length_cons, List.length_nil] at h1; obtain rfl : i = vs.length := by omega
     rw [List.getElem?_append_right (Nat.le_refl _), Nat.sub_self] at hu; simp only [List.getElem?_cons_zero, Option.some.injEq] at hu; subst hu
     simp [Value.ownBlock] at hk
theorem one_set (l : List Value) (i : Nat) (u : Value) : (l.flatMap oneC).set i u = (l.set i u).flatMap oneC := by
 have e : ∀ l : List Value, l.flatMap oneC = l := fun l => by
   induction l with
   | nil => rfl
   | cons a l ih => rw [List.flatMap_cons, ih]; rfl
 rw [e, e]
theorem own_setOne {e : TypeId} {q cap : Nat} {l : List Value} (h : OwnR oneC 1 B e w (.slice (some ⟨q, 0, none⟩) l.length cap) l) (i : Nat) (u : Value) : OwnR oneC 1 B e (w.setCell ⟨q, i, none⟩ u) (.slice (some ⟨q, 0, none⟩) l.length cap) (l.set i u) := by
 unfold OwnR at h ⊢; rw [List.length_set, ← one_set]; exact OwnC.store h i u
/-- a rule more, in the last pass -/
theorem StX.app_rule (h : StX B tb tc vs w V st) {n q cap : Nat} {u v' : Value} {l : List RuleP} {x : RuleP} (hn : st.c.ps.length = n + 1) (hu : vs[n]? = some u) (hl : st.c.ps[n]? = some l) (hp : V.p = .slice (some ⟨q, 0, none⟩) vs.length cap)
   (ho : OwnR ruC 2 B 60 w' v' (l ++ [x])) (hg : w.grownBy w' u.ownBlock) (hr : v'.ownBlock = u.ownBlock ∨ ∃ g, v'.ownBlock = some g ∧ w.heap.size ≤ g) :
   StX B tb tc (vs.set n v') (w'.setCell ⟨q, n, none⟩ v') V { st with c := { st.c with ps := st.c.ps.take n ++ [l ++ [x]] } } := by
 have hpl := h.pl; have hU := h.pr n u l hu hl; have hP := h.p.grown hg (apart_type h.p.1 hU.1 (by decide)); have hpo := hP.1; rw [hp] at hpo; have hown : V.p.ownBlock = some q := by rw [hp]; rfl
 have hqb := (hpo.below (g := q) rfl); have hset : ∀ k, k ≠ q → (w'.setCell ⟨q, n, none⟩ v').heap[k]? = w'.heap[k]? := fun k hk => Below.heap_setCell _ _ _ _ (by dsimp only; omega)
 have hsz : (w'.setCell ⟨q, n, none⟩ v').heap.size = w'.heap.size := by simp [World.setCell]
 have put : ∀ {α : Type} {f : α → List Value} {s : Nat} {e : TypeId} {v : Value} {l : List α}, OX f s B tb tc e w' v l → (∀ k, v.ownBlock = some k → k ≠ q) → OX f s B tb tc e (w'.setCell ⟨q, n, none⟩ v') v l := fun h hne => ⟨h.1.setOther hne, h.2⟩
 have neq : ∀ {α : Type} {f : α → List Value} {s : Nat} {e : TypeId} {v : Value} {l : List α}, OX f s B tb tc e w' v l → e ≠ 58 → ∀ k, v.ownBlock = some k → k ≠ q := fun h he k hk hkq => apart_type h.1 hP.1 he k hk (by rw [hown, hkq])
 have hm := h.m.grown hg (apart_type h.m.1 hU.1 (by decide)); have hn' := h.n.grown hg (apart_type h.n.1 hU.1 (by decide)); have hb := h.b.grown hg (apart_type h.b.1 hU.1 (by decide)); have ha := h.a.grown hg (apart_type h.a.1 hU.1 (by decide)); have hnew : OX ruC 2 B tb tc 60 w' v' (l ++ [x]) := hU.new ho hr h.hc; have hnl : n < vs.length := by omega
 have hps : ∀ (i : Nat) (y : List RuleP), (st.c.ps.take n ++ [l ++ [x]])[i]? = some y → (i = n ∧ y = l ++ [x]) ∨ (i < n ∧ st.c.ps[i]? = some y) := fun i y hy => by
   have hlt := (List.getElem?_eq_some_iff.1 hy).1; rw [List.length_append, List.length_take, List.length_cons, List.length_nil] at hlt
   by_cases hi : i < n
   · rw [List.getElem?_append_left (by rw [List.length_take]; omega), List.getElem?_take, if_pos hi] at hy; exact .inr ⟨hi, hy⟩
   · obtain rfl : i = n := by omega
     rw [List.getElem?_append_right (by rw [List.length_take]; omega), List.length_take, Nat.min_eq_left (by omega), Nat.sub_self] at hy; simp only [List.getElem?_cons_zero, Option.some.injEq] at hy; exact .inl ⟨rfl, hy.symm⟩
 refine ⟨by rw [hsz]; exact Nat.le_trans h.sz hg.size, by rw [hsz]; exact Nat.le_trans h.hc hg.size, h.hb, ⟨?_, h.p.2⟩, by simp; omega, fun i u' y hu' hy => ?_, fun i j u1 u2 h1 h2 hij k hk => ?_, put hm (neq hm (by decide)), put hn' (neq hn' (by decide)), put hb (neq hb (by decide)), put ha (neq ha (by decide)), h.ab, ?_, h.sp, ?_, h.mp⟩
 · rw [hp]; have := own_setOne hpo n v'; exact this
 · rcases hps i y hy with ⟨rfl, rfl⟩ | ⟨hi, hy'⟩
   · rw [List.getElem?_set_self hnl] at hu'; simp only [Option.some.injEq] at hu'; subst hu'; exact put hnew (neq hnew (by decide))
   · rw [List.getElem?_set_ne (by omega)] at hu'; have hX := h.pr i u' y hu' hy'; have hX' := hX.grown hg (fun k hk e => h.pd i n u' u hu' hu (by omega) k hk e); exact put hX' (neq hX' (by decide))
 · have hfresh : ∀ (i : Nat) (u1 : Value), vs[i]? = some u1 → i ≠ n → ∀ k, u1.ownBlock = some k → v'.ownBlock ≠ some k := fun i u1 hi hne k hk e => by
     have hil := (List.getElem?_eq_some_iff.1 hi).1
     rcases hr with q' | ⟨g', q', hge⟩
     · exact h.pd i n u1 u hi hu hne k hk (by rw [← q']; exact e)
     · rw [q'] at e; have hlt := ((h.pr i u1 _ hi (List.getElem?_eq_getElem (by omega))).1.below hk).2; have := Option.some.inj e; omega
   by_cases hi : i = n
   · subst hi; rw [List.getElem?_set_self hnl] at h1; rw [List.getElem?_set_ne (by omega)] at h2; simp only [Option.some.injEq] at h1; subst h1; exact fun e => hfresh j u2 h2 (by omega) k e hk
   · rw [List.getElem?_set_ne (by omega)] at h1
     by_cases hj : j = n
     · subst hj; rw [List.getElem?_set_self hnl] at h2; simp only [Option.some.injEq] at h2; subst h2; exact hfresh i u1 h1 hi k hk
     · rw [List.getElem?_set_ne (by omega)] at h2; exact h.pd i j u1 u2 h1 h2 hij k hk
 · refine (h.reg hg hU.2).keep (fun k h1 h2 => hset k ?_) (by rw [hsz]; exact Nat.le_refl _); have := h.p.2 q hown; omega
 · have := h.kvg hg fun k hk => (hU.1.below hk).1
   unfold KvAt at this ⊢; rw [hset _ (by have := h.mp; have := hqb.1; omega)]; exact this
end
open Go.RowKit Go.Lib
/-- 'append(l, x)', the block of x just laid; where the row lies behind it -/
theorem app_lit {α : Type} {f : α → List Value} {sz B : Nat} {e : TypeId} {w : World} {v : Value} {l : List α} {P : Program} {ops : Array Oper} {rest : List Oper} {o : Oper} {a : Act} {Q : Exit → Act → World → Prop} {t : TypeId} {z : Value} {cs : Array Value} (bytes : Nat) (h : Nat) (hh : h = w.heap.size) (x : α) (hf : ∀ y, (f y).length = sz) (ho : ∀ u ∈ f x, u.oneCell' = true)
   (h1 : P.underlying t = some (.slice e)) (h2 : (P.info? e).map (fun i => (i.zero, i.size, i.bytes)) = some (some z, sz, bytes)) (hzs : z.cells.size = sz)
   (hg : o.guard = none) (s x' : Operand) (hop : o.op = Op.call { callee := Callee.builtin Builtin.append, args := #[s, x'], argTypes := #[t, t] })
   (hs : a.eval s = v) (hx : a.eval x' = .slice (some ⟨h, 0, none⟩) 1 1) (hcs : cs = (f x).toArray)
   (hown : OwnR f sz B e w v l) (hB : B ≤ w.heap.size) (hbig : (l.length + 1) * bytes ≤ 140737488355328) (hlen : l.length + 1 ≤ maxLen)
   (hK : ∀ v' w', OwnR f sz B e w' v' (l ++ [x]) → (w.alloc (.cells cs e)).grownBy w' v.ownBlock → (v'.ownBlock = v.ownBlock ∨ ∃ g, v'.ownBlock = some g ∧ (w.alloc (.cells cs e)).heap.size ≤ g) → wpList P ops Q rest (a.put o.dst v') w') :
   wpList P ops Q (o :: rest) a (w.alloc (.cells cs e)) := by
 subst hcs hh; obtain ⟨i, hi, hz0, hz1, hz2⟩ := info_parts h2; refine wpList_plain hg fun K hK' => ?_
 have hfc := fun k => firstCells_at (P := P) (w := w.alloc (.cells (f x).toArray e)) (ad := ⟨w.heap.size, 0, none⟩) (m := 1) (c := 1) (news := f x) (by rw [hf, Nat.one_mul]) (fun j u hj => by
     rw [Addr.add_lit, Nat.zero_add, cell_of_row _ w.heap.size j _ e (0, 0) (Go.heap_alloc_new w _)]
     simpa using hj) k
 obtain ⟨v', w', hrun, r1, r2, r3⟩ := run_append_D (P := P) (w.alloc (.cells (f x).toArray e)) B t t o.type e i z sz bytes h1 (.inl h1) hi hz0 hz1 hz2 hzs v l.length (l.flatMap f) (OwnC.alloc hown _) (a.eval x') 1 (f x)
   (by rw [hx]; exact lenOf_slice) (fun k => by rw [hx]; exact hfc k) (by rw [hf, Nat.one_mul]) ho hbig hlen (by simp; omega)
 unfold Oper.wp
 simp [execOp, hop, resolve, invoke, builtin, hs, hrun, Result.andThen]
 refine hK' _ _ (hK v' w' ?_ r2 r3); unfold OwnR; simpa [List.flatMap_append] using r1
theorem info_pass17 : (Tryd.prog.info? 58).map (fun i => (i.zero, i.size, i.bytes)) = some (some (.slice none 0 0), 1, 24) := by kernel_rfl
theorem info_rule17 : (Tryd.prog.info? 60).map (fun i => (i.zero, i.size, i.bytes)) = some (some (.agg #[.string ⟨#[]⟩, .string ⟨#[]⟩]), 2, 32) := by kernel_rfl
theorem info_merge17 : (Tryd.prog.info? 62).map (fun i => (i.zero, i.size, i.bytes)) = some (some (.agg #[.int .i64 0, .int .i64 0]), 2, 16) := by kernel_rfl
theorem info_str17 : (Tryd.prog.info? 9).map (fun i => (i.zero, i.size, i.bytes)) = some (some (.string ⟨#[]⟩), 1, 16) := by kernel_rfl
theorem info_int17 : (Tryd.prog.info? 3).map (fun i => (i.zero, i.size, i.bytes)) = some (some (.int .i64 0), 1, 8) := by kernel_rfl
/-- few of everything -/
structure Lim (n : Nat) (st : CS) : Prop where
 lp : st.c.ps.length ≤ n
 lr : ∀ l ∈ st.c.ps, l.length ≤ n
 lm : st.c.ms.length ≤ n
 ln : st.c.ns.length ≤ n
 lb : st.c.bf.length ≤ n
 la : st.c.af.length ≤ n
/-- the parser, and what it has made -/
def SAt (B g m : Nat) (S : ByteArray) (i en bg : Nat) (w : World) (st : CS) : Prop := ∃ V tb tc vs, V.mp = m ∧ PcAt w g S i en bg V ∧ StX B tb tc vs w V st
/-- what a line's reading tells -/
def LPo (B g m : Nat) (S : ByteArray) (en bg : Nat) (w : World) (x : PR CS) (e : Ending) (w' : World) : Prop :=
 match x with
 | .ok st j => e = .returned (.tuple #[]) ∧ SAt B g m S j en bg w' st ∧ Mid B g m w w'
 | .bad e0 j => e = cstopE e0 j ∧ Mid B g m w w'
 | .out => False
section
variable {B g m : Nat} {S : ByteArray} {en bg : Nat} {w : World} {x : PR CS} {e : Ending} {w' : World}
theorem LPo.okI {st : CS} {j : Nat} (hx : x = .ok st j) (h : e = .returned (.tuple #[]) ∧ SAt B g m S j en bg w' st ∧ Mid B g m w w') : LPo B g m S en bg w x e w' := by subst hx; exact h
theorem LPo.badI {a j : Nat} (hx : x = .bad a j) (h : e = cstopE a j ∧ Mid B g m w w') : LPo B g m S en bg w x e w' := by subst hx; exact h
end
section
variable {g : Nat} {S : ByteArray} {i en bg : Nat} {V : CV} {w w' : World} {r : Option Nat}
theorem PcAt.grown (h : PcAt w g S i en bg V) (hg : w.grownBy w' r) (hr : r ≠ some g) : PcAt w' g S i en bg V := by
 unfold PcAt; rw [hg.block g h.lt hr.symm]; exact h
theorem cf_done_y (h : PcAt w g S i en bg V) (hlt : ¬ i < en) : Calls Tryd.prog 14 #[.pointer (some ⟨g, 0, none⟩)] w fun e w' => e = .returned (.tuple #[]) ∧ PcAt w' g S i en bg V ∧ Else g w w' :=
 (cf_done g S i en bg V w h).mono fun _ _ h => CPo.okE (ret := retU) (a := ()) (show doneR en i = _ by unfold doneR; rw [if_neg hlt]) h
theorem cf_done_n (h : PcAt w g S i en bg V) (hlt : i < en) : Calls Tryd.prog 14 #[.pointer (some ⟨g, 0, none⟩)] w fun e w' => e = cstopE 170 i ∧ Else g w w' :=
 (cf_done g S i en bg V w h).mono fun _ _ h => CPo.badE (ret := retU) (show doneR en i = _ by unfold doneR; rw [if_pos hlt]) h
end
theorem own_ne {α : Type} {f : α → List Value} {sz B g : Nat} {e : TypeId} {w : World} {v : Value} {l : List α} (h : OwnR f sz B e w v l) (hg : g < B) : v.ownBlock ≠ some g := fun q => by have := (h.below q).1; omega
theorem bindOk {α β : Type} (a : α) (j : Nat) (f : α → Nat → PR β) : (PR.ok a j).bind f = f a j := rfl
theorem doneR_y {en i : Nat} (h : ¬ i < en) : doneR en i = .ok () i := by unfold doneR; rw [if_neg h]
theorem doneR_n {en i : Nat} (h : i < en) : doneR en i = .bad 170 i := by unfold doneR; rw [if_pos h]
theorem qtR_len {s : List UInt8} {en : Nat} : ∀ (f : Nat) (b : List UInt8) (i : Nat) (b' : List UInt8) (j : Nat), i ≤ en → qtR s en f b i = .ok b' j → b'.length + i ≤ b.length + j
 | 0, _, _, _, _, _, h => by cases h
 | f + 1, b, i, b', j, hi, h => by
   have Q := qtR_steps h
   by_cases h0 : i < en
   · by_cases h1 : bt s i = 34
     · have := Q.q2 h0 h1; simp only [PR.ok.injEq] at this; obtain ⟨rfl, rfl⟩ := this; omega
     by_cases h2 : bt s i < 32 ∨ 126 < bt s i
     · have := Q.q3 h0 h1 h2
       cases this
     by_cases h3 : bt s i = 92
     · have e := Q.q5 h0 h3
       cases hb : bslR s en (i + 1) with
       | out => rw [hb] at e; cases e
       | bad e0 k => rw [hb] at e; cases e
       | ok c k =>
         rw [hb, bindOk] at e; have hk := (bslR_in (s := s) (en := en) (i := i + 1) (by omega)).okB hb; have := qtR_len f _ k b' j hk.2 e; rw [List.length_append, List.length_cons, List.length_nil] at this; omega
     · have := qtR_len f _ (i + 1) b' j (by omega) (Q.q4 h0 h1 h2 h3); rw [List.length_append, List.length_cons, List.length_nil] at this; omega
   · have := Q.q1 h0
     cases this
theorem quotedR_len {s : List UInt8} {en f i j : Nat} {b : List UInt8} (hi : i ≤ en) (h : quotedR s en f i = .ok b j) : b.length ≤ en := by
 have hj := ((quotedR_in (s := s) (f := f) hi).okB h).2; unfold quotedR at h
 cases hm : mustR s en [34] i with
 | out => rw [hm] at h; cases h
 | bad e0 k => rw [hm] at h; cases h
 | ok u k =>
   rw [hm, bindOk] at h; have := qtR_len f [] k b j ((mustR_in (s := s) (en := en) [34] i hi).okB hm).2 h
   simp at this
   omega
theorem mustR_out {s : List UInt8} {en : Nat} : ∀ (u : List UInt8) (i : Nat), mustR s en u i ≠ .out
 | [], i => by rw [mustR]; intro h; cases h
 | c :: u, i => by
   rw [mustR]; split
   · exact mustR_out u _
   · intro h; cases h
set_option maxRecDepth 100000 in
theorem cf_pass (B g m : Nat) (S : ByteArray) (i en bg : Nat) (st : CS) (hgB : g < B) (hmg : m ≠ g) (hL : Lim 65536 st) (w : World) (H : SAt B g m S i en bg w st) :
   Calls Tryd.prog 23 #[.pointer (some ⟨g, 0, none⟩)] w (LPo B g m S en bg w ((doneR en i).bind fun _ j => if 4 ≤ st.c.ps.length then .bad 172 bg else .ok { st with c := { st.c with ps := st.c.ps ++ [[]] } } j)) := by
 obtain ⟨X, hX⟩ : ∃ X, ((doneR en i).bind fun _ j => if 4 ≤ st.c.ps.length then .bad 172 bg else .ok { st with c := { st.c with ps := st.c.ps ++ [[]] } } j) = X := ⟨_, rfl⟩; rw [hX]; unfold doneR at hX; obtain ⟨V, tb, tc, vs, hV, hp, hs⟩ := H; have HV := Lib.hid hV; have HP := Lib.hid hp; have HS := Lib.hid hs; have hBw := hs.sz; clear hV hp hs
 by_cases hlt : i < en
 · rw [if_pos hlt] at hX; have HX := Lib.hid hX.symm; have hc := cf_done_n HP.out hlt; clear hX hlt; go_enter Tryd.func23, Tryd.ntmps23; wkk; refine Calls.mono hc ?_; rintro _ w2 ⟨rfl, he⟩; exact ⟨rfl, LPo.badI HX.out ⟨rfl, Mid.els he hBw⟩⟩
 rw [if_neg hlt] at hX; dsimp only [PR.bind] at hX; have hc := cf_done_y HP.out hlt; clear hlt; go_enter Tryd.func23, Tryd.ntmps23; wkk; refine Calls.mono (hc) ?_; rintro _ w1 ⟨rfl, hp, he⟩; dsimp only; have HP1 := Lib.hid hp; have HS1 := Lib.hid (HS.out.els he hgB (by rw [HV.out]; exact hmg)); have HM := Lib.hid (Mid.els (m := m) he hBw); have hB1 := HS1.out.sz; have hpl := HS1.out.pl; have hvl : vs.length ≤ 65536 := by rw [hpl]; exact hL.lp
 obtain ⟨ap, cp, hpe, _, _⟩ := HS1.out.p.1.form; have Hpe := Lib.hid hpe; have hown := HS1.out.p.1; rw [hpe] at hown; have c3 := hp.c3; have c4 := hp.c4; have f4 := hp.free 4; rw [hpe] at c4; rw [← hpl] at hX; clear hpe hpl hc hp he HP HS
 by_cases h4 : 4 ≤ vs.length
 · rw [if_pos h4] at hX; have HX := Lib.hid hX.symm; have h4' : (vs.length : Int) ≥ 4 := by omega
   clear hX h4; wkk; have hf := cf_fail (.pointer (some ⟨g, 0, none⟩)) 172 bg w1; refine Calls.mono hf ?_; rintro _ w2 ⟨rfl, rfl⟩; exact ⟨rfl, LPo.badI HX.out ⟨rfl, HM.out⟩⟩
 · rw [if_neg h4] at hX; have HX := Lib.hid hX.symm; have h4' : ¬ (vs.length : Int) ≥ 4 := by omega
   have hab := Lib.hid ((Below.refl w1.heap.size w1).alloc (Nat.le_refl _) (.cells (oneC (.slice none 0 0)).toArray 58)); clear hX h4
   wkka (first | (at_builtin; refine app_lit (f := oneC) 24 w1.heap.size rfl (.slice none 0 0) oneC_len (by intro u hu; simp [oneC] at hu; subst hu; rfl) Tryd.underlying26 info_pass17 rfl rfl (.tmp 22) (.tmp 23) rfl rfl rfl rfl hown hB1 (by omega) (by unfold maxLen; omega) ?_; intro v' w3 ho hg hr; obtain ⟨a2, c2, e2, _, _⟩ := ho.form; rw [show (vs ++ [Value.slice none 0 0]).length = vs.length + 1 by simp] at e2; have Ho := Lib.hid ho; have Hg := Lib.hid hg; have Hr := Lib.hid hr; have HP3 := Lib.hid ((HP1.out.keep hab.out).grown hg (own_ne hown hgB)); have c4 := HP3.out.c4; have f4 := HP3.out.free 4; subst e2; clear ho hg hr hown))
   go_end0; have hS3 := (HS1.out.below hab.out).app_p Ho.out (by rw [Hpe.out]; exact Hg.out) (by rw [Hpe.out]; exact Hr.out); refine LPo.okI HX.out ⟨rfl, ⟨_, tb, tc, _, ?_, HP3.out.set4 _, hS3.els ((Else.refl g _).setCell _ _) hgB ?_⟩, ?_⟩
   · exact HV.out
   · show V.mp ≠ g; rw [HV.out]; exact hmg
   · exact (HM.out.trans ((Mid.below hab.out hB1).trans (Mid.grown Hg.out (Nat.le_trans hB1 hab.out.size) fun k hk => by rw [← Hpe.out] at hk; exact (HS1.out.p.1.below hk).1))).cell (.inl rfl)
set_option maxRecDepth 100000 in
theorem cf_name (B g m : Nat) (S : ByteArray) (i en bg F : Nat) (st : CS) (hgB : g < B) (hmg : m ≠ g) (hS : S.size ≤ 65536) (hen : en ≤ S.size) (hi : i ≤ en) (hF : en < F) (hL : Lim 65536 st) (w : World) (H : SAt B g m S i en bg w st) :
   Calls Tryd.prog 27 #[.pointer (some ⟨g, 0, none⟩)] w (LPo B g m S en bg w ((quotedR S.data.toList en F i).bind fun u i => (doneR en i).bind fun _ j => .ok { st with c := { st.c with ns := st.c.ns ++ [u] } } j)) := by
 obtain ⟨X, hX⟩ : ∃ X, ((quotedR S.data.toList en F i).bind fun u i => (doneR en i).bind fun _ j => .ok { st with c := { st.c with ns := st.c.ns ++ [u] } } j) = X := ⟨_, rfl⟩; rw [hX]; obtain ⟨V, tb, tc, vs, hV, hp, hs⟩ := H; have HV := Lib.hid hV; have HP := Lib.hid hp; have HS := Lib.hid hs; have hBw := hs.sz; clear hV hp hs; have HM := Lib.hid (Mid.refl B g m w); go_enter Tryd.func27, Tryd.ntmps27; wkk; have hq := cf_quoted g S i en bg F _ hS hen hi hF w HP.out
 cases hQ : quotedR S.data.toList en F i with
 | out => exact absurd hQ (quotedR_out hi (by omega))
 | bad e0 j =>
   rw [hQ] at hq hX; have HX := Lib.hid hX.symm; clear hX hQ; refine Calls.mono hq ?_; rintro _ w2 ⟨rfl, he⟩; exact ⟨rfl, LPo.badI HX.out ⟨rfl, HM.out.trans (Mid.els he hBw)⟩⟩
 | ok u j =>
 rw [hQ] at hq hX; have hj := ((quotedR_in (s := S.data.toList) (f := F) hi).okB hQ).2; rw [bindOk] at hX; have hlu := quotedR_len hi hQ; clear hQ; refine Calls.mono (hq) ?_; rintro _ w1 ⟨rfl, hp, he⟩; dsimp only; clear hq; replace HP := Lib.hid hp; replace HS := Lib.hid (HS.out.els he hgB (by rw [HV.out]; exact hmg)); replace HM := Lib.hid (HM.out.trans (Mid.els (m := m) he hBw)); replace hBw := HS.out.sz; clear hp he; wkk
 by_cases hd : j < en
 · rw [doneR_n hd] at hX; have HX := Lib.hid hX.symm; have hc := cf_done_n HP.out hd; clear hX hd; refine Calls.mono hc ?_; rintro _ w2 ⟨rfl, he⟩; exact ⟨rfl, LPo.badI HX.out ⟨rfl, HM.out.trans (Mid.els he hBw)⟩⟩
 rw [doneR_y hd, bindOk] at hX; have hc := cf_done_y HP.out hd; clear hd; refine Calls.mono (hc) ?_; rintro _ w2 ⟨rfl, hp, he⟩; dsimp only; clear hc; replace HP := Lib.hid hp; replace HS := Lib.hid (HS.out.els he hgB (by rw [HV.out]; exact hmg)); replace HM := Lib.hid (HM.out.trans (Mid.els (m := m) he hBw)); replace hBw := HS.out.sz; clear hp he; have HX := Lib.hid hX.symm; have hnl := hL.ln; obtain ⟨an, cn, hne, _, _⟩ := HS.out.n.1.form; have Hne := Lib.hid hne; have hown := HS.out.n.1; rw [hne] at hown; have c14 := HP.out.c14; rw [hne] at c14
 have hab := Lib.hid ((Below.refl w2.heap.size w2).alloc (Nat.le_refl _) (.cells (strC u).toArray 9)); clear hX hne; generalize hln : st.c.ns.length = nl at hnl c14 hown Hne; have Hln := Lib.hid hln; clear hln
 wkka (first | (at_builtin; refine app_lit (f := strC) 16 w2.heap.size rfl u strC_len17 (by intro u hu; simp [strC] at hu; subst hu; rfl) Tryd.underlying24 info_str17 rfl rfl (.tmp 16) (.tmp 18) rfl rfl rfl rfl hown hBw (by rw [Hln.out]; omega) (by rw [Hln.out]; unfold maxLen; omega) ?_; intro v' w3 ho hg hr; obtain ⟨a2, c2, e2, _, _⟩ := ho.form; rw [show (st.c.ns ++ [u]).length = nl + 1 by simp [Hln.out]] at e2; have Ho := Lib.hid ho; have Hg := Lib.hid hg; have Hr := Lib.hid hr; have HP3 := Lib.hid ((HP.out.keep hab.out).grown hg (own_ne hown hgB)); have c14 := HP3.out.c14; have f14 := HP3.out.free 14; subst e2; clear ho hg hr hown))
 go_end0; have hS3 := (HS.out.below hab.out).app_n Ho.out (by rw [Hne.out]; exact Hg.out) (by rw [Hne.out]; exact Hr.out); refine LPo.okI HX.out ⟨rfl, ⟨_, tb, tc, _, ?_, HP3.out.set14 _, hS3.els ((Else.refl g _).setCell _ _) hgB ?_⟩, ?_⟩
 · exact HV.out
 · show V.mp ≠ g; rw [HV.out]; exact hmg
 · exact (HM.out.trans ((Mid.below hab.out hBw).trans (Mid.grown Hg.out (Nat.le_trans hBw hab.out.size) fun k hk => by rw [← Hne.out] at hk; exact (HS.out.n.1.below hk).1))).cell (.inl rfl)
open Go.RowKit Go.Lib
/-- where a text stands in a list; -1: nowhere -/
def idxI (l : List (List UInt8)) (x : List UInt8) : Int := match l.findIdx? (· == x) with | some k => (k : Int) | none => -1
theorem idxI_at {l : List (List UInt8)} {x : List UInt8} {k : Nat} (hk : l[k]? = some x) (hn : ∀ j y, j < k → l[j]? = some y → y ≠ x) : idxI l x = (k : Int) := by
 have hlt := (List.getElem?_eq_some_iff.1 hk).1; have he := (List.getElem?_eq_some_iff.1 hk).2; have : l.findIdx? (· == x) = some k := by
   rw [List.findIdx?_eq_some_iff_getElem]; refine ⟨hlt, by rw [he]; simp, fun j hj => ?_⟩; simp only [beq_iff_eq]; exact hn j _ hj (List.getElem?_eq_getElem (by omega))
 unfold idxI; rw [this]
theorem idxI_no {l : List (List UInt8)} {x : List UInt8} (hn : ∀ (j : Nat) y, l[j]? = some y → y ≠ x) : idxI l x = -1 := by
 have : l.findIdx? (· == x) = none := by
   rw [List.findIdx?_eq_none_iff]; intro y hy; obtain ⟨j, hj⟩ := List.getElem?_of_mem hy; exact beq_false_of_ne (hn j y hj)
 unfold idxI; rw [this]
set_option maxRecDepth 100000 in
theorem index_at (l : List (List UInt8)) (v : Value) (x : List UInt8) (w : World) (hrow : RowOf strC 1 w v l) :
   Calls Tryd.prog 47 #[v, .string ⟨x.toArray⟩] w fun e w' => e = .returned (.int .i64 (idxI l x)) ∧ Below w.heap.size w w' := by
 obtain ⟨a, cap, rfl, hcap, hmx, hc⟩ := hrow.open strC_len17; obtain ⟨n, hn⟩ : ∃ n, n = l.length := ⟨_, rfl⟩; have Hn := Lib.hid hn; rw [← hn] at hc hcap ⊢; unfold maxLen at hmx; clear hn hrow; go_enter Tryd.func47, Tryd.ntmps47; wkk
 go_loopg [5, 8] n (fun gk _ s8 w' => ∃ k : Nat, s8 = .int .i64 k ∧ k + gk = n ∧ Hid (∀ j y, j < k → l[j]? = some y → y ≠ x) ∧ Hid (Below w.heap.size w w'))
 case atStart => exact ⟨0, rfl, by omega, Lib.hid (fun j _ hj => absurd hj (Nat.not_lt_zero _)), Lib.hid (Below.refl _ _)⟩
 case round =>
   obtain ⟨k, rfl, hk, HA, HB⟩ := hrel
   by_cases hlt : k < n
   · have hlt' : (k : Int) < n := by omega
     obtain ⟨y, hy⟩ : ∃ y, l[k]? = some y := ⟨_, List.getElem?_eq_getElem (by rw [← Hn.out]; exact hlt)⟩
     rcases hc with hc | ⟨b, off, rfl, hb, hc⟩
     · omega
     have c0 := str_cell hc hy; rw [← HB.out.cell (show b < w.heap.size from hb)] at c0; have Hy := Lib.hid hy; clear hc hy
     by_cases he : x = y
     · subst he; wkk; go_ret; exact ⟨by rw [idxI_at Hy.out HA.out]; rfl, HB.out⟩
     · have heb : (x == y) = false := beq_false_of_ne he; wkk; go_roundg (gk - 1)
       case rel => exact ⟨k + 1, by go_num, by omega, Lib.hid (fun j z hj hz => by
         by_cases e : j = k
         · subst e; rw [Hy.out] at hz; simp only [Option.some.injEq] at hz; exact fun h => he (by rw [← h, ← hz])
         · exact HA.out j z (by omega) hz), HB⟩
       case measure => omega
   · obtain rfl : n = k := by omega
     wkk; go_ret; refine ⟨?_, HB.out⟩; rw [idxI_no fun j y hy => HA.out j y (by have := (List.getElem?_eq_some_iff.1 hy).1; have := Hn.out; omega) hy]; rfl
abbrev retI (n : Int) : Value := .int .i64 n
set_option maxRecDepth 100000 in
theorem cf_known (g : Nat) (S : ByteArray) (i en bg F : Nat) (V : CV) (ns : List (List UInt8)) (hS : S.size ≤ 65536) (hen : en ≤ S.size) (hi : i ≤ en) (hF : en < F) (w : World) (h : PcAt w g S i en bg V) (hn : ∀ w', Else g w w' → RowOf strC 1 w' V.n ns) :
   Calls Tryd.prog 29 #[.pointer (some ⟨g, 0, none⟩)] w (CPo retI g S en bg V w (knownR S.data.toList en F ns i)) := by
 obtain ⟨X, hX⟩ : ∃ X, knownR S.data.toList en F ns i = X := ⟨_, rfl⟩; rw [hX]; unfold knownR at hX; have HP := Lib.hid h; have HE := Lib.hid (Else.refl g w); have Hn := Lib.hid hn; clear h hn; go_enter Tryd.func29, Tryd.ntmps29; wkk; have hq := cf_quoted g S i en bg F _ hS hen hi hF w HP.out
 cases hQ : quotedR S.data.toList en F i with
 | out => exact absurd hQ (quotedR_out hi (by omega))
 | bad e0 j =>
   rw [hQ] at hq hX; have HX := Lib.hid hX.symm; clear hX hQ; refine Calls.mono hq ?_; rintro _ w2 ⟨rfl, he⟩; exact ⟨rfl, CPo.badI HX.out ⟨rfl, HE.out.trans he⟩⟩
 | ok u j =>
 rw [hQ] at hq hX; have hj := ((quotedR_in (s := S.data.toList) (f := F) hi).okB hQ).2; rw [bindOk] at hX; have hlu := quotedR_len hi hQ; clear hQ; refine Calls.mono (hq) ?_; rintro _ w1 ⟨rfl, hp, he⟩; dsimp only; replace HP := Lib.hid hp; replace HE := Lib.hid (HE.out.trans he); clear hq hp he; wkk
 by_cases hd : j < en
 · rw [doneR_n hd] at hX; have HX := Lib.hid hX.symm; have hc := cf_done_n HP.out hd; clear hX hd; refine Calls.mono hc ?_; rintro _ w2 ⟨rfl, he⟩; exact ⟨rfl, CPo.badI HX.out ⟨rfl, HE.out.trans he⟩⟩
 rw [doneR_y hd, bindOk] at hX; have hc := cf_done_y HP.out hd; clear hd; refine Calls.mono (hc) ?_; rintro _ w2 ⟨rfl, hp, he⟩; dsimp only; clear hc; replace HP := Lib.hid hp; replace HE := Lib.hid (HE.out.trans he); clear hp he; have hrow := Hn.out w2 HE.out; have hix := index_at ns V.n u w2 hrow; have c14 := HP.out.c14; obtain ⟨an, cn, hne, _⟩ := hrow.open strC_len17; have Hne := Lib.hid hne; rw [hne] at c14 hix; clear hne hrow; unfold idxI at hix; wkk
 cases hk : ns.findIdx? (· == u) with
 | none =>
   rw [hk] at hix hX; dsimp only at hix; have HX := Lib.hid hX.symm; clear hX hk; refine Calls.mono (hix) ?_; rintro _ w3 ⟨rfl, hb⟩; dsimp only; have HP3 := Lib.hid (HP.out.keep hb); have HE3 := Lib.hid (HE.out.trans (Else.of_below (g := g) hb)); clear hb hix; wkk; have hf := cf_fail (.pointer (some ⟨g, 0, none⟩)) 171 i w3; refine Calls.mono hf ?_; rintro _ w2 ⟨rfl, rfl⟩; exact ⟨rfl, CPo.badI HX.out ⟨rfl, HE3.out⟩⟩
 | some k =>
   rw [hk] at hix hX; dsimp only at hix; have HX := Lib.hid hX.symm; clear hX hk; refine Calls.mono (hix) ?_; rintro _ w3 ⟨rfl, hb⟩; dsimp only; have HP3 := Lib.hid (HP.out.keep hb); have HE3 := Lib.hid (HE.out.trans (Else.of_below (g := g) hb)); have hk0 : ¬ (k : Int) < 0 := by omega
   clear hb hix; wkk; go_ret; exact CPo.okI HX.out ⟨rfl, HP3.out, HE3.out⟩
theorem zero_int17 (w : World) : (zeroValue 3).run Tryd.prog w = .ok (.int .i64 0) w := by kernel_rfl
set_option maxRecDepth 100000 in
theorem cf_id (g : Nat) (S : ByteArray) (i en bg at' : Nat) (V : CV) (ids : List (List UInt8 × Int)) (t : List UInt8) (w : World) (h : PcAt w g S i en bg V) (hk : KvAt w V.mp ids) :
   Calls Tryd.prog 46 #[.pointer (some ⟨g, 0, none⟩), .string ⟨t.toArray⟩, .int .i64 (at' : Int)] w fun e w' => (match idR ids t at' i with | .ok n _ => e = .returned (.int .i64 n) | .bad e0 j => e = cstopE e0 j | .out => False) ∧ w = w' := by
 obtain ⟨X, hX⟩ : ∃ X, idR ids t at' i = X := ⟨_, rfl⟩; rw [hX]; unfold idR at hX; have hsz : (⟨t.toArray⟩ : ByteArray).size = t.length := by simp [ByteArray.size]
 by_cases h1 : t.length = 1
 · rw [if_pos h1] at hX; subst hX; dsimp only; have hb := at8_lt t 0; have hw : IntKind.i64.wrap ((at8 t 0 : Nat) : Int) = ((at8 t 0 : Nat) : Int) := wi64 (by unfold I64; omega); have hl : ((t.length : Int) == 1) = true := by rw [h1]; rfl
   have h0 : 0 < t.length := by omega
   rw [show (t.getD 0 0).toNat = at8 t 0 from rfl]; clear h h1 hsz; go_enter Tryd.func46, Tryd.ntmps46; wkk; go_ret; exact ⟨rfl, rfl⟩
 · rw [if_neg h1] at hX; have hl : ((t.length : Int) == 1) = false := beq_false_of_ne (by omega); have hlk := fun W (hW : KvAt W V.mp ids) => run_lookKv (P := Tryd.prog) (k := 9) (t := 47) (e := 3) Tryd.underlying9 Tryd.underlying47 zero_int17 t hW
   have c18 := h.c18; have hlk := hlk w hk
   cases hi : idOf ids t with
   | none =>
     rw [hi] at hlk hX; dsimp only at hX; subst hX; dsimp only; simp only [Option.map_none, Option.getD_none, Option.isSome_none] at hlk; clear h hk hi h1 hsz; go_enter Tryd.func46, Tryd.ntmps46; wkk; have hf := cf_fail (.pointer (some ⟨g, 0, none⟩)) 171 at' w; refine Calls.mono hf ?_; rintro _ w2 ⟨rfl, rfl⟩; exact ⟨rfl, rfl, rfl⟩
   | some n =>
     rw [hi] at hlk hX; dsimp only at hX; subst hX; dsimp only; simp only [Option.map_some, Option.getD_some, Option.isSome_some] at hlk; clear h hk hi h1 hsz; go_enter Tryd.func46, Tryd.ntmps46; wkk; go_ret; exact ⟨rfl, rfl⟩
open Go.RowKit Go.Lib
theorem cat_ba (u v : List UInt8) : (⟨u.toArray⟩ : ByteArray) ++ ⟨v.toArray⟩ = ⟨(u ++ v).toArray⟩ := by
 apply ByteArray.ext
 simp
theorem StX.put {B tb tc : Nat} {vs : List Value} {w : World} {V : CV} {st : CS} (h : StX B tb tc vs w V st) (x : List UInt8 × Int) : StX B tb tc vs (Go.ChangeMaps.setBlock w V.mp (.map (kvFrom 0 (st.ids ++ [x])).toArray (st.ids.length + 1))) V { st with ids := st.ids ++ [x] } := by
 have hz : ∀ o, (Go.ChangeMaps.setBlock w V.mp o).heap.size = w.heap.size := fun o => by simp [Go.ChangeMaps.setBlock]
 have hK : ∀ k, k ≠ V.mp → (Go.ChangeMaps.setBlock w V.mp (.map (kvFrom 0 (st.ids ++ [x])).toArray (st.ids.length + 1))).heap[k]? = w.heap[k]? := fun k hk => Go.ChangeMaps.heap_setBlock_other h.kv _ hk
 have hm := h.mp; exact ⟨by rw [hz]; exact h.sz, by rw [hz]; exact h.hc, h.hb, h.p.keep fun k hB _ => hK k (by omega), h.pl, fun i u l hu hl => (h.pr i u l hu hl).keep fun k hB _ => hK k (by omega), h.pd, h.m.keep fun k hB _ => hK k (by omega), h.n.keep fun k hB _ => hK k (by omega), h.b.keep fun k hB _ => hK k (by omega), h.a.keep fun k hB _ => hK k (by omega), h.ab, h.re.keep (fun k h1 _ => hK k (by have := h.hb; omega)) (by rw [hz]; exact Nat.le_refl _), h.sp, h.kv.put x, h.mp⟩
theorem Mid.block2 {B g m b : Nat} {w : World} {es : Array MapEntry} {cl : Nat} {o : Obj} (h : w.heap[b]? = some (.map es cl)) (hb : b = m) : Mid B g m w (Go.ChangeMaps.setBlock w b o) :=
 ⟨rfl, rfl, rfl, by simp [Go.ChangeMaps.setBlock], fun k _ _ hk => Go.ChangeMaps.heap_setBlock_other h _ (by omega)⟩
theorem row_own {α : Type} {f : α → List Value} {sz : Nat} {e : TypeId} {w : World} {g : Nat} {l : List α} (hf : ∀ y, (f y).length = sz) (h : w.heap[g]? = some (.cells (l.flatMap f).toArray e (0, 0))) (hm : l.length ≤ maxLen) : RowOf f sz w (.slice (some ⟨g, 0, none⟩) l.length l.length) l := by
 have hl := flatMap_lenA hf l; refine ⟨some ⟨g, 0, none⟩, l.length, rfl, Nat.le_refl _, hm, hl, .inr ⟨g, 0, rfl, (Array.getElem?_eq_some_iff.1 h).1, fun i hi => ?_⟩⟩; rw [Nat.zero_add, cell_of_row _ g i _ e (0, 0) h]
 simp
set_option maxRecDepth 100000 in
set_option maxHeartbeats 4000000 in
theorem cf_merge (B g m : Nat) (S : ByteArray) (i en bg F : Nat) (st : CS) (hgB : g < B) (hmg : m ≠ g) (hS : S.size ≤ 65536) (hen : en ≤ S.size) (hi : i ≤ en) (hF : en < F) (hL : Lim 65536 st) (w : World) (H : SAt B g m S i en bg w st) :
   Calls Tryd.prog 26 #[.pointer (some ⟨g, 0, none⟩)] w (LPo B g m S en bg w ((quotedR S.data.toList en F i).bind fun u j => (mustR S.data.toList en [32] j).bind fun _ k => (quotedR S.data.toList en F k).bind fun v n => (doneR en n).bind fun _ q =>
       (idR st.ids u i q).bind fun l _ => (idR st.ids v k q).bind fun r _ =>
         .ok { st with c := { st.c with ms := st.c.ms ++ [(l, r)] }, ids := if (idOf st.ids (u ++ v)).isSome then st.ids else st.ids ++ [(u ++ v, ((256 + st.c.ms.length : Nat) : Int))] } q)) := by
 obtain ⟨X, hX⟩ : ∃ X, ((quotedR S.data.toList en F i).bind fun u j => (mustR S.data.toList en [32] j).bind fun _ k => (quotedR S.data.toList en F k).bind fun v n => (doneR en n).bind fun _ q =>
       (idR st.ids u i q).bind fun l _ => (idR st.ids v k q).bind fun r _ =>
         .ok { st with c := { st.c with ms := st.c.ms ++ [(l, r)] }, ids := if (idOf st.ids (u ++ v)).isSome then st.ids else st.ids ++ [(u ++ v, ((256 + st.c.ms.length : Nat) : Int))] } q) = X := ⟨_, rfl⟩
 rw [hX]; obtain ⟨V, tb, tc, vs, hV, hp, hs⟩ := H; have HV := Lib.hid hV; have HP := Lib.hid hp; have HS := Lib.hid hs; have hBw := hs.sz; clear hV hp hs; have HM := Lib.hid (Mid.refl B g m w); go_enter Tryd.func26, Tryd.ntmps26; wkk; have hq := cf_quoted g S i en bg F _ hS hen hi hF w HP.out
 cases hQ : quotedR S.data.toList en F i with
 | out => exact absurd hQ (quotedR_out hi (by omega))
 | bad e0 j =>
   rw [hQ] at hq hX; have HX := Lib.hid hX.symm; clear hX hQ; refine Calls.mono hq ?_; rintro _ w2 ⟨rfl, he⟩; exact ⟨rfl, LPo.badI HX.out ⟨rfl, HM.out.trans (Mid.els he hBw)⟩⟩
 | ok u j =>
 rw [hQ] at hq hX; have hj := ((quotedR_in (s := S.data.toList) (f := F) hi).okB hQ).2; rw [bindOk] at hX; have hlu := quotedR_len hi hQ; clear hQ; refine Calls.mono (hq) ?_; rintro _ w1 ⟨rfl, hp, he⟩; dsimp only; clear hq; replace HP := Lib.hid hp; replace HS := Lib.hid (HS.out.els he hgB (by rw [HV.out]; exact hmg)); replace HM := Lib.hid (HM.out.trans (Mid.els (m := m) he hBw)); replace hBw := HS.out.sz; clear hp he; wkk; have hm := cf_must g S ⟨#[32]⟩ (by decide) j en bg _ hS hen hj w1 HP.out; rw [show (⟨#[32]⟩ : ByteArray).data.toList = [32] from rfl] at hm
 cases hM : mustR S.data.toList en [32] j with
 | out => exact absurd hM (mustR_out _ _)
 | bad e0 j =>
   rw [hM] at hm hX; have HX := Lib.hid hX.symm; clear hX hM; refine Calls.mono hm ?_; rintro _ w2 ⟨rfl, he⟩; exact ⟨rfl, LPo.badI HX.out ⟨rfl, HM.out.trans (Mid.els he hBw)⟩⟩
 | ok um k =>
 rw [hM] at hm hX; have hk := ((mustR_in (s := S.data.toList) (en := en) [32] j hj).okB hM).2; rw [bindOk] at hX; clear hM; refine Calls.mono (hm) ?_; rintro _ w2 ⟨rfl, hp, he⟩; dsimp only; clear hm; replace HP := Lib.hid hp; replace HS := Lib.hid (HS.out.els he hgB (by rw [HV.out]; exact hmg)); replace HM := Lib.hid (HM.out.trans (Mid.els (m := m) he hBw)); replace hBw := HS.out.sz; clear hp he; wkk; have hq := cf_quoted g S k en bg F _ hS hen hk hF w2 HP.out
 cases hQ : quotedR S.data.toList en F k with
 | out => exact absurd hQ (quotedR_out hk (by omega))
 | bad e0 j =>
   rw [hQ] at hq hX; have HX := Lib.hid hX.symm; clear hX hQ; refine Calls.mono hq ?_; rintro _ w2 ⟨rfl, he⟩; exact ⟨rfl, LPo.badI HX.out ⟨rfl, HM.out.trans (Mid.els he hBw)⟩⟩
 | ok v n =>
 rw [hQ] at hq hX; have hn := ((quotedR_in (s := S.data.toList) (f := F) hk).okB hQ).2; rw [bindOk] at hX; have hlv := quotedR_len hk hQ; clear hQ; refine Calls.mono (hq) ?_; rintro _ w3 ⟨rfl, hp, he⟩; dsimp only; clear hq; replace HP := Lib.hid hp; replace HS := Lib.hid (HS.out.els he hgB (by rw [HV.out]; exact hmg)); replace HM := Lib.hid (HM.out.trans (Mid.els (m := m) he hBw)); replace hBw := HS.out.sz; clear hp he; wkk
 by_cases hd : n < en
 · rw [doneR_n hd] at hX; have HX := Lib.hid hX.symm; have hc := cf_done_n HP.out hd; clear hX hd; refine Calls.mono hc ?_; rintro _ w2 ⟨rfl, he⟩; exact ⟨rfl, LPo.badI HX.out ⟨rfl, HM.out.trans (Mid.els he hBw)⟩⟩
 rw [doneR_y hd, bindOk] at hX; have hc := cf_done_y HP.out hd; clear hd; refine Calls.mono (hc) ?_; rintro _ w4 ⟨rfl, hp, he⟩; dsimp only; clear hc; replace HP := Lib.hid hp; replace HS := Lib.hid (HS.out.els he hgB (by rw [HV.out]; exact hmg)); replace HM := Lib.hid (HM.out.trans (Mid.els (m := m) he hBw)); replace hBw := HS.out.sz; clear hp he; wkk; have hc := cf_id g S n en bg i V st.ids u w4 HP.out HS.out.kv
 cases hI : idR st.ids u i n with
 | out => rw [hI] at hc; exact Calls.mono hc (fun _ _ h => h.1.elim)
 | bad e0 j0 =>
   rw [hI] at hc hX; have HX := Lib.hid hX.symm; refine Calls.mono hc ?_; rintro _ wz ⟨rfl, rfl⟩; exact ⟨rfl, LPo.badI HX.out ⟨rfl, HM.out⟩⟩
 | ok l jl =>
 rw [hI] at hc hX; rw [bindOk] at hX; dsimp only at hc; clear hI; refine Calls.mono (hc) ?_; rintro _ wz ⟨rfl, rfl⟩; dsimp only; wkk; have hc := cf_id g S n en bg k V st.ids v w4 HP.out HS.out.kv
 cases hI : idR st.ids v k n with
 | out => rw [hI] at hc; exact Calls.mono hc (fun _ _ h => h.1.elim)
 | bad e0 j0 =>
   rw [hI] at hc hX; have HX := Lib.hid hX.symm; refine Calls.mono hc ?_; rintro _ wz ⟨rfl, rfl⟩; exact ⟨rfl, LPo.badI HX.out ⟨rfl, HM.out⟩⟩
 | ok r jr =>
 rw [hI] at hc hX; rw [bindOk] at hX; dsimp only at hc; clear hI; refine Calls.mono (hc) ?_; rintro _ wz ⟨rfl, rfl⟩; dsimp only; clear hc; have HX := Lib.hid hX.symm; clear hX
 repeat' (go_not_at_region 5; first | go_values | go_skip | go_guarded | go_step | go_upon)
 have Hmq : Hid (∀ k, V.m.ownBlock = some k → k < w4.heap.size) := Lib.hid fun k hk => (HS.out.m.1.below hk).2
 have hab := (Below.refl w4.heap.size w4).alloc (Nat.le_refl _) (.cells (mgC (l, r)).toArray 62); change Code.wp _ _ _ _ (w4.alloc (.cells (mgC (l, r)).toArray 62)); refine gen_wd (fun W => PcAt W g S n en bg V ∧ StX B tb tc vs W V st ∧ Mid B g m w W ∧ W.heap[w4.heap.size]? = some (.cells (mgC (l, r)).toArray 62 (0, 0))) ⟨HP.out.keep hab, HS.out.below hab, HM.out.trans (Mid.below hab hBw), Go.heap_alloc_new _ _⟩ ?_; clear hab HP HS HM; rintro w5 ⟨hp, hs, hM, hbx⟩; have HP := Lib.hid hp; have HS := Lib.hid hs; have HM := Lib.hid hM; have HB := Lib.hid hbx; have c18 := hp.c18
 have hlk := run_lookKv (P := Tryd.prog) (k := 9) (t := 47) (e := 3) Tryd.underlying9 Tryd.underlying47 zero_int17 (u ++ v) hs.kv; unfold encS at hlk; rw [← cat_ba] at hlk; have hcl : ¬ 9223372036854775807 < u.length + v.length := by omega
 generalize hq : w4.heap.size = q at HB hBw Hmq ⊢; clear hp hs hM hbx hq
 cases hi : idOf st.ids (u ++ v) with
 | some nn =>
   rw [hi] at hlk HX; simp only [Option.map_some, Option.getD_some, Option.isSome_some] at hlk; rw [Option.isSome_some, if_pos rfl] at HX; clear hi; wkk; clear hlk c18 hcl; have hnm := hL.lm; obtain ⟨am, cm, hme, _, _⟩ := HS.out.m.1.form; have Hme := Lib.hid hme; have hown := HS.out.m.1; rw [hme] at hown; obtain ⟨nm, hnme⟩ : ∃ nm, st.c.ms.length = nm := ⟨_, rfl⟩; have Hnm := Lib.hid hnme; rw [hnme] at hnm; obtain ⟨C, hC⟩ : ∃ C : World → Prop, C = fun W => PcAt W g S n en bg V ∧ W.heap[q]? = some (.cells (mgC (l, r)).toArray 62 (0, 0)) := ⟨_, rfl⟩
   have Hmk : Hid (∀ W, PcAt W g S n en bg V → W.heap[q]? = some (.cells (mgC (l, r)).toArray 62 (0, 0)) → C W) := Lib.hid fun W h1 h2 => by rw [hC]; exact ⟨h1, h2⟩
   have Hop : Hid (∀ W, C W → PcAt W g S n en bg V ∧ W.heap[q]? = some (.cells (mgC (l, r)).toArray 62 (0, 0))) := Lib.hid fun W h => by rw [hC] at h; exact h
   have q0 : ∀ nq : GW C, nq.1.cell? ⟨g, 13, none⟩ = some (.slice am nm cm) := fun nq => by rw [(Hop.out _ nq.2).1.c13, hme, hnme]
   have r0 : ∀ nq : GW C, nq.1.cell? ⟨q, 0, none⟩ = some (.int .i64 l) := fun nq => by rw [cell_of_row _ q 0 _ _ _ (Hop.out _ nq.2).2]; rfl
   have r1 : ∀ nq : GW C, nq.1.cell? ⟨q, 1, none⟩ = some (.int .i64 r) := fun nq => by rw [cell_of_row _ q 1 _ _ _ (Hop.out _ nq.2).2]; rfl
   rw [hnme] at hown; clear hC hme hnme; refine wp_region_anyU (by kernel_rfl) C 12 ?_; refine tkU 0 rfl ?_; refine tkU 1 rfl ?_; refine tkU 2 rfl ?_; refine tkU 3 rfl ?_; refine tkU 4 rfl ?_; refine tkU 5 rfl ?_; refine tkU 6 rfl ?_; clear q0 r0 r1; refine wpAnyU_ready (CG.of (Hmk.out _ (HP.out.keep (Below.refl _ _).drew) HB.out)) (rs := [7]) (by kernel_rfl) (by simp) ?_; refine (AllReadyU.cons rfl (fun K hK => ?_) AllReadyU.nil); go_simp; refine hK _ _ ?_; clear hK K
   have hab : Below w5.heap.size w5 ((w5.alloc (.cells (mgC (l, r)).toArray 62)).drew) := ((Below.refl _ _).alloc (Nat.le_refl _) _).drew
   refine genUv (fun W => PcAt W g S n en bg V ∧ StX B tb tc vs W V st ∧ Mid B g m w W ∧ OwnR mgC 2 B 62 W (.slice am nm cm) st.c.ms ∧ W.heap[w5.heap.size]? = some (.cells (([(l, r)] : List (Int × Int)).flatMap mgC).toArray 62 (0, 0)) ∧ W.heap[q]? = some (.cells (mgC (l, r)).toArray 62 (0, 0))) ⟨HP.out.keep hab, HS.out.below hab, HM.out.trans (Mid.below hab HS.out.sz), OwnR.keep hown hab (Nat.le_refl _), Go.heap_alloc_new w5 _, (hab.block q (Array.getElem?_eq_some_iff.1 HB.out).1).trans HB.out⟩ ?_; clear hab HP HS HM HB hown; rintro wy ⟨hp, hs, hM, hown, hone, hbx⟩; have hBy := hs.sz
   refine wpAnyU_ready (CG.of (Hmk.out _ hp hbx)) (rs := [8]) (by kernel_rfl) (by simp) ?_; refine (AllReadyU.cons rfl (fun K hK => ?_) AllReadyU.nil); refine step_of rfl (app_rowD (l1 := [(l, r)]) 16 mgC_len (fun y _ u hu => by simp [mgC] at hu; rcases hu with rfl | rfl <;> rfl) Tryd.underlying34 info_merge17 rfl (.tmp 64) (.tmp 66) rfl rfl (row_own (l := [(l, r)]) mgC_len hone (by show 1 ≤ maxLen; decide)) hown hBy (by rw [Hnm.out]; simp; omega) (by rw [Hnm.out]; unfold maxLen; simp; omega) ?_); intro v1 W1 ho1 hg1 hr1; refine hK _ _ ?_; clear hK K
   have hP1 : PcAt W1 g S n en bg V := hp.grown hg1 (own_ne hown hgB); have hb1 : W1.heap[q]? = some (.cells (mgC (l, r)).toArray 62 (0, 0)) := grown_obj hg1 hbx (fun e => by have := Hmq.out q (by rw [Hme.out, Hnm.out]; exact e); omega); have hS1 := hs.app_m (x := (l, r)) ho1 (by rw [Hme.out, Hnm.out]; exact hg1) (by rw [Hme.out, Hnm.out]; exact hr1); have hM1 : Mid B g m w W1 := hM.trans (Mid.grown hg1 hBy fun k hk => (hown.below hk).1); obtain ⟨a1, m1, n1, e1⟩ : ∃ a m c, v1 = .slice a m c := by obtain ⟨a, c, e, _⟩ := ho1.form; exact ⟨a, _, c, e⟩
   subst e1; clear ho1 hg1 hr1 hp hs hM hown hone hBy hbx; have o1 := hP1.c13; have f1 := hP1.free 13; refine tkP 9 rfl ?_; refine tkP 10 rfl ?_; refine tkP 11 rfl ?_; refine wpAnyU_ready (CG.of (Hmk.out _ hP1 hb1)) (rs := [12]) (by kernel_rfl) (by simp) ?_; refine (AllReadyU.cons rfl (fun K hK => ?_) AllReadyU.nil); go_simp; refine hK _ _ ?_; clear hK K
   refine genUv (fun W => SAt B g m S n en bg W { st with c := { st.c with ms := st.c.ms ++ [(l, r)] } } ∧ Mid B g m w W) ⟨⟨{ V with m := .slice a1 m1 n1 }, tb, tc, vs, HV.out, hP1.set13 _, hS1.els ((Else.refl g _).setCell _ _) hgB (by show V.mp ≠ g; rw [HV.out]; exact hmg)⟩, hM1.cell (.inl rfl)⟩ ?_; clear o1 f1 hP1 hS1 hM1 hb1 Hmk Hop; rintro wz ⟨hs, hM⟩; have HS := Lib.hid hs; have HM := Lib.hid hM; clear hs hM; refine wpAnyU_done (by kernel_rfl) (by kernel_rfl) (by go_simp <;> with_reducible rfl) ?_; wkk; go_end0; exact LPo.okI HX.out ⟨rfl, HS.out, HM.out⟩
 | none =>
   rw [hi] at hlk HX; simp only [Option.map_none, Option.getD_none, Option.isSome_none] at hlk; have Hi := Lib.hid hi; clear hi; wkk; have hnm := hL.lm; obtain ⟨am, cm, hme, _, _⟩ := HS.out.m.1.form; have Hme := Lib.hid hme; obtain ⟨nz, hnme⟩ : ∃ nz, st.c.ms.length = nz := ⟨_, rfl⟩; have Hnm := Lib.hid hnme; rw [hnme] at hnm hme; have hput := fun W (hW : KvAt W V.mp st.ids) => run_putKv (P := Tryd.prog) (k := 9) (t := 47) (e := 3) Tryd.underlying9 Tryd.underlying47 (u ++ v) (256 + (nz : Int)) hW (by rw [Hi.out]; rfl)
   unfold encS at hput; rw [← cat_ba] at hput; obtain ⟨C, hC⟩ : ∃ C : World → Prop, C = fun W => PcAt W g S n en bg V := ⟨_, rfl⟩
   have Hmk : Hid (∀ W, PcAt W g S n en bg V → C W) := Lib.hid fun W h1 => by rw [hC]; exact h1
   have Hop : Hid (∀ W, C W → PcAt W g S n en bg V) := Lib.hid fun W h => by rw [hC] at h; exact h
   have q0 : ∀ nq : GW C, nq.1.cell? ⟨g, 13, none⟩ = some (.slice am nz cm) := fun nq => by rw [(Hop.out _ nq.2).c13, hme]
   have q1 : ∀ nq : GW C, nq.1.cell? ⟨g, 18, none⟩ = some (.map (some V.mp)) := fun nq => (Hop.out _ nq.2).c18
   have hwn : IntKind.i64.wrap (256 + (nz : Int)) = 256 + (nz : Int) := wi64 (by unfold I64; omega); clear hC hme hnme hlk c18; refine wp_region_anyU (by kernel_rfl) C 14 ?_; refine tkU 0 rfl ?_; refine tkU 1 rfl ?_; refine tkU 2 rfl ?_; refine tkU 3 rfl ?_; refine tkU 4 rfl ?_; refine tkU 5 rfl ?_; refine tkU 6 rfl ?_; refine tkU 7 rfl ?_; refine tkU 8 rfl ?_; refine tkU 9 rfl ?_; refine tkU 10 rfl ?_; refine tkU 11 rfl ?_; refine tkU 12 rfl ?_; refine tkU 13 rfl ?_; clear q0 q1
   refine genUv (fun W => PcAt W g S n en bg V ∧ StX B tb tc vs W V st ∧ Mid B g m w W ∧ W.heap[q]? = some (.cells (mgC (l, r)).toArray 62 (0, 0))) ⟨HP.out.keep (Below.refl _ _).drew, HS.out.below (Below.refl _ _).drew, HM.out.trans (Mid.below (Below.refl _ _).drew HS.out.sz), HB.out⟩ ?_; clear HP HS HM HB; rintro wx ⟨hp, hs, hM, hbx⟩; have hpu := hput wx hs.kv; refine wpAnyU_ready (CG.of (Hmk.out _ hp)) (rs := [14]) (by kernel_rfl) (by simp) ?_; refine (AllReadyU.cons rfl (fun K hK => ?_) AllReadyU.nil); go_simp; refine hK _ _ ?_; clear hK K
   refine genUv (fun W => PcAt W g S n en bg V ∧ StX B tb tc vs W V { st with ids := st.ids ++ [(u ++ v, 256 + (nz : Int))] } ∧ Mid B g m w W ∧ W.heap[q]? = some (.cells (mgC (l, r)).toArray 62 (0, 0))) ⟨heap_blockOther hs.kv hp (by rw [HV.out]; omega), hs.put _, hM.trans (Mid.block2 hs.kv HV.out), heap_blockOther hs.kv hbx (by have := hs.mp; omega)⟩ ?_; clear hp hs hM hbx hput hpu Hmk Hop; rintro w6 ⟨hp, hs, hM, hbx⟩; have HP := Lib.hid hp; have HS := Lib.hid hs; have HM := Lib.hid hM; have HB := Lib.hid hbx; clear hp hs hM hbx
   refine wpAnyU_done (by kernel_rfl) (by kernel_rfl) (by go_simp <;> with_reducible rfl) ?_; wkk; clear hcl hwn hnm Hme; rw [Option.isSome_none, if_neg (by decide), Hnm.out] at HX; rw [show ((256 + nz : Nat) : Int) = 256 + (nz : Int) by omega] at HX; clear Hnm; have hnm := hL.lm; obtain ⟨am, cm, hme, _, _⟩ := HS.out.m.1.form; have Hme := Lib.hid hme; have hown := HS.out.m.1; rw [hme] at hown; obtain ⟨nm, hnme⟩ : ∃ nm, st.c.ms.length = nm := ⟨_, rfl⟩; have Hnm := Lib.hid hnme; rw [hnme] at hnm
   obtain ⟨C, hC⟩ : ∃ C : World → Prop, C = fun W => PcAt W g S n en bg V ∧ W.heap[q]? = some (.cells (mgC (l, r)).toArray 62 (0, 0)) := ⟨_, rfl⟩
   have Hmk : Hid (∀ W, PcAt W g S n en bg V → W.heap[q]? = some (.cells (mgC (l, r)).toArray 62 (0, 0)) → C W) := Lib.hid fun W h1 h2 => by rw [hC]; exact ⟨h1, h2⟩
   have Hop : Hid (∀ W, C W → PcAt W g S n en bg V ∧ W.heap[q]? = some (.cells (mgC (l, r)).toArray 62 (0, 0))) := Lib.hid fun W h => by rw [hC] at h; exact h
   have q0 : ∀ nq : GW C, nq.1.cell? ⟨g, 13, none⟩ = some (.slice am nm cm) := fun nq => by rw [(Hop.out _ nq.2).1.c13, hme, hnme]
   have r0 : ∀ nq : GW C, nq.1.cell? ⟨q, 0, none⟩ = some (.int .i64 l) := fun nq => by rw [cell_of_row _ q 0 _ _ _ (Hop.out _ nq.2).2]; rfl
   have r1 : ∀ nq : GW C, nq.1.cell? ⟨q, 1, none⟩ = some (.int .i64 r) := fun nq => by rw [cell_of_row _ q 1 _ _ _ (Hop.out _ nq.2).2]; rfl
   rw [hnme] at hown; clear hC hme hnme; refine wp_region_anyU (by kernel_rfl) C 12 ?_; refine tkU 0 rfl ?_; refine tkU 1 rfl ?_; refine tkU 2 rfl ?_; refine tkU 3 rfl ?_; refine tkU 4 rfl ?_; refine tkU 5 rfl ?_; refine tkU 6 rfl ?_; clear q0 r0 r1; refine wpAnyU_ready (CG.of (Hmk.out _ (HP.out.keep (Below.refl _ _).drew) HB.out)) (rs := [7]) (by kernel_rfl) (by simp) ?_; refine (AllReadyU.cons rfl (fun K hK => ?_) AllReadyU.nil); go_simp; refine hK _ _ ?_; clear hK K
   have hab : Below w6.heap.size w6 ((w6.alloc (.cells (mgC (l, r)).toArray 62)).drew) := ((Below.refl _ _).alloc (Nat.le_refl _) _).drew
   refine genUv (fun W => PcAt W g S n en bg V ∧ StX B tb tc vs W V { st with ids := st.ids ++ [(u ++ v, 256 + (nz : Int))] } ∧ Mid B g m w W ∧ OwnR mgC 2 B 62 W (.slice am nm cm) st.c.ms ∧ W.heap[w6.heap.size]? = some (.cells (([(l, r)] : List (Int × Int)).flatMap mgC).toArray 62 (0, 0)) ∧ W.heap[q]? = some (.cells (mgC (l, r)).toArray 62 (0, 0))) ⟨HP.out.keep hab, HS.out.below hab, HM.out.trans (Mid.below hab HS.out.sz), OwnR.keep hown hab (Nat.le_refl _), Go.heap_alloc_new w6 _, (hab.block q (Array.getElem?_eq_some_iff.1 HB.out).1).trans HB.out⟩ ?_; clear hab HP HS HM HB hown
   rintro wy ⟨hp, hs, hM, hown, hone, hbx⟩; have hBy := hs.sz; refine wpAnyU_ready (CG.of (Hmk.out _ hp hbx)) (rs := [8]) (by kernel_rfl) (by simp) ?_; refine (AllReadyU.cons rfl (fun K hK => ?_) AllReadyU.nil); refine step_of rfl (app_rowD (l1 := [(l, r)]) 16 mgC_len (fun y _ u hu => by simp [mgC] at hu; rcases hu with rfl | rfl <;> rfl) Tryd.underlying34 info_merge17 rfl (.tmp 64) (.tmp 66) rfl rfl (row_own (l := [(l, r)]) mgC_len hone (by show 1 ≤ maxLen; decide)) hown hBy (by rw [Hnm.out]; simp; omega) (by rw [Hnm.out]; unfold maxLen; simp; omega) ?_); intro v1 W1 ho1 hg1 hr1
   refine hK _ _ ?_; clear hK K; have hP1 : PcAt W1 g S n en bg V := hp.grown hg1 (own_ne hown hgB); have hb1 : W1.heap[q]? = some (.cells (mgC (l, r)).toArray 62 (0, 0)) := grown_obj hg1 hbx (fun e => by have := Hmq.out q (by rw [Hme.out, Hnm.out]; exact e); omega); have hS1 := hs.app_m (x := (l, r)) ho1 (by rw [Hme.out, Hnm.out]; exact hg1) (by rw [Hme.out, Hnm.out]; exact hr1); have hM1 : Mid B g m w W1 := hM.trans (Mid.grown hg1 hBy fun k hk => (hown.below hk).1); obtain ⟨a1, m1, n1, e1⟩ : ∃ a m c, v1 = .slice a m c := by obtain ⟨a, c, e, _⟩ := ho1.form; exact ⟨a, _, c, e⟩
   subst e1; clear ho1 hg1 hr1 hp hs hM hown hone hBy hbx; have o1 := hP1.c13; have f1 := hP1.free 13; refine tkP 9 rfl ?_; refine tkP 10 rfl ?_; refine tkP 11 rfl ?_; refine wpAnyU_ready (CG.of (Hmk.out _ hP1 hb1)) (rs := [12]) (by kernel_rfl) (by simp) ?_; refine (AllReadyU.cons rfl (fun K hK => ?_) AllReadyU.nil); go_simp; refine hK _ _ ?_; clear hK K
   refine genUv (fun W => SAt B g m S n en bg W { { st with ids := st.ids ++ [(u ++ v, 256 + (nz : Int))] } with c := { st.c with ms := st.c.ms ++ [(l, r)] } } ∧ Mid B g m w W) ⟨⟨{ V with m := .slice a1 m1 n1 }, tb, tc, vs, HV.out, hP1.set13 _, hS1.els ((Else.refl g _).setCell _ _) hgB (by show V.mp ≠ g; rw [HV.out]; exact hmg)⟩, hM1.cell (.inl rfl)⟩ ?_; clear o1 f1 hP1 hS1 hM1 hb1 Hmk Hop; rintro wz ⟨hs, hM⟩; have HS := Lib.hid hs; have HM := Lib.hid hM; clear hs hM; refine wpAnyU_done (by kernel_rfl) (by kernel_rfl) (by go_simp <;> with_reducible rfl) ?_; wkk; go_end0
   exact LPo.okI HX.out ⟨rfl, HS.out, HM.out⟩
open Go.RowKit Go.Lib
theorem one_cell {B q cap n : Nat} {e : TypeId} {w : World} {l : List Value} {i : Nat} {u : Value} (h : OwnR oneC 1 B e w (.slice (some ⟨q, 0, none⟩) n cap) l) (hu : l[i]? = some u) : w.cell? ⟨q, i, none⟩ = some u := by
 have := h.cellAt oneC_len i u 0 hu (by decide); rw [show i * 1 + 0 = i by omega] at this; exact this
theorem one_free {B q cap : Nat} {e : TypeId} {w : World} {l : List Value} {i : Nat} (h : OwnR oneC 1 B e w (.slice (some ⟨q, 0, none⟩) l.length cap) l) (hi : i < l.length) : w.frozen? ⟨q, i, none⟩ = false := OwnC.free h i (by omega)
set_option maxRecDepth 100000 in
set_option maxHeartbeats 4000000 in
theorem cf_rule (B g m : Nat) (S : ByteArray) (i en bg F : Nat) (st : CS) (hgB : g < B) (hmg : m ≠ g) (hS : S.size ≤ 65536) (hen : en ≤ S.size) (hi : i ≤ en) (hF : en < F) (hL : Lim 65536 st) (w : World) (H : SAt B g m S i en bg w st) :
   Calls Tryd.prog 24 #[.pointer (some ⟨g, 0, none⟩)] w (LPo B g m S en bg w ((quotedR S.data.toList en F i).bind fun u j => (mustR S.data.toList en [32, 45, 62, 32] j).bind fun _ k => (quotedR S.data.toList en F k).bind fun v n => (doneR en n).bind fun _ q =>
       if st.c.ps.length = 0 then .bad 172 bg else .ok { st with c := { st.c with ps := st.c.ps.take (st.c.ps.length - 1) ++ [st.c.ps.getD (st.c.ps.length - 1) [] ++ [(u, v)]] } } q)) := by
 obtain ⟨X, hX⟩ : ∃ X, ((quotedR S.data.toList en F i).bind fun u j => (mustR S.data.toList en [32, 45, 62, 32] j).bind fun _ k => (quotedR S.data.toList en F k).bind fun v n => (doneR en n).bind fun _ q =>
       if st.c.ps.length = 0 then .bad 172 bg else .ok { st with c := { st.c with ps := st.c.ps.take (st.c.ps.length - 1) ++ [st.c.ps.getD (st.c.ps.length - 1) [] ++ [(u, v)]] } } q) = X := ⟨_, rfl⟩
 rw [hX]; obtain ⟨V, tb, tc, vs, hV, hp, hs⟩ := H; have HV := Lib.hid hV; have HP := Lib.hid hp; have HS := Lib.hid hs; have hBw := hs.sz; clear hV hp hs; have HM := Lib.hid (Mid.refl B g m w); go_enter Tryd.func24, Tryd.ntmps24; wkk; have hq := cf_quoted g S i en bg F _ hS hen hi hF w HP.out
 cases hQ : quotedR S.data.toList en F i with
 | out => exact absurd hQ (quotedR_out hi (by omega))
 | bad e0 j =>
   rw [hQ] at hq hX; have HX := Lib.hid hX.symm; clear hX hQ; refine Calls.mono hq ?_; rintro _ w2 ⟨rfl, he⟩; exact ⟨rfl, LPo.badI HX.out ⟨rfl, HM.out.trans (Mid.els he hBw)⟩⟩
 | ok u j =>
 rw [hQ] at hq hX; have hj := ((quotedR_in (s := S.data.toList) (f := F) hi).okB hQ).2; rw [bindOk] at hX; have hlu := quotedR_len hi hQ; clear hQ; refine Calls.mono (hq) ?_; rintro _ w1 ⟨rfl, hp, he⟩; dsimp only; clear hq; replace HP := Lib.hid hp; replace HS := Lib.hid (HS.out.els he hgB (by rw [HV.out]; exact hmg)); replace HM := Lib.hid (HM.out.trans (Mid.els (m := m) he hBw)); replace hBw := HS.out.sz; clear hp he; wkk; have hm := cf_must g S ⟨#[32, 45, 62, 32]⟩ (by decide) j en bg _ hS hen hj w1 HP.out
 rw [show (⟨#[32, 45, 62, 32]⟩ : ByteArray).data.toList = [32, 45, 62, 32] from rfl] at hm
 cases hM : mustR S.data.toList en [32, 45, 62, 32] j with
 | out => exact absurd hM (mustR_out _ _)
 | bad e0 j =>
   rw [hM] at hm hX; have HX := Lib.hid hX.symm; clear hX hM; refine Calls.mono hm ?_; rintro _ w2 ⟨rfl, he⟩; exact ⟨rfl, LPo.badI HX.out ⟨rfl, HM.out.trans (Mid.els he hBw)⟩⟩
 | ok um k =>
 rw [hM] at hm hX; have hk := ((mustR_in (s := S.data.toList) (en := en) [32, 45, 62, 32] j hj).okB hM).2; rw [bindOk] at hX; clear hM; refine Calls.mono (hm) ?_; rintro _ w2 ⟨rfl, hp, he⟩; dsimp only; clear hm; replace HP := Lib.hid hp; replace HS := Lib.hid (HS.out.els he hgB (by rw [HV.out]; exact hmg)); replace HM := Lib.hid (HM.out.trans (Mid.els (m := m) he hBw)); replace hBw := HS.out.sz; clear hp he; wkk; have hq := cf_quoted g S k en bg F _ hS hen hk hF w2 HP.out
 cases hQ : quotedR S.data.toList en F k with
 | out => exact absurd hQ (quotedR_out hk (by omega))
 | bad e0 j =>
   rw [hQ] at hq hX; have HX := Lib.hid hX.symm; clear hX hQ; refine Calls.mono hq ?_; rintro _ w2 ⟨rfl, he⟩; exact ⟨rfl, LPo.badI HX.out ⟨rfl, HM.out.trans (Mid.els he hBw)⟩⟩
 | ok v n =>
 rw [hQ] at hq hX; have hn := ((quotedR_in (s := S.data.toList) (f := F) hk).okB hQ).2; rw [bindOk] at hX; have hlv := quotedR_len hk hQ; clear hQ; refine Calls.mono (hq) ?_; rintro _ w3 ⟨rfl, hp, he⟩; dsimp only; clear hq; replace HP := Lib.hid hp; replace HS := Lib.hid (HS.out.els he hgB (by rw [HV.out]; exact hmg)); replace HM := Lib.hid (HM.out.trans (Mid.els (m := m) he hBw)); replace hBw := HS.out.sz; clear hp he; wkk
 by_cases hd : n < en
 · rw [doneR_n hd] at hX; have HX := Lib.hid hX.symm; have hc := cf_done_n HP.out hd; clear hX hd; refine Calls.mono hc ?_; rintro _ w2 ⟨rfl, he⟩; exact ⟨rfl, LPo.badI HX.out ⟨rfl, HM.out.trans (Mid.els he hBw)⟩⟩
 rw [doneR_y hd, bindOk] at hX; have hc := cf_done_y HP.out hd; clear hd; refine Calls.mono (hc) ?_; rintro _ w4 ⟨rfl, hp, he⟩; dsimp only; clear hc; replace HP := Lib.hid hp; replace HS := Lib.hid (HS.out.els he hgB (by rw [HV.out]; exact hmg)); replace HM := Lib.hid (HM.out.trans (Mid.els (m := m) he hBw)); replace hBw := HS.out.sz; clear hp he; have hpl := HS.out.pl; obtain ⟨ap, cp, hpe, _, _⟩ := HS.out.p.1.form; have c3 := HP.out.c3; have c4 := HP.out.c4; rw [hpe] at c4
 by_cases h0 : st.c.ps.length = 0
 · rw [if_pos h0] at hX; have HX := Lib.hid hX.symm; have hv0 : vs.length = 0 := by omega
   rw [hv0] at c4; clear hpe hpl hX h0 hv0; wkk; have hf := cf_fail (.pointer (some ⟨g, 0, none⟩)) 172 bg w4; refine Calls.mono hf ?_; rintro _ w2 ⟨rfl, rfl⟩; exact ⟨rfl, LPo.badI HX.out ⟨rfl, HM.out⟩⟩
 rw [if_neg h0] at hX; have HX := Lib.hid hX.symm; obtain ⟨n1, hn1⟩ : ∃ n1, st.c.ps.length = n1 + 1 := ⟨st.c.ps.length - 1, by omega⟩; have hvn : vs.length = n1 + 1 := by omega
 obtain ⟨q, cq, hpq⟩ := HS.out.p.1.somewhere (by omega); rw [hpq] at hpe; simp only [Value.slice.injEq] at hpe; obtain ⟨rfl, _, rfl⟩ := hpe; obtain ⟨u0, hu0⟩ : ∃ u0, vs[n1]? = some u0 := ⟨_, List.getElem?_eq_getElem (by omega)⟩; obtain ⟨l0, hl0⟩ : ∃ l0, st.c.ps[n1]? = some l0 := ⟨_, List.getElem?_eq_getElem (by omega)⟩; have hU := HS.out.pr n1 u0 l0 hu0 hl0; have hll := hL.lr l0 (List.mem_of_getElem? hl0); obtain ⟨au, cu, hue, _, _⟩ := hU.1.form; have Hue := Lib.hid hue; have hown := hU.1; obtain ⟨nl, hnl⟩ : ∃ nl, l0.length = nl := ⟨_, rfl⟩; have Hnl := Lib.hid hnl; rw [hnl] at hll hue
 rw [hue] at hown; have hn64 : n1 + 1 ≤ 65536 := by have := hL.lp; omega
 have hnp : Hid (∀ W, StX B tb tc vs W V st → W.cell? ⟨q, n1, none⟩ = some (.slice au nl cu) ∧ W.frozen? ⟨q, n1, none⟩ = false) := Lib.hid fun W h => by
   have h1 := h.p.1; rw [hpq] at h1; exact ⟨by rw [← hue]; exact one_cell h1 hu0, one_free h1 (by omega)⟩
 have hqo : Hid (∀ W, StX B tb tc vs W V st → u0.ownBlock ≠ some q) := Lib.hid fun W h => fun e => apart_type (h.pr n1 u0 l0 hu0 hl0).1 h.p.1 (by decide) q e (by rw [hpq]; rfl)
 rw [hvn] at c4; have hne : (((n1 + 1 : Nat) : Int) == 0) = false := beq_false_of_ne (by omega); obtain ⟨np, hnpe⟩ : ∃ np, n1 + 1 = np := ⟨_, rfl⟩; have hwn : IntKind.i64.wrap ((np : Int) - 1) = (n1 : Int) := by rw [wi64 (by unfold I64; omega)]; omega
 rw [hnpe] at c4 hne; have hnlt : n1 < np := by omega
 have Hn1 := Lib.hid hn1; have Hpq := Lib.hid hpq; have Hvn := Lib.hid hvn; have Hu0 := Lib.hid hu0; have Hl0 := Lib.hid hl0; have Hnpe := Lib.hid hnpe; clear hX h0 hn1 hvn hpq hu0 hl0 hU hue hnl hnpe hpl c3; wkk; obtain ⟨C, hC⟩ : ∃ C : World → Prop, C = fun W => PcAt W g S n en bg V ∧ W.cell? ⟨q, n1, none⟩ = some (.slice au nl cu) := ⟨_, rfl⟩
 have Hmk : Hid (∀ W, PcAt W g S n en bg V → W.cell? ⟨q, n1, none⟩ = some (.slice au nl cu) → C W) := Lib.hid fun W h1 h2 => by rw [hC]; exact ⟨h1, h2⟩
 have Hop : Hid (∀ W, C W → PcAt W g S n en bg V ∧ W.cell? ⟨q, n1, none⟩ = some (.slice au nl cu)) := Lib.hid fun W h => by rw [hC] at h; exact h
 have q0 : ∀ nq : GW C, nq.1.cell? ⟨g, 4, none⟩ = some (.slice (some ⟨q, 0, none⟩) np cq) := fun nq => by rw [(Hop.out _ nq.2).1.c4, Hpq.out, Hvn.out, Hnpe.out]
 have r0 : ∀ nq : GW C, nq.1.cell? ⟨q, n1, none⟩ = some (.slice au nl cu) := fun nq => (Hop.out _ nq.2).2
 clear hC c4; refine wp_region_anyU (by kernel_rfl) C 22 ?_; refine tkU 0 rfl ?_; refine tkU 1 rfl ?_; refine tkU 2 rfl ?_; refine tkU 3 rfl ?_; refine tkU 4 rfl ?_; refine tkU 5 rfl ?_; refine tkU 6 rfl ?_; refine tkU 7 rfl ?_; refine tkU 8 rfl ?_; refine tkU 9 rfl ?_; refine tkU 10 rfl ?_; refine tkU 11 rfl ?_; refine tkU 12 rfl ?_; refine tkU 13 rfl ?_; refine tkU 14 rfl ?_; refine tkU 15 rfl ?_; refine tkU 16 rfl ?_; refine tkU 17 rfl ?_; refine tkU 18 rfl ?_; clear q0 r0; have hdr : Below w4.heap.size w4 w4.drew := (Below.refl _ _).drew
 refine wpAnyU_ready (CG.of (Hmk.out _ (HP.out.keep hdr) (hnp.out _ (HS.out.below hdr)).1)) (rs := [19]) (by kernel_rfl) (by simp) ?_; refine (AllReadyU.cons rfl (fun K hK => ?_) AllReadyU.nil); go_simp; refine hK _ _ ?_; clear hK K; have hab : Below w4.heap.size w4 ((w4.alloc (.cells (ruC (u, v)).toArray 60)).drew) := ((Below.refl _ _).alloc (Nat.le_refl _) _).drew
 refine genUv (fun W => PcAt W g S n en bg V ∧ StX B tb tc vs W V st ∧ Mid B g m w W ∧ OwnR ruC 2 B 60 W (.slice au nl cu) l0 ∧ W.heap[w4.heap.size]? = some (.cells (([(u, v)] : List RuleP).flatMap ruC).toArray 60 (0, 0))) ⟨HP.out.keep hab, HS.out.below hab, HM.out.trans (Mid.below hab HS.out.sz), OwnR.keep hown hab (Nat.le_refl _), Go.heap_alloc_new w4 _⟩ ?_; clear hab hdr HP HS HM hown; rintro wy ⟨hp, hs, hM, hown, hone⟩; have hBy := hs.sz; refine wpAnyU_ready (CG.of (Hmk.out _ hp (hnp.out _ hs).1)) (rs := [20]) (by kernel_rfl) (by simp) ?_
 refine (AllReadyU.cons rfl (fun K hK => ?_) AllReadyU.nil); refine step_of rfl (app_rowD (l1 := [(u, v)]) 32 ruC_len (fun y _ u hu => by simp [ruC] at hu; rcases hu with rfl | rfl <;> rfl) Tryd.underlying58 info_rule17 rfl (.tmp 50) (.tmp 54) rfl rfl (row_own (l := [(u, v)]) ruC_len hone (by show 1 ≤ maxLen; decide)) hown hBy (by rw [Hnl.out]; simp; omega) (by rw [Hnl.out]; unfold maxLen; simp; omega) ?_); intro v1 W1 ho1 hg1 hr1; refine hK _ _ ?_; clear hK K; have hP1 : PcAt W1 g S n en bg V := hp.grown hg1 (own_ne hown hgB); have hqu : u0.ownBlock ≠ some q := hqo.out _ hs
 have hq1 : W1.heap[q]? = wy.heap[q]? := hg1.block q (by
   have := hs.p.1; rw [Hpq.out] at this
   exact (this.below (g := q) rfl).2) (fun e => hqu (by rw [Hue.out, Hnl.out]; exact e.symm))
 have o1 : W1.cell? ⟨q, n1, none⟩ = some (.slice au nl cu) := by rw [World.cell?_of_block (w := wy) hq1]; exact (hnp.out _ hs).1
 have f1 : W1.frozen? ⟨q, n1, none⟩ = false := by rw [World.frozen?_of_block (w := wy) hq1]; exact (hnp.out _ hs).2
 have hqB : B ≤ q := by
   have := hs.p.1; rw [Hpq.out] at this; exact (this.below (g := q) rfl).1
 have hS1 := hs.app_rule (x := (u, v)) Hn1.out Hu0.out Hl0.out Hpq.out ho1 (by rw [Hue.out, Hnl.out]; exact hg1) (by rw [Hue.out, Hnl.out]; exact hr1); have hM1 : Mid B g m w W1 := hM.trans (Mid.grown hg1 hBy fun k hk => (hown.below hk).1); obtain ⟨a1, m1, n1', e1⟩ : ∃ a m c, v1 = .slice a m c := by obtain ⟨a, c, e, _⟩ := ho1.form; exact ⟨a, _, c, e⟩
 subst e1; clear ho1 hg1 hr1 hp hs hM hown hone hBy hqu hq1; refine tkP 21 rfl ?_; refine wpAnyU_ready (CG.of (Hmk.out _ hP1 o1)) (rs := [22]) (by kernel_rfl) (by simp) ?_; refine (AllReadyU.cons rfl (fun K hK => ?_) AllReadyU.nil); go_simp; refine hK _ _ ?_; clear hK K; refine genUv (fun W => SAt B g m S n en bg W { st with c := { st.c with ps := st.c.ps.take n1 ++ [l0 ++ [(u, v)]] } } ∧ Mid B g m w W) ⟨⟨V, tb, tc, _, HV.out, hP1.setOther (by omega), hS1⟩, hM1.cell (.inr (.inr hqB))⟩ ?_; clear o1 f1 hP1 hS1 hM1 Hmk Hop hqo hnp; rintro wz ⟨hs, hM⟩; have HS := Lib.hid hs
 have HM := Lib.hid hM; clear hs hM; refine wpAnyU_done (by kernel_rfl) (by kernel_rfl) (by go_simp <;> with_reducible rfl) ?_; wkk; go_end0; refine LPo.okI HX.out ⟨rfl, ?_, HM.out⟩; have e1 : st.c.ps.length - 1 = n1 := by rw [Hn1.out]; rfl
 have e2 : st.c.ps.getD n1 [] = l0 := by rw [List.getD_eq_getElem?_getD, Hl0.out]; rfl
 rw [e1, e2]; exact HS.out
open Go.RowKit Go.Lib
/-- a variable that holds a pointer to the parser -/
def PBx (w : World) (bx g : Nat) : Prop := w.heap[bx]? = some (.cells #[.pointer (some ⟨g, 0, none⟩)] 46 (0, 0))
theorem PBx.cell {w : World} {bx g : Nat} (h : PBx w bx g) : w.cell? ⟨bx, 0, none⟩ = some (.pointer (some ⟨g, 0, none⟩)) := by rw [cell_of_row w bx 0 _ _ _ h]; rfl
theorem PBx.lt {w : World} {bx g : Nat} (h : PBx w bx g) : bx < w.heap.size := (Array.getElem?_eq_some_iff.1 h).1
theorem PBx.keep {w w' : World} {bx g : Nat} (h : PBx w bx g) (hb : Below w.heap.size w w') : PBx w' bx g := by unfold PBx; rw [hb.block bx h.lt]; exact h
theorem PBx.els {w w' : World} {bx g q : Nat} (h : PBx w bx g) (he : Else q w w') (hne : bx ≠ q) : PBx w' bx g := he.row h hne
theorem PBx.mid {w w' : World} {B m bx g : Nat} (h : PBx w bx g) (hM : Mid B g m w w') (h1 : bx < B) (h2 : bx ≠ g) (h3 : bx ≠ m) : PBx w' bx g := by unfold PBx; rw [hM.block bx h1 h2 h3]; exact h
set_option maxRecDepth 100000 in
set_option maxHeartbeats 4000000 in
theorem cf_before (B g m bx : Nat) (S : ByteArray) (i en bg F : Nat) (st : CS) (hgB : g < B) (hmg : m ≠ g) (hbB : bx < B) (hbg : bx ≠ g) (hS : S.size ≤ 65536) (hen : en ≤ S.size) (hi : i ≤ en) (hF : en < F) (hL : Lim 65536 st) (w : World) (H : SAt B g m S i en bg w st) (hbx : PBx w bx g) :
   Calls Tryd.prog 28 #[.pointer (some ⟨bx, 0, none⟩)] w (LPo B g m S en bg w ((knownR S.data.toList en F st.c.ns i).bind fun n j => .ok { st with c := { st.c with bf := st.c.bf ++ [n] } } j)) := by
 obtain ⟨X, hX⟩ : ∃ X, ((knownR S.data.toList en F st.c.ns i).bind fun n j => (.ok { st with c := { st.c with bf := st.c.bf ++ [n] } } j : PR CS)) = X := ⟨_, rfl⟩; rw [hX]; obtain ⟨V, tb, tc, vs, hV, hp, hs⟩ := H; have HV := Lib.hid hV; have HP := Lib.hid hp; have HS := Lib.hid hs; have hBw := hs.sz; clear hV hp hs; have HM := Lib.hid (Mid.refl B g m w); have HBx := Lib.hid hbx; have hnm := hL.lb; obtain ⟨am, cm, hme, _, _⟩ := HS.out.b.1.form; have Hme := Lib.hid hme; have hown := HS.out.b.1; rw [hme] at hown; obtain ⟨nm, hnme⟩ : ∃ nm, st.c.bf.length = nm := ⟨_, rfl⟩
 have Hnm := Lib.hid hnme; rw [hnme] at hnm hown; obtain ⟨C, hC⟩ : ∃ C : World → Prop, C = fun W => PBx W bx g ∧ ∃ j', PcAt W g S j' en bg V := ⟨_, rfl⟩
 have Hmk : Hid (∀ W j', PBx W bx g → PcAt W g S j' en bg V → C W) := Lib.hid fun W j' h1 h2 => by rw [hC]; exact ⟨h1, j', h2⟩
 have Hop : Hid (∀ W, C W → PBx W bx g ∧ ∃ j', PcAt W g S j' en bg V) := Lib.hid fun W h => by rw [hC] at h; exact h
 have q0 : ∀ nq : GW C, nq.1.cell? ⟨g, 15, none⟩ = some (.slice am nm cm) := fun nq => by
   obtain ⟨j', h⟩ := (Hop.out _ nq.2).2; rw [h.c15, hme, hnme]
 have r0 : ∀ nq : GW C, nq.1.cell? ⟨bx, 0, none⟩ = some (.pointer (some ⟨g, 0, none⟩)) := fun nq => (Hop.out _ nq.2).1.cell
 clear hC hme hnme hbx; go_enter Tryd.func28, Tryd.ntmps28; wkk; refine wp_region_anyU (by kernel_rfl) C 13 ?_; refine tkU 0 rfl ?_; refine tkU 1 rfl ?_; refine tkU 2 rfl ?_; refine tkU 3 rfl ?_; refine tkU 4 rfl ?_; refine tkU 5 rfl ?_; refine tkU 6 rfl ?_; clear q0 r0; refine genUv (fun W => PcAt W g S i en bg V ∧ StX B tb tc vs W V st ∧ Mid B g m w W ∧ PBx W bx g) ⟨HP.out.keep (Below.refl _ _).drew, HS.out.below (Below.refl _ _).drew, HM.out.trans (Mid.below (Below.refl _ _).drew HS.out.sz), HBx.out.keep (Below.refl _ _).drew⟩ ?_; clear HP HS HM HBx hown hBw; rintro W0 ⟨hp, hs, hM, hbx⟩
 have hc := cf_known g S i en bg F V st.c.ns hS hen hi hF W0 hp (fun w' he => (hs.els he hgB (by rw [HV.out]; exact hmg)).n.1.row); refine wpAnyU_ready (CG.of (Hmk.out _ _ hbx hp)) (rs := [7]) (by kernel_rfl) (by simp) ?_; refine (AllReadyU.cons rfl (fun K hK => ?_) AllReadyU.nil)
 cases hK' : knownR S.data.toList en F st.c.ns i with
 | out => rw [hK'] at hc; go_simp; exact Calls.mono hc (fun _ _ h => h.elim)
 | bad e0 j0 =>
   rw [hK'] at hc hX; have HX := Lib.hid hX.symm; go_simp; refine Calls.mono hc ?_; rintro _ wz ⟨rfl, he⟩; exact ⟨rfl, LPo.badI HX.out ⟨rfl, hM.trans (Mid.els he hs.sz)⟩⟩
 | ok x j =>
 rw [hK'] at hc hX; have HX : Hid (X = .ok { st with c := { st.c with bf := st.c.bf ++ [x] } } j) := Lib.hid hX.symm; clear hX hK'; go_simp; refine Calls.mono (hc) ?_; rintro _ W1 ⟨rfl, hp1, he⟩; dsimp only; refine hK _ _ ?_; clear hK K; have hs1 := hs.els he hgB (by rw [HV.out]; exact hmg); have hM1 := hM.trans (Mid.els (m := m) he hs.sz); have hbx1 := hbx.els he hbg; clear hp hs hM hbx he; refine wpAnyU_ready (CG.of (Hmk.out _ _ hbx1 hp1)) (rs := [8]) (by kernel_rfl) (by simp) ?_; refine (AllReadyU.cons rfl (fun K hK => ?_) AllReadyU.nil); go_simp; refine hK _ _ ?_; clear hK K
 have hab : Below W1.heap.size W1 ((W1.alloc (.cells (intC x).toArray 3)).drew) := ((Below.refl _ _).alloc (Nat.le_refl _) _).drew; have hab' : Below W1.heap.size W1 (W1.alloc (.cells (intC x).toArray 3)) := (Below.refl _ _).alloc (Nat.le_refl _) _; have hown1 := hs1.b.1; rw [Hme.out, Hnm.out] at hown1
 refine genUv (fun W => PcAt W g S j en bg V ∧ StX B tb tc vs W V st ∧ Mid B g m w W ∧ PBx W bx g ∧ OwnR intC 1 B 3 W (.slice am nm cm) st.c.bf ∧ W.heap[W1.heap.size]? = some (.cells (([x] : List Int).flatMap intC).toArray 3 (0, 0))) ⟨hp1.keep hab', hs1.below hab', hM1.trans (Mid.below hab' hs1.sz), hbx1.keep hab', OwnR.keep hown1 hab' (Nat.le_refl _), Go.heap_alloc_new W1 _⟩ ?_; clear hab hab' hp1 hs1 hM1 hbx1 hown1; rintro wy ⟨hp, hs, hM, hbx, hown, hone⟩; have hBy := hs.sz; refine wpAnyU_ready (CG.of (Hmk.out _ _ hbx hp)) (rs := [9]) (by kernel_rfl) (by simp) ?_
 refine (AllReadyU.cons rfl (fun K hK => ?_) AllReadyU.nil); refine step_of rfl (app_rowD (l1 := [x]) 8 intC_len17 (fun y _ u hu => by simp [intC] at hu; subst hu; rfl) Tryd.underlying22 info_int17 rfl (.tmp 6) (.tmp 9) rfl rfl (row_own (l := [x]) intC_len17 hone (by show 1 ≤ maxLen; decide)) hown hBy (by rw [Hnm.out]; simp; omega) (by rw [Hnm.out]; unfold maxLen; simp; omega) ?_); intro v1 W2 ho1 hg1 hr1; refine hK _ _ ?_; clear hK K; have hP1 : PcAt W2 g S j en bg V := hp.grown hg1 (own_ne hown hgB); have hb1 : PBx W2 bx g := grown_obj hg1 hbx (own_ne hown hbB)
 have hS1 := hs.app_b (x := x) ho1 (by rw [Hme.out, Hnm.out]; exact hg1) (by rw [Hme.out, Hnm.out]; exact hr1); have hM1 : Mid B g m w W2 := hM.trans (Mid.grown hg1 hBy fun k hk => (hown.below hk).1); obtain ⟨a1, m1, n1, e1⟩ : ∃ a m c, v1 = .slice a m c := by obtain ⟨a, c, e, _⟩ := ho1.form; exact ⟨a, _, c, e⟩
 subst e1; clear ho1 hg1 hr1 hp hs hM hown hone hBy hbx; have o1 := hP1.c15; have f1 := hP1.free 15; refine tkP 10 rfl ?_; refine tkP 11 rfl ?_; refine tkP 12 rfl ?_; refine wpAnyU_ready (CG.of (Hmk.out _ _ hb1 hP1)) (rs := [13]) (by kernel_rfl) (by simp) ?_; refine (AllReadyU.cons rfl (fun K hK => ?_) AllReadyU.nil); go_simp; refine hK _ _ ?_; clear hK K
 refine genUv (fun W => SAt B g m S j en bg W { st with c := { st.c with bf := st.c.bf ++ [x] } } ∧ Mid B g m w W) ⟨⟨{ V with b := .slice a1 m1 n1 }, tb, tc, vs, HV.out, hP1.set15 _, hS1.els ((Else.refl g _).setCell _ _) hgB (by show V.mp ≠ g; rw [HV.out]; exact hmg)⟩, hM1.cell (.inl rfl)⟩ ?_; clear o1 f1 hP1 hS1 hM1 hb1 Hmk Hop; rintro wz ⟨hs, hM⟩; have HS := Lib.hid hs; have HM := Lib.hid hM; clear hs hM; refine wpAnyU_done (by kernel_rfl) (by kernel_rfl) (by go_simp <;> with_reducible rfl) ?_; wkk; go_end0; exact LPo.okI HX.out ⟨rfl, HS.out, HM.out⟩
set_option maxRecDepth 100000 in
set_option maxHeartbeats 4000000 in
theorem cf_after (B g m bx : Nat) (S : ByteArray) (i en bg F : Nat) (st : CS) (hgB : g < B) (hmg : m ≠ g) (hbB : bx < B) (hbg : bx ≠ g) (hS : S.size ≤ 65536) (hen : en ≤ S.size) (hi : i ≤ en) (hF : en < F) (hL : Lim 65536 st) (w : World) (H : SAt B g m S i en bg w st) (hbx : PBx w bx g) :
   Calls Tryd.prog 30 #[.pointer (some ⟨bx, 0, none⟩)] w (LPo B g m S en bg w ((knownR S.data.toList en F st.c.ns i).bind fun n j => .ok { st with c := { st.c with af := st.c.af ++ [n] } } j)) := by
 obtain ⟨X, hX⟩ : ∃ X, ((knownR S.data.toList en F st.c.ns i).bind fun n j => (.ok { st with c := { st.c with af := st.c.af ++ [n] } } j : PR CS)) = X := ⟨_, rfl⟩; rw [hX]; obtain ⟨V, tb, tc, vs, hV, hp, hs⟩ := H; have HV := Lib.hid hV; have HP := Lib.hid hp; have HS := Lib.hid hs; have hBw := hs.sz; clear hV hp hs; have HM := Lib.hid (Mid.refl B g m w); have HBx := Lib.hid hbx; have hnm := hL.la; obtain ⟨am, cm, hme, _, _⟩ := HS.out.a.1.form; have Hme := Lib.hid hme; have hown := HS.out.a.1; rw [hme] at hown; obtain ⟨nm, hnme⟩ : ∃ nm, st.c.af.length = nm := ⟨_, rfl⟩
 have Hnm := Lib.hid hnme; rw [hnme] at hnm hown; obtain ⟨C, hC⟩ : ∃ C : World → Prop, C = fun W => PBx W bx g ∧ ∃ j', PcAt W g S j' en bg V := ⟨_, rfl⟩
 have Hmk : Hid (∀ W j', PBx W bx g → PcAt W g S j' en bg V → C W) := Lib.hid fun W j' h1 h2 => by rw [hC]; exact ⟨h1, j', h2⟩
 have Hop : Hid (∀ W, C W → PBx W bx g ∧ ∃ j', PcAt W g S j' en bg V) := Lib.hid fun W h => by rw [hC] at h; exact h
 have q0 : ∀ nq : GW C, nq.1.cell? ⟨g, 16, none⟩ = some (.slice am nm cm) := fun nq => by
   obtain ⟨j', h⟩ := (Hop.out _ nq.2).2; rw [h.c16, hme, hnme]
 have r0 : ∀ nq : GW C, nq.1.cell? ⟨bx, 0, none⟩ = some (.pointer (some ⟨g, 0, none⟩)) := fun nq => (Hop.out _ nq.2).1.cell
 clear hC hme hnme hbx; go_enter Tryd.func30, Tryd.ntmps30; wkk; refine wp_region_anyU (by kernel_rfl) C 13 ?_; refine tkU 0 rfl ?_; refine tkU 1 rfl ?_; refine tkU 2 rfl ?_; refine tkU 3 rfl ?_; refine tkU 4 rfl ?_; refine tkU 5 rfl ?_; refine tkU 6 rfl ?_; clear q0 r0; refine genUv (fun W => PcAt W g S i en bg V ∧ StX B tb tc vs W V st ∧ Mid B g m w W ∧ PBx W bx g) ⟨HP.out.keep (Below.refl _ _).drew, HS.out.below (Below.refl _ _).drew, HM.out.trans (Mid.below (Below.refl _ _).drew HS.out.sz), HBx.out.keep (Below.refl _ _).drew⟩ ?_; clear HP HS HM HBx hown hBw; rintro W0 ⟨hp, hs, hM, hbx⟩
 have hc := cf_known g S i en bg F V st.c.ns hS hen hi hF W0 hp (fun w' he => (hs.els he hgB (by rw [HV.out]; exact hmg)).n.1.row); refine wpAnyU_ready (CG.of (Hmk.out _ _ hbx hp)) (rs := [7]) (by kernel_rfl) (by simp) ?_; refine (AllReadyU.cons rfl (fun K hK => ?_) AllReadyU.nil)
 cases hK' : knownR S.data.toList en F st.c.ns i with
 | out => rw [hK'] at hc; go_simp; exact Calls.mono hc (fun _ _ h => h.elim)
 | bad e0 j0 =>
   rw [hK'] at hc hX; have HX := Lib.hid hX.symm; go_simp; refine Calls.mono hc ?_; rintro _ wz ⟨rfl, he⟩; exact ⟨rfl, LPo.badI HX.out ⟨rfl, hM.trans (Mid.els he hs.sz)⟩⟩
 | ok x j =>
 rw [hK'] at hc hX; have HX : Hid (X = .ok { st with c := { st.c with af := st.c.af ++ [x] } } j) := Lib.hid hX.symm; clear hX hK'; go_simp; refine Calls.mono (hc) ?_; rintro _ W1 ⟨rfl, hp1, he⟩; dsimp only; refine hK _ _ ?_; clear hK K; have hs1 := hs.els he hgB (by rw [HV.out]; exact hmg); have hM1 := hM.trans (Mid.els (m := m) he hs.sz); have hbx1 := hbx.els he hbg; clear hp hs hM hbx he; refine wpAnyU_ready (CG.of (Hmk.out _ _ hbx1 hp1)) (rs := [8]) (by kernel_rfl) (by simp) ?_; refine (AllReadyU.cons rfl (fun K hK => ?_) AllReadyU.nil); go_simp; refine hK _ _ ?_; clear hK K
 have hab : Below W1.heap.size W1 ((W1.alloc (.cells (intC x).toArray 3)).drew) := ((Below.refl _ _).alloc (Nat.le_refl _) _).drew; have hab' : Below W1.heap.size W1 (W1.alloc (.cells (intC x).toArray 3)) := (Below.refl _ _).alloc (Nat.le_refl _) _; have hown1 := hs1.a.1; rw [Hme.out, Hnm.out] at hown1
 refine genUv (fun W => PcAt W g S j en bg V ∧ StX B tb tc vs W V st ∧ Mid B g m w W ∧ PBx W bx g ∧ OwnR intC 1 B 3 W (.slice am nm cm) st.c.af ∧ W.heap[W1.heap.size]? = some (.cells (([x] : List Int).flatMap intC).toArray 3 (0, 0))) ⟨hp1.keep hab', hs1.below hab', hM1.trans (Mid.below hab' hs1.sz), hbx1.keep hab', OwnR.keep hown1 hab' (Nat.le_refl _), Go.heap_alloc_new W1 _⟩ ?_; clear hab hab' hp1 hs1 hM1 hbx1 hown1; rintro wy ⟨hp, hs, hM, hbx, hown, hone⟩; have hBy := hs.sz; refine wpAnyU_ready (CG.of (Hmk.out _ _ hbx hp)) (rs := [9]) (by kernel_rfl) (by simp) ?_
 refine (AllReadyU.cons rfl (fun K hK => ?_) AllReadyU.nil); refine step_of rfl (app_rowD (l1 := [x]) 8 intC_len17 (fun y _ u hu => by simp [intC] at hu; subst hu; rfl) Tryd.underlying22 info_int17 rfl (.tmp 6) (.tmp 9) rfl rfl (row_own (l := [x]) intC_len17 hone (by show 1 ≤ maxLen; decide)) hown hBy (by rw [Hnm.out]; simp; omega) (by rw [Hnm.out]; unfold maxLen; simp; omega) ?_); intro v1 W2 ho1 hg1 hr1; refine hK _ _ ?_; clear hK K; have hP1 : PcAt W2 g S j en bg V := hp.grown hg1 (own_ne hown hgB); have hb1 : PBx W2 bx g := grown_obj hg1 hbx (own_ne hown hbB)
 have hS1 := hs.app_a (x := x) ho1 (by rw [Hme.out, Hnm.out]; exact hg1) (by rw [Hme.out, Hnm.out]; exact hr1); have hM1 : Mid B g m w W2 := hM.trans (Mid.grown hg1 hBy fun k hk => (hown.below hk).1); obtain ⟨a1, m1, n1, e1⟩ : ∃ a m c, v1 = .slice a m c := by obtain ⟨a, c, e, _⟩ := ho1.form; exact ⟨a, _, c, e⟩
 subst e1; clear ho1 hg1 hr1 hp hs hM hown hone hBy hbx; have o1 := hP1.c16; have f1 := hP1.free 16; refine tkP 10 rfl ?_; refine tkP 11 rfl ?_; refine tkP 12 rfl ?_; refine wpAnyU_ready (CG.of (Hmk.out _ _ hb1 hP1)) (rs := [13]) (by kernel_rfl) (by simp) ?_; refine (AllReadyU.cons rfl (fun K hK => ?_) AllReadyU.nil); go_simp; refine hK _ _ ?_; clear hK K
 refine genUv (fun W => SAt B g m S j en bg W { st with c := { st.c with af := st.c.af ++ [x] } } ∧ Mid B g m w W) ⟨⟨{ V with a := .slice a1 m1 n1 }, tb, tc, vs, HV.out, hP1.set16 _, hS1.els ((Else.refl g _).setCell _ _) hgB (by show V.mp ≠ g; rw [HV.out]; exact hmg)⟩, hM1.cell (.inl rfl)⟩ ?_; clear o1 f1 hP1 hS1 hM1 hb1 Hmk Hop; rintro wz ⟨hs, hM⟩; have HS := Lib.hid hs; have HM := Lib.hid hM; clear hs hM; refine wpAnyU_done (by kernel_rfl) (by kernel_rfl) (by go_simp <;> with_reducible rfl) ?_; wkk; go_end0; exact LPo.okI HX.out ⟨rfl, HS.out, HM.out⟩
end Go.Proofs.YtonkenlkigfeoaaDoor
