/- Laws: append in a region that draws; the states just made; the last place taken off. No conditions. -/
import Derived.Test.YtkpdcejnanhgoaaPk16
import Derived.Test.YtkpdcejnanhgoaaPk15
import Derived.Test.YtkpdcejnanhgoaaPk03
import Derived.Test.YtkpdcejnanhgoaaPk13
import Derived.WalkMore
namespace Go.Proofs.Ytkpdcejnanhgoaa
open Go.RowKit
/-- the operation: 'append(s, x...)', whatever x is, so its cells are read in every later state of the same memory -/
theorem wp_appendO {P : Program} {w : World} {o : Oper} {a : Act} {K : Act → World → Prop} {Q : Exit → Act → World → Prop} {t u e : TypeId} (B : Nat) {v : Value} {n : Nat} {xs : List Value} {z : Value} (sz bytes : Nat)
    (ht : P.underlying t = some (.slice e)) (hu : P.underlying u = some (.slice e) ∨ P.underlying u = some .string) (h2 : (P.info? e).map (fun i => (i.zero, i.size, i.bytes)) = some (some z, sz, bytes)) (hzs : z.cells.size = sz)
    (s x' : Operand) (hop : o.op = Op.call { callee := Callee.builtin Builtin.append, args := #[s, x'], argTypes := #[t, u] }) (hs : a.eval s = v)
    (m : Nat) (news : List Value) (hlen : (Builtin.lenOf (a.eval x')).run P w = .ok m w) (hfc : ∀ k : Nat, (Builtin.firstCells sz m (a.eval x')).run P (w.drewN k) = .ok news.toArray (w.drewN k)) (hnl : news.length = m * sz) (h1 : ∀ u ∈ news, u.oneCell' = true)
    (hown : OwnC B e sz w v n xs) (hB : B ≤ w.heap.size) (hbig : (n + m) * bytes ≤ 140737488355328) (h63 : n + m ≤ maxLen)
    (hK : ∀ v' w', OwnC B e sz w' v' (n + m) (xs ++ news) → w.grownBy w' v.ownBlock → K (a.put o.dst v') w') :
    o.wp P a w K Q := by
  obtain ⟨i, hi, hz0, hz1, hz2⟩ := info_parts h2
  obtain ⟨v', w', hrun, r1, r2⟩ := run_append_C (P := P) w B t u o.type e i z sz bytes ht hu hi hz0 hz1 hz2 hzs v n xs hown (a.eval x') m news hlen hfc hnl h1 hbig h63 hB
  unfold Oper.wp
  simp [execOp, hop, resolve, invoke, builtin, hs, hrun, Result.andThen]
  exact hK v' w' r1 r2
section
variable {α : Type} {f : α → List Value} {sz B : Nat} {e : TypeId} {w : World} {v : Value} {l : List α}
/-- 'append(l, x)': the block of x was just laid -/
theorem app_oneO {P : Program} {o : Oper} {a : Act} {K : Act → World → Prop} {Q : Exit → Act → World → Prop} {t : TypeId} {z : Value} {cs : Array Value} (bytes : Nat) (h : Nat) (hh : h = w.heap.size) (x : α) (hf : ∀ y, (f y).length = sz) (ho : ∀ u ∈ f x, u.oneCell' = true)
    (h1 : P.underlying t = some (.slice e)) (h2 : (P.info? e).map (fun i => (i.zero, i.size, i.bytes)) = some (some z, sz, bytes)) (hzs : z.cells.size = sz)
    (s x' : Operand) (hop : o.op = Op.call { callee := Callee.builtin Builtin.append, args := #[s, x'], argTypes := #[t, t] })
    (hs : a.eval s = v) (hx : a.eval x' = .slice (some ⟨h, 0, none⟩) 1 1) (hcs : cs = (f x).toArray)
    (hown : OwnR f sz B e w v l) (hB : B ≤ w.heap.size) (hbig : (l.length + 1) * bytes ≤ 140737488355328) (hlen : l.length + 1 ≤ maxLen)
    (hK : ∀ v' w', OwnR f sz B e w' v' (l ++ [x]) → Below B w w' → KeepB e w w' → w.heap.size ≤ w'.heap.size → K (a.put o.dst v') w') :
    o.wp P a (w.alloc (.cells cs e)) K Q := by
  subst hcs hh
  refine wp_appendO B sz bytes h1 (.inl h1) h2 hzs s x' hop hs 1 (f x) (by rw [hx]; exact lenOf_slice) ?_ (by rw [hf, Nat.one_mul]) ho (OwnC.alloc hown _) (by simp; omega) hbig hlen ?_
  · rw [hx]
    exact firstCells_at (by rw [hf, Nat.one_mul]) (fun j u hj => by
      rw [Addr.add_lit, Nat.zero_add, cell_of_row _ w.heap.size j _ e (0, 0) (Go.heap_alloc_new w _)]
      simpa using hj)
  · intro v' w1 hown' hgrow
    have hsz := hgrow.size
    simp at hsz
    refine hK v' w1 ?_ ?_ ?_ (by omega)
    · unfold OwnR; simpa [List.flatMap_append] using hown'
    · exact ((Below.refl _ _).alloc hB _).grown hgrow (by simp; omega) (fun k hk => (OwnC.lt hown k hk).1)
    · intro k cs t' fz hk ht
      have hkl := (Array.getElem?_eq_some_iff.1 hk).1
      rw [hgrow.block k (by simp; omega) (fun e' => ?_), Go.heap_alloc_old w _ hkl]
      · exact hk
      · obtain ⟨cs', fz', h'⟩ := hown.typed (k := k) e'.symm
        rw [hk] at h'
        simp at h'
        exact ht h'.2.1
end
theorem run_make_v {P : Program} (t e : TypeId) (z : Value) (sz bytes : Nat) (ht : P.underlying t = some (.slice e)) (hinfo : (P.info? e).map (fun i => (i.zero, i.size, i.bytes)) = some (some z, sz, bytes))
    (n : Nat) (hbytes : bytes * n ≤ 281474976710656) (h63 : n ≤ 9223372036854775807) (w : World) :
    (Instr.makeSlice t (.int .i64 (n : Int)) (.int .i64 (n : Int))).run P w = .ok (.slice (some ⟨w.heap.size, 0, none⟩) n n) (w.alloc (.cells (madeCells z.cells (n * sz)) e)) := by
  obtain ⟨i, hi, hzz⟩ := Option.map_eq_some_iff.1 hinfo
  simp only [Prod.mk.injEq] at hzz
  obtain ⟨hz, hs, hb⟩ := hzz
  have hb' : (i.bytes : Int) * (n : Int) ≤ 281474976710656 := by
    have h : ((i.bytes * n : Nat) : Int) ≤ 281474976710656 := by rw [hb]; omega
    rwa [Int.natCast_mul] at h
  have hr := run_make (P := P) w t e i z ht hi hz .i64 .i64 n n (by omega) (Int.le_refl _) hb' (by omega)
  simp only [Int.toNat_natCast, hs] at hr
  exact hr
theorem made_atv (z : Array Value) (n i : Nat) (h : i < n) : (madeCells z n)[i]? = some (z[i % z.size]!) := by
  unfold madeCells
  rw [Array.getElem?_map, Array.getElem?_range]
  simp [h]
abbrev zSt : Array Value := #[.bool false, .int .i64 0, .int .i64 0, .int .i64 0, .int .i64 0, .int .i64 0, .int .i64 0, .int .i64 0, .int .i64 0, .int .i64 0, .int .i64 0, .int .i64 0, .int .i64 0, .int .i64 0, .int .i64 0, .int .i64 0, .int .i64 0]
theorem info_vst : (Try.prog.info? 82).map (fun i => (i.zero, i.size, i.bytes)) = some (some (.agg zSt), 17, 136) := by kernel_rfl
theorem info_vspans : (Try.prog.info? 77).map (fun i => (i.zero, i.size, i.bytes)) = some (some (.agg #[.int .i64 0, .int .i64 0]), 2, 16) := by kernel_rfl
theorem ini_get {k : Nat} (hk : k < 16) : (rgC iniR)[k]? = some (.int .i64 0) ∧ zSt[k + 1]! = .int .i64 0 := by
  rcases (by omega : k = 0 ∨ k = 1 ∨ k = 2 ∨ k = 3 ∨ k = 4 ∨ k = 5 ∨ k = 6 ∨ k = 7 ∨ k = 8 ∨ k = 9 ∨ k = 10 ∨ k = 11 ∨ k = 12 ∨ k = 13 ∨ k = 14 ∨ k = 15) with rfl | rfl | rfl | rfl | rfl | rfl | rfl | rfl | rfl | rfl | rfl | rfl | rfl | rfl | rfl | rfl <;> exact ⟨rfl, rfl⟩
theorem stsP_made (w : World) (n : Nat) : StsP (w.alloc (.cells (madeCells zSt (n * 17)) 82)) w.heap.size (List.replicate n none) := by
  have hb := Go.heap_alloc_new w (.cells (madeCells zSt (n * 17)) 82)
  refine ⟨⟨_, hb, by rw [size_madeCells, List.length_replicate]⟩, fun i hi => ?_, fun i hi => ?_, fun i r h => by rw [none_at] at h; cases h⟩
  · rw [List.length_replicate] at hi
    rw [none_at, cell_of_row _ _ _ _ _ _ hb, made_atv _ _ _ (by omega)]
    rw [show i * 17 % zSt.size = 0 from by simp]; rfl
  · rw [List.length_replicate] at hi
    rw [none_at]
    intro k u hu
    have hk : k < 16 := by rw [← rgC_len (show iniR.length = 8 from rfl)]; exact (List.getElem?_eq_some_iff.1 hu).1
    obtain ⟨g1, g2⟩ := ini_get hk
    rw [cell_of_row _ _ _ _ _ _ hb, made_atv _ _ _ (by omega)]
    rw [show (i * 17 + 1 + k) % zSt.size = k + 1 from by simp; omega, g2]
    rw [← hu]
    exact g1.symm
/-- the last one taken off -/
theorem own_pop {α : Type} {f : α → List Value} {sz B : Nat} {e : TypeId} {w : World} {g c n : Nat} {l : List α} {x : α} (hf : ∀ y, (f y).length = sz) (h : OwnR f sz B e w (.slice (some ⟨g, 0, none⟩) n c) (l ++ [x])) : OwnR f sz B e w (.slice (some ⟨g, 0, none⟩) l.length c) l := by
  have hl : (l.flatMap f).length = l.length * sz := by
    clear h
    induction l with
    | nil => simp
    | cons a l ih => rw [List.flatMap_cons, List.length_append, hf, ih, List.length_cons, Nat.succ_mul]; omega
  refine ⟨hl, ?_⟩
  rcases h.2 with ⟨h', _⟩ | ⟨g', cap, cur, fz, h', hB, hg, hfz, hnc, hcm, hcs, ht⟩
  · simp at h'
  · simp only [Value.slice.injEq, Option.some.injEq, Addr.mk.injEq, and_true] at h'
    obtain ⟨rfl, hn, rfl⟩ := h'
    rw [List.length_append, List.length_singleton] at hnc ht hn
    refine .inr ⟨g, c, cur, fz, rfl, hB, hg, hfz, by omega, hcm, hcs, ?_⟩
    have h1 : (cur.toList.take ((l.length + 1) * sz)).take (l.length * sz) = cur.toList.take (l.length * sz) := by
      rw [List.take_take, Nat.min_eq_left (Nat.mul_le_mul_right _ (Nat.le_succ _))]
    rw [← h1, ht, List.flatMap_append, List.take_append_of_le_length (by rw [hl]; exact Nat.le_refl _), List.take_of_length_le (by rw [hl]; exact Nat.le_refl _)]
theorem tdI_at {td : List Nat} {k : Nat} : (tdI (td ++ [k]))[td.length]? = some (k : Int) := by
  unfold tdI; simp
/-- a state as it is handed over -/
abbrev stV (o : Option Rg) : Value := .agg (Value.bool o.isSome :: rgC (stR o)).toArray
theorem info_vs17 : (Try.prog.info? 82).map (fun i => i.size) = some 17 := by kernel_rfl
theorem StsP.whole {w : World} {b : Nat} {S : Sts} (h : StsP w b S) {i : Nat} (hi : i < S.length) : w.rangeAt b (i * 17) (Value.bool (S.getD i none).isSome :: rgC (stR (S.getD i none))) := by
  intro k u hu
  cases k with
  | zero => rw [Nat.add_zero, h.one i hi]; simpa using hu
  | succ k =>
    have := h.regs i hi k u (by simpa using hu)
    rw [← this]; congr 2; omega
theorem load_st {o : Oper} {a : Act} {w : World} {K : Act → World → Prop} {Q : Exit → Act → World → Prop} {b i : Nat} {S : Sts} (hs : StsP w b S) (hi : i < S.length) (x : Operand) (ho : o.op = .load 82 x)
    (hx : a.eval x = .pointer (some ⟨b, i * 17, none⟩)) (h : K (a.put o.dst (stV (S.getD i none))) w) : o.wp Try.prog a w K Q :=
  wp_load_mid 82 x ho b (i * 17) hx _ _ (hs.whole hi) Try.underlying82 rfl (by rw [info_vs17, List.length_cons, rgC_len (hs.len8 i)]) h
theorem store_st {o : Oper} {a : Act} {w : World} {K : Act → World → Prop} {Q : Exit → Act → World → Prop} {z : Array Value} {h : Nat} {s : Option Rg} (hh : h = w.heap.size) (hz : z.size = 17) (h8 : (stR s).length = 8) (x y : Operand) (ho : o.op = .store 82 x y)
    (hx : a.eval x = .pointer (some ⟨h, 0, none⟩)) (hy : a.eval y = stV s) (hK : K (a.put o.dst undef) (w.alloc (.cells (Value.bool s.isSome :: rgC (stR s)).toArray 82))) : o.wp Try.prog a (w.alloc (.cells z 82)) K Q := by
  subst hh
  refine wp_store_row _ x y ho w.heap.size (Value.bool s.isSome :: rgC (stR s)).toArray hx hy 82 z (Go.heap_alloc_new _ _) (by rw [info_vs17]; simp [rgC_len h8]) (by rw [hz]; simp [rgC_len h8]) (all_oneCell_toArray (fun v hv => by
    rcases List.mem_cons.1 hv with rfl | hv
    · rfl
    · exact rgC_one _ v hv)) ?_
  rw [alloc_setRow]
  exact hK
/-- the list of what is in each table grows -/
theorem CK.grow {B g b : Nat} {p : Prg} {v : PV} {of : Rg} {vo vt : Value} {S : Sts} {td : List Nat} {w w' : World} (h : CK B g b p v of vo S td vt w) {vo' : Value} {of' : Rg} (ht : OwnR spC 2 B 77 w' vo' of') (hk : KeepB 77 w w') : CK B g b p v of' vo' S td vt (w'.setCell ⟨g, 12, none⟩ vo') := by
  have hck : CkAt w' g p v b S.length vt vo := hk _ _ _ _ h.ck (by decide)
  have hck2 : CkAt (w'.setCell ⟨g, 12, none⟩ vo') g p v b S.length vt vo' := by
    unfold CkAt at hck ⊢
    rw [setCell_eq_setRow w' g 12 _ _ _ vo' hck, setRow_heap _ _ _ _ _ _ hck]; simp
  obtain ⟨cs, h1, h2⟩ := h.sts.blk
  have hsb : w'.heap[b]? = w.heap[b]? := by rw [h1]; exact hk _ _ _ _ h1 (by decide)
  have hgb := h.gb
  refine ⟨hck2, ?_, ?_, ?_, h.bel⟩
  · exact (h.sts.of_heap hsb).of_heap (heap_setCell_other _ _ _ _ (by dsimp only; exact fun e => hgb e.symm))
  · have ho : OwnR intC 1 B 3 w' vt (tdI td) := h.td.other fun k hk' => by
      obtain ⟨cs', fz, h3⟩ := h.td.typed hk'
      rw [h3]; exact hk _ _ _ _ h3 (by decide)
    exact ho.setOther fun k hk' => (h.tdg hk').1
  · refine ht.setOther fun k hk' e => ?_
    subst e
    obtain ⟨cs', fz, h3⟩ := ht.typed hk'
    unfold CkAt at hck
    rw [h3] at hck
    simp at hck
theorem ver_flow_ini {B : Nat} {p : Prg} {v : PV} {of : Rg} {vo vt : Value} {g b n : Nat} (w : World) (H : CK B g b p v of vo (List.replicate n none) [] vt w) (hn : 0 < n) (hB : B ≤ w.heap.size) :
    Calls Try.prog 27 #[.pointer (some ⟨g, 0, none⟩), .int .i64 0, .agg #[.int .i64 0, .int .i64 0, .int .i64 0, .int .i64 0, .int .i64 0, .int .i64 0, .int .i64 0, .int .i64 0, .int .i64 0, .int .i64 0, .int .i64 0, .int .i64 0, .int .i64 0, .int .i64 0, .int .i64 0, .int .i64 0]] w fun e w' => e = .returned (.tuple #[]) ∧ ∃ vt', CK B g b p v of vo (flow (List.replicate n none, []) 0 iniR).1 (flow (List.replicate n none, []) 0 iniR).2 vt' w' ∧ FlowFr B w w' :=
  ver_flowP (List.replicate n none, []) 0 iniR w H ⟨Int.le_refl _, by simp; omega⟩ rfl (by simp) hB
theorem pES_none_le (of : Rg) (code : List (Nat → Int)) (n : Nat) (hn : n ≤ 4096) (hc : code.length ≤ 4096) (ho : of.length ≤ 16) : pES (endsL of code) (List.replicate n none) ≤ 900000000 := by
  rw [pES_none, endsL_len]
  have h1 : 8 * (2 * (2 + code.length * 3 + of.length * 2)) + 1 ≤ 200000 := by omega
  exact Nat.le_trans (Nat.mul_le_mul hn h1) (by decide)
theorem ends_step {of : List (Int × Int)} {code : List (Nat → Int)} (hc : CodeOk of code) {S : Sts} {td : List Nat} {i : Nat} (h : PI of code (S, td ++ [i])) (hE : EI (endsL of code) S) (ht : ∀ x, code[i]? = some x → x 0 = 8 → (x 4).toNat < of.length) :
    EI (endsL of code) (stepF of code (S, td) i).1 ∧ pES (endsL of code) (stepF of code (S, td) i).1 + (stepF of code (S, td) i).2.length ≤ pES (endsL of code) S + td.length := by
  obtain ⟨hi, hr⟩ := h.todo i (by simp)
  dsimp only at hr
  obtain ⟨x, hx⟩ : ∃ x, code[i]? = some x := ⟨_, List.getElem?_eq_getElem hi⟩
  obtain ⟨r, hr⟩ : ∃ r, S.getD i none = some r := by
    cases e : S.getD i none with
    | none => exact absurd e hr
    | some r => exact ⟨r, rfl⟩
  have hro := h.ok.2 i r hr
  have hk := hc.ok i x hx
  have hC := hc.c i x hx
  rw [stepF_eq (st := (S, td)) hx hr]
  have F1 := @flowO_flown code.length (S, td) (x 3).toNat (goF x r) h.ok (fun q hq => ⟨by omega, goF_ok hk hro hq⟩)
  have E1 := flowO_ends (E := endsL of code) (n := code.length) (td := td) (k := (x 3).toNat) (o := goF x r) h.ok hE (fun q hq => by
    have := goF_ends (of := of) hx hk hro.1 (hE i r hr) hq
    exact ⟨this.1, this.2, by omega⟩)
  have E2 := flowO_ends (E := endsL of code) (n := code.length) (td := (flowO (S, td) (x 3).toNat (goF x r)).2) (k := i + 1) (o := goN of x r) F1.ok E1.1 (fun q hq => by
    have := goN_ends (of := of) hx hk (ht x hx) hro.1 (hE i r hr) hq
    exact ⟨this.1, this.2, hc.last i x r hx (by rw [hq]; simp)⟩)
  exact ⟨E2.1, Nat.le_trans E2.2 E1.2⟩
/-- a state in a variable -/
def VSt (w : World) (g : Nat) (s : Option Rg) : Prop := w.heap[g]? = some (.cells (Value.bool s.isSome :: rgC (stR s)).toArray 82 (0, 0))
theorem VSt.keep {w w' : World} {g : Nat} {s : Option Rg} (h : VSt w g s) (hb : Below w.heap.size w w') : VSt w' g s := by
  unfold VSt; rw [hb.block g (Array.getElem?_eq_some_iff.1 h).1]; exact h
theorem VSt.one {w : World} {g : Nat} {s : Option Rg} (h : VSt w g s) : w.cell? ⟨g, 0, none⟩ = some (.bool s.isSome) := by rw [cell_of_row _ _ _ _ _ _ h]; rfl
theorem VSt.regs {w : World} {g : Nat} {s : Option Rg} (h : VSt w g s) : w.rangeAt g 1 (rgC (stR s)) := fun j v hv => by
  rw [cell_of_row _ _ _ _ _ _ h, ← hv, Nat.add_comm 1 j]
  simp
end Go.Proofs.Ytkpdcejnanhgoaa
/- Walk: a program's check. Condition: the program lies in memory. -/
namespace Go.Proofs.Ytkpdcejnanhgoaa
open Go.RowKit
set_option maxRecDepth 100000 in
set_option maxHeartbeats 16000000 in
theorem ver_Check (p : Prg) (v : PV) (w : World) (H : PrgAt w v p) : Calls Try.prog 8 #[pgV p v] w fun e w' => e = .returned (.tuple #[.int .i64 (checkI p).1, .int .i64 (checkI p).2]) ∧ Below w.heap.size w w' := by
  have HH := Lib.hid H
  obtain ⟨ac, cc, hvc, hcc, hmc, hcellc⟩ := H.code.open icL_len
  obtain ⟨ts, hts, htl, htr⟩ := H.tabs
  obtain ⟨at', ct, hvt, hct, hmt, hcellt⟩ := hts.open (f := tbC) (sz := 2) (fun _ => rfl)
  obtain ⟨vc, vt, vx, vs, vk, vv⟩ := v
  dsimp only at hvc hvt
  subst hvc hvt
  have HP : Hid (PBox (w.alloc (.cells (pgC p ⟨.slice ac p.code.length cc, .slice at' ts.length ct, vx, vs, vk, vv⟩) 45)) w.heap.size p ⟨.slice ac p.code.length cc, .slice at' ts.length ct, vx, vs, vk, vv⟩) := Lib.hid (PBox.new _ _ _)
  have Hb0 : Hid (Below w.heap.size w (w.alloc (.cells (pgC p ⟨.slice ac p.code.length cc, .slice at' ts.length ct, vx, vs, vk, vv⟩) 45))) := Lib.hid ((Below.refl _ _).alloc (Nat.le_refl _) _)
  have HW := Lib.hid fun w H => ver_shape p ⟨.slice ac p.code.length cc, .slice at' ts.length ct, vx, vs, vk, vv⟩ w H
  obtain ⟨n, hn⟩ : ∃ n, n = p.code.length := ⟨_, rfl⟩
  have Hn := Lib.hid hn
  obtain ⟨m, hm⟩ : ∃ m, m = ts.length := ⟨_, rfl⟩
  have Hm := Lib.hid hm
  rw [← hn, ← hm] at HH HP Hb0 HW
  rw [← hn, ← hm]
  obtain ⟨G, hG⟩ : ∃ G, G = checkI p := ⟨_, rfl⟩
  have Hc1 : Hid ((shapeI p).1 ≠ 0 → G = shapeI p) := Lib.hid fun h => hG.trans (check_shape h)
  have Hc2 : Hid ((shapeI p).1 = 0 → ∀ S, Least (ofP p) p.code S → G = wrongI p S) := Lib.hid fun h S hS => hG.trans (check_whole h hS)
  have Hsw : Hid ((shapeI p).1 = 0 → Whole p) := Lib.hid fun h => (shape_whole h).1
  rw [← hG]
  obtain ⟨s1, hs1⟩ : ∃ s, s = (shapeI p).1 := ⟨_, rfl⟩
  obtain ⟨s2, hs2⟩ : ∃ s, s = (shapeI p).2 := ⟨_, rfl⟩
  have Hs : Hid (shapeI p = (s1, s2)) := Lib.hid (by rw [hs1, hs2])
  rw [← hs1, ← hs2] at HW
  rw [← hs1] at Hc1 Hc2 Hsw
  have Hcell := Lib.hid hcellc
  have Hts := Lib.hid htr
  have Htl := Lib.hid htl
  have Hct := Lib.hid hcellt
  clear hG hs1 hs2 H hcellc hmc hcc hn hm htr htl hcellt hts hct hmt
  go_enter Try.func8, Try.ntmps8
  repeat' (first | go_values | go_skip | go_guarded | go_step | go_upon)
  go_step3
  repeat' (first | (with_reducible refine load_pg HP.out _ rfl rfl ?_) | go_values | go_skip | go_guarded | go_step | go_upon)
  refine Calls.mono (HW.out _ (HH.out.keep Hb0.out)) ?_
  rintro _ w1 ⟨rfl, hb1⟩
  dsimp only
  have P1 := Lib.hid (HP.out.keep hb1)
  have B1 := Lib.hid (Hb0.out.trans (hb1.mono Hb0.out.size))
  clear hb1 HP Hb0 HW
  by_cases h0 : s1 = 0
  rotate_left
  · have e := Hc1.out h0
    rw [Hs.out] at e
    have hne : (s1 != 0) = true := by rw [bne_iff_ne]; exact h0
    clear h0 Hc1 Hc2 Hsw Hs
    subst e
    repeat' (first | go_values | go_skip | go_guarded | go_step | go_upon)
    rw [Exit.noGoto_ret]
    go_ret2
    exact ⟨rfl, B1.out⟩
  · have hne : (s1 != 0) = false := by rw [bne_eq_false_iff_eq]; exact h0
    have Hwh := Lib.hid (Hsw.out h0)
    have Hc3 := Lib.hid (Hc2.out h0)
    clear h0 Hc1 Hc2 Hsw Hs
    have hln : 1 ≤ n ∧ n ≤ 4096 := by rw [Hn.out]; exact Hwh.out.len
    have hmk := fun w' => run_make_v (P := Try.prog) 69 82 (.agg zSt) 17 136 Try.underlying69 info_vst n (by omega) (by omega) w'
    repeat' (go_not_at_region 4; first | go_values | go_skip | go_guarded | go_step | go_upon)
    clear hne
    obtain ⟨g1, hg1⟩ : ∃ g, g = w.heap.size := ⟨_, rfl⟩
    rw [← hg1] at P1 ⊢
    have hg1' : g1 < w1.heap.size := P1.out.lt
    have hgB : w.heap.size ≤ g1 := by omega
    clear hg1
    have u0 : ∀ nq : WB w1, nq.1.cell? ⟨g1, 0, none⟩ = some (.int .i64 p.grow) := fun nq => (P1.out.keep nq.2).ten.1
    have u1 : ∀ nq : WB w1, nq.1.cell? ⟨g1, 1, none⟩ = some (.int .i64 p.rest) := fun nq => (P1.out.keep nq.2).ten.2.1
    have u2 : ∀ nq : WB w1, nq.1.cell? ⟨g1, 2, none⟩ = some (.int .i64 p.extra) := fun nq => (P1.out.keep nq.2).ten.2.2.1
    have u3 : ∀ nq : WB w1, nq.1.cell? ⟨g1, 3, none⟩ = some (.int .i64 p.signs) := fun nq => (P1.out.keep nq.2).ten.2.2.2.1
    have u4 : ∀ nq : WB w1, nq.1.cell? ⟨g1, 4, none⟩ = some (.slice ac n cc) := fun nq => (P1.out.keep nq.2).ten.2.2.2.2.1
    have u5 : ∀ nq : WB w1, nq.1.cell? ⟨g1, 5, none⟩ = some (.slice at' m ct) := fun nq => (P1.out.keep nq.2).ten.2.2.2.2.2.1
    have u6 : ∀ nq : WB w1, nq.1.cell? ⟨g1, 6, none⟩ = some vx := fun nq => (P1.out.keep nq.2).ten.2.2.2.2.2.2.1
    have u7 : ∀ nq : WB w1, nq.1.cell? ⟨g1, 7, none⟩ = some vs := fun nq => (P1.out.keep nq.2).ten.2.2.2.2.2.2.2.1
    have u8 : ∀ nq : WB w1, nq.1.cell? ⟨g1, 8, none⟩ = some vk := fun nq => (P1.out.keep nq.2).ten.2.2.2.2.2.2.2.2.1
    have u9 : ∀ nq : WB w1, nq.1.cell? ⟨g1, 9, none⟩ = some vv := fun nq => (P1.out.keep nq.2).ten.2.2.2.2.2.2.2.2.2
    refine wp_region_anyC (by kernel_rfl) w1 ?_
    refine tkC 0 rfl ?_
    refine tkC 1 rfl ?_
    refine tkC 2 rfl ?_
    refine tkC 3 rfl ?_
    refine wpAnyC_ready (CW.of ((Below.refl _ _).drew)) (rs := [4]) (by kernel_rfl) (by simp) ?_
    refine (AllReadyC.cons rfl (fun K hK => ?_) AllReadyC.nil)
    go_simp
    refine hK _ _ ?_
    clear hK K
    refine tkC 5 rfl ?_
    refine wpAnyC_ready (CW.of (((Below.refl _ _).drew).alloc (by simp) _)) (rs := [6]) (by kernel_rfl) (by simp) ?_
    refine (AllReadyC.cons rfl (fun K hK => ?_) AllReadyC.nil)
    go_simp
    refine hK _ _ ?_
    clear hK K
    refine tkC 7 rfl ?_
    refine wpAnyC_done (by kernel_rfl) (CW.of ((((Below.refl _ _).alloc (Nat.le_refl _) _).alloc (by simp) _).drew)) (by go_simp <;> with_reducible rfl) ?_
    repeat' (go_not_at_region 5; first | go_values | go_skip | go_guarded | go_step | go_upon)
    clear u0 u1 u2 u3 u4 u5 u6 u7 u8 u9 hmk
    have hb2 : Below w1.heap.size w1 (((w1.alloc (.cells (madeCells zSt (n * 17)) 82)).alloc (.cells (ckC p ⟨.slice ac n cc, .slice at' m ct, vx, vs, vk, vv⟩ w1.heap.size n (.slice none 0 0) (.slice none 0 0)) 72)).drew) := (((Below.refl _ _).alloc (Nat.le_refl _) _).alloc (by simp) _).drew
    obtain ⟨ba, hba⟩ : ∃ y, y = w1.heap.size := ⟨_, rfl⟩
    have HCK : Hid (CK w.heap.size (ba + 1) ba p ⟨.slice ac n cc, .slice at' m ct, vx, vs, vk, vv⟩ [] (.slice none 0 0) (List.replicate n none) [] (.slice none 0 0) (((w1.alloc (.cells (madeCells zSt (n * 17)) 82)).alloc (.cells (ckC p ⟨.slice ac n cc, .slice at' m ct, vx, vs, vk, vv⟩ w1.heap.size n (.slice none 0 0) (.slice none 0 0)) 72)).drew)) := Lib.hid (by
      refine ⟨?_, ?_, OwnR.nil, OwnR.nil, by have := B1.out.size; omega⟩
      · unfold CkAt
        rw [List.length_replicate, hba]
        exact (two_new w1 _ _).1
      · rw [hba]
        exact (stsP_made w1 n).keep (((Below.refl _ _).alloc (Nat.le_refl _) _).drew))
    rw [← hba] at HCK ⊢
    have hbb : g1 < ba := by omega
    have Hbb := Lib.hid hbb
    refine gen_wd (fun w' => CK w.heap.size (ba + 1) ba p ⟨.slice ac n cc, .slice at' m ct, vx, vs, vk, vv⟩ [] (.slice none 0 0) (List.replicate n none) [] (.slice none 0 0) w' ∧ PBox w' g1 p ⟨.slice ac n cc, .slice at' m ct, vx, vs, vk, vv⟩ ∧ Below w.heap.size w w') ⟨HCK.out, P1.out.keep (by rw [hba] at *; exact hb2), B1.out.trans ((by rw [hba] at *; exact hb2 : Below w1.heap.size w1 _).mono B1.out.size)⟩ ?_
    clear HCK hb2 P1 B1 hbb hg1'
    rintro wa ⟨j1, j2, j3⟩
    have J1 := Lib.hid j1
    have J2 := Lib.hid j2
    have J3 := Lib.hid j3
    have c5 := j2.cell 5
    clear j1 j2 j3 hba
    obtain ⟨V, hV⟩ : ∃ V : PV, V = ⟨.slice ac n cc, .slice at' m ct, vx, vs, vk, vv⟩ := ⟨_, rfl⟩
    have HV := Lib.hid hV
    rw [← hV] at J1 J2
    rw [← hV] at HH
    clear hV
    repeat' (first | go_values | go_skip | go_guarded | go_step | go_upon)
    clear c5
    go_loopw [8, 32] (fun _ s32 wr => ∃ (k : Nat) (vo : Value), s32 = .int .i64 k ∧ k ≤ m ∧ Hid (CK w.heap.size (ba + 1) ba p V ((ofP p).take k) vo (List.replicate n none) [] (.slice none 0 0) wr) ∧ Hid (PBox wr g1 p V) ∧ Hid (Below w.heap.size w wr)) (fun _ s32 _ => m - (intOf s32).toNat)
    case atStart => exact ⟨0, .slice none 0 0, rfl, Nat.zero_le _, Lib.hid (by rw [List.take_zero]; exact J1.out), J2, J3⟩
    case round =>
      clear J1 J2 J3
      obtain ⟨k, vo, rfl, hk, J1, J2, J3⟩ := hrel
      by_cases hlt : k < m
      · have hktl : k < p.tabs.length := by rw [← Htl.out, ← Hm.out]; exact hlt
        have hkts : k < ts.length := by rw [← Hm.out]; exact hlt
        have hti : ts[k]? = some ts[k] := List.getElem?_eq_getElem hkts
        obtain ⟨e1, _, hrow⟩ := Hts.out k _ _ hti (List.getElem?_eq_getElem hktl)
        rcases Hct.out with h0 | ⟨bt, ot, hat, hbt, hclt⟩
        · omega
        subst hat
        obtain ⟨t0, t1⟩ := tab_cells hclt hti
        have hok := (tab_open (Hwh.out.tab hktl)).1
        have hof : (ofP p).take (k + 1) = (ofP p).take k ++ [spanD (p.tabs[k]).2] := by
          rw [List.take_succ_eq_append_getElem (by unfold ofP; simp; exact hktl)]
          congr 1
          unfold ofP; simp
        rw [show p.tabs.getD k (0, []) = p.tabs[k] from by rw [List.getD_eq_getElem?_getD, List.getElem?_eq_getElem hktl]; rfl] at hok
        have hofl : ((ofP p).take k).length = k := by unfold ofP; simp; omega
        generalize p.tabs[k] = tab at *
        obtain ⟨q, dl⟩ := tab
        generalize ts[k] = tt at *
        obtain ⟨q', vd⟩ := tt
        dsimp only at e1 hrow t0 t1 hok hof
        obtain ⟨ad, cd, hvd, hcd, hmd⟩ := hrow.slice
        subst hvd e1
        rw [← J3.out.cell (show bt < w.heap.size from hbt)] at t0 t1
        have Hrow := Lib.hid hrow
        have Hof := Lib.hid hof
        have Hofl := Lib.hid hofl
        have hd1 : Hid (1 ≤ dl.length) := Lib.hid (by omega)
        clear hok hof hrow hcd hmd hti hofl hclt
        repeat' (go_not_at_region 8; first | go_values | go_skip | go_guarded | go_step | go_upon)
        obtain ⟨g8, hg8⟩ : ∃ y, y = wr.heap.size := ⟨_, rfl⟩
        have hb4 : Below wr.heap.size wr (wr.alloc (.cells #[.int .i64 q', .slice ad dl.length cd] 74)) := (Below.refl _ _).alloc (Nat.le_refl _) _
        have T8 : Hid (TBox (wr.alloc (.cells #[.int .i64 q', .slice ad dl.length cd] 74)) g8 q' (.slice ad dl.length cd)) := Lib.hid (by rw [hg8]; exact TBox.new _ _ _)
        rw [← hg8]
        obtain ⟨avo, nvo, cvo, evo⟩ := J1.out.of.form4
        subst evo
        refine gen_wd (fun w' => CK w.heap.size (ba + 1) ba p V ((ofP p).take k) (.slice avo nvo cvo) (List.replicate n none) [] (.slice none 0 0) w' ∧ PBox w' g1 p V ∧ Below w.heap.size w w' ∧ TBox w' g8 q' (.slice ad dl.length cd)) ⟨J1.out.keep hb4, J2.out.keep hb4, J3.out.trans (hb4.mono J3.out.size), T8.out⟩ ?_
        clear J1 J2 J3 hb4 T8 hg8 t0 t1
        rintro wx ⟨j1, j2, j3, j4⟩
        have J1 := Lib.hid j1
        have J2 := Lib.hid j2
        have J3 := Lib.hid j3
        have J4 := Lib.hid j4
        clear j1 j2 j3 j4
        obtain ⟨C, hC⟩ : ∃ C : World → Prop, C = fun w' => KeepB 77 wx w' ∧ Below w.heap.size w w' := ⟨_, rfl⟩
        have HC := Lib.hid hC
        have Hmk : Hid (∀ w', KeepB 77 wx w' → Below w.heap.size w w' → C w') := Lib.hid fun w' a b => by rw [hC]; exact ⟨a, b⟩
        have Hopn : Hid (∀ w', C w' → KeepB 77 wx w' ∧ Below w.heap.size w w') := Lib.hid fun w' h => by rw [hC] at h; exact h
        have e0 : ∀ nq : GW C, nq.1.cell? ⟨ba + 1, 12, none⟩ = some (.slice avo nvo cvo) := fun nq => by
          have h := Hopn.out _ nq.2
          exact (show CkAt nq.1 (ba + 1) p V ba (List.replicate n (none : Option Rg)).length (.slice none 0 0) (.slice avo nvo cvo) from h.1 _ _ _ _ J1.out.ck (by decide)).cell 12
        have e1 : ∀ nq : GW C, nq.1.cell? ⟨g8, 1, none⟩ = some (.slice ad dl.length cd) := fun nq => by
          have h := Hopn.out _ nq.2
          exact (show TBox nq.1 g8 q' (.slice ad dl.length cd) from h.1 _ _ _ _ J4.out (by decide)).two.2
        have Hmn : Hid (∀ nq : GW C, Calls Try.prog 25 #[.slice ad dl.length cd] nq.1 fun e w' => e = .returned (.int .i64 (mnTo dl dl.length)) ∧ w' = nq.1) := Lib.hid fun nq => by
          have h := Hopn.out _ nq.2
          exact (slices_Min _ dl nq.1 (Hrow.out.keep h.2) hd1.out).mono fun _ _ ⟨a, b⟩ => ⟨a, b.symm⟩
        have Hmx : Hid (∀ nq : GW C, Calls Try.prog 26 #[.slice ad dl.length cd] nq.1 fun e w' => e = .returned (.int .i64 (mxTo dl dl.length)) ∧ w' = nq.1) := Lib.hid fun nq => by
          have h := Hopn.out _ nq.2
          exact (slices_Max _ dl nq.1 (Hrow.out.keep h.2) hd1.out).mono fun _ _ ⟨a, b⟩ => ⟨a, b.symm⟩
        clear hC
        obtain ⟨mn, hmn⟩ : ∃ y, y = mnTo dl dl.length := ⟨_, rfl⟩
        obtain ⟨mx, hmx⟩ : ∃ y, y = mxTo dl dl.length := ⟨_, rfl⟩
        rw [← hmn] at Hmn
        rw [← hmx] at Hmx
        have Hsp : Hid (spanD dl = (mn, mx)) := Lib.hid (by unfold spanD; rw [hmn, hmx])
        clear hmn hmx
        have hbd : Below wx.heap.size wx wx.drew := (Below.refl _ _).drew
        have hba1 : Below wx.heap.size wx (wx.drew.alloc (.cells #[.int .i64 mn, .int .i64 mx] 77)) := ((Below.refl _ _).drew).alloc (by simp) _
        have Hc0 : Hid (C wx.drew) := Lib.hid (Hmk.out _ (KeepB.of_below hbd) (J3.out.trans (hbd.mono J3.out.size)))
        have Hc1 : Hid (C (wx.drew.alloc (.cells #[.int .i64 mn, .int .i64 mx] 77))) := Lib.hid (Hmk.out _ (KeepB.of_below hba1) (J3.out.trans (hba1.mono J3.out.size)))
        have hown := J1.out.of.keep hbd (Nat.le_refl _)
        have hwB : w.heap.size ≤ wx.drew.heap.size := J3.out.size
        have hk16 : k ≤ 16 := by
          have h := (((data_iff p).1 Hwh.out.data).2.2.2.1).2.2.1
          have := Htl.out
          have := Hm.out
          omega
        clear hbd hba1
        refine wp_region_anyU (by kernel_rfl) C 16 ?_
        refine tkU 0 rfl ?_
        refine tkU 1 rfl ?_
        refine tkU 2 rfl ?_
        refine tkU 3 rfl ?_
        refine tkU 4 rfl ?_
        refine tkU 5 rfl ?_
        refine tkU 6 rfl ?_
        refine wpAnyU_take (i := 7) (v := _) rfl (by kernel_rfl) (by kernel_rfl) (by kernel_rfl) (by kernel_rfl) (by kernel_rfl) (fun _ _ _ h => h) (Or.inl ⟨by rfl, fun w ⟨nq, hw⟩ => by (subst hw; go_simp; first | exact ⟨rfl, (Hmn.out nq)⟩ | exact (Hmn.out nq))⟩) (by go_simp <;> with_reducible rfl) ?_
        refine tkU 8 rfl ?_
        refine tkU 9 rfl ?_
        refine wpAnyU_take (i := 10) (v := _) rfl (by kernel_rfl) (by kernel_rfl) (by kernel_rfl) (by kernel_rfl) (by kernel_rfl) (fun _ _ _ h => h) (Or.inl ⟨by rfl, fun w ⟨nq, hw⟩ => by (subst hw; go_simp; first | exact ⟨rfl, (Hmx.out nq)⟩ | exact (Hmx.out nq))⟩) (by go_simp <;> with_reducible rfl) ?_
        refine tkU 11 rfl ?_
        refine wpAnyU_ready (CG.of (Hc0.out)) (rs := [12]) (by kernel_rfl) (by simp) ?_
        refine (AllReadyU.cons rfl (fun K hK => ?_) AllReadyU.nil)
        go_simp
        refine hK _ _ ?_
        clear hK K
        refine wpAnyU_ready (CG.of (Hc1.out)) (rs := [13]) (by kernel_rfl) (by simp) ?_
        refine (AllReadyU.cons rfl (fun K hK => ?_) AllReadyU.nil)
        refine step_of rfl (app_oneO (w := wx.drew) 16 wx.heap.size rfl (mn, mx) spC_len (by intro y hy; simp [spC] at hy; rcases hy with rfl | rfl <;> rfl) Try.underlying70 info_vspans rfl _ _ rfl rfl rfl rfl hown hwB (by rw [Hofl.out]; omega) (by rw [Hofl.out]; unfold maxLen; omega) ?_)
        intro v4 w4 hown4 hb4 hk4 _
        refine hK _ _ ?_
        clear hK K
        have hk5 : KeepB 77 wx w4 := fun a b c d e f => hk4 a b c d e f
        have hb5 : Below w.heap.size wx w4 := below_of_drew hb4
        have hck4 : CkAt w4 (ba + 1) p V ba (List.replicate n (none : Option Rg)).length (.slice none 0 0) (.slice avo nvo cvo) := hk5 _ _ _ _ J1.out.ck (by decide)
        have c4 := hck4.cell 12
        have f4 := hck4.free 12
        obtain ⟨a4, n4, cp4, e4⟩ := hown4.form4
        subst e4
        refine wpAnyU_ready (CG.of (Hmk.out _ hk5 (J3.out.trans hb5))) (rs := [14]) (by kernel_rfl) (by simp) ?_
        refine (AllReadyU.cons rfl (fun K hK => ?_) AllReadyU.nil)
        go_simp
        refine hK _ _ ?_
        clear hK K
        refine wpAnyU_ready (CG.of (Hmk.out _ hk5 (J3.out.trans hb5))) (rs := [15]) (by kernel_rfl) (by simp) ?_
        refine (AllReadyU.cons rfl (fun K hK => ?_) AllReadyU.nil)
        go_simp
        refine hK _ _ ?_
        clear hK K
        refine wpAnyU_ready (CG.of (Hmk.out _ hk5 (J3.out.trans hb5))) (rs := [16]) (by kernel_rfl) (by simp) ?_
        refine (AllReadyU.cons rfl (fun K hK => ?_) AllReadyU.nil)
        go_simp
        refine hK _ _ ?_
        clear hK K
        refine wpAnyU_done (by kernel_rfl) (by kernel_rfl) (by go_simp <;> with_reducible rfl) ?_
        repeat' (first | go_values | go_skip | go_guarded | go_step | go_upon)
        go_roundw
        case rel => exact ⟨k + 1, .slice a4 n4 cp4, by go_num, hlt, Lib.hid (by rw [Hof.out, Hsp.out]; exact J1.out.grow hown4 hk5), Lib.hid (by
          have h : PBox w4 g1 p V := hk5 _ _ _ _ J2.out (by decide)
          unfold PBox at h ⊢
          rw [heap_setCell_other _ _ _ _ (by have := Hbb.out; dsimp only; omega)]; exact h), Lib.hid ((J3.out.trans hb5).setCell (by have := J1.out.bel; exact this.1) _)⟩
        case measure => simp [intOf]; omega
      · obtain rfl : k = m := by omega
        have hofl : (ofP p).take k = ofP p := List.take_of_length_le (by unfold ofP; simp; rw [← Htl.out, ← Hm.out]; omega)
        rw [hofl] at J1
        have hof16 : (ofP p).length ≤ 16 := by
          have h := (((data_iff p).1 Hwh.out.data).2.2.2.1).2.2.1
          unfold ofP; simp; exact h
        have HE0 := Lib.hid (pES_none_le (ofP p) p.code n hln.2 (by rw [← Hn.out]; exact hln.2) hof16)
        have Hcode := Lib.hid Hwh.out.codeOk
        clear hofl hof16
        have hw4 : w.heap.size ≤ wr.heap.size := J3.out.size
        repeat' (first | (go_at_call 27; have HW := Lib.hid (ver_flow_ini _ J1.out (by omega) hw4); refine Calls.mono HW.out ?_; clear HW; rintro _ w2 ⟨rfl, vt1, hc1, hf1⟩; dsimp only) | go_values | go_skip | go_guarded | go_step | go_upon)
        have J1a := Lib.hid hc1
        have J2a : Hid (PBox w2 g1 p V) := Lib.hid (hf1.keep _ _ _ _ J2.out (by decide) (by decide) (by decide))
        have J3a := Lib.hid (J3.out.trans hf1.bel)
        have HPI : Hid (PI (ofP p) p.code (flow (List.replicate n none, []) 0 iniR)) := Lib.hid (by rw [Hn.out]; exact PI_start Hcode.out)
        have HEI : Hid (EI (endsL (ofP p) p.code) (flow (List.replicate n none, []) 0 iniR).1 ∧ pES (endsL (ofP p) p.code) (flow (List.replicate n none, []) 0 iniR).1 + (flow (List.replicate n none, []) 0 iniR).2.length ≤ 900000000) := Lib.hid (by
          have h := flow_ends (E := endsL (ofP p) p.code) (n := n) (td := []) (k := 0) (r := iniR) (okSts_none n) (none_E _ n) (iniR_E (ofP p) p.code) rfl (by omega)
          exact ⟨h.1, by have := h.2; have := HE0.out; simp only [List.length_nil] at *; omega⟩)
        clear hc1 hf1 J1 J2 J3 hw4 HE0
        generalize flow (List.replicate n none, []) 0 iniR = St at J1a HPI HEI
        go_loopg [9] (potS St.1 * 2 + St.2.length) (fun gk s9 wr => ∃ (S : Sts) (td : List Nat) (vt : Value), Hid (potS S * 2 + td.length ≤ gk) ∧ Hid (CK w.heap.size (ba + 1) ba p V (ofP p) vo S td vt wr) ∧ Hid (PI (ofP p) p.code (S, td)) ∧ Hid (EI (endsL (ofP p) p.code) S ∧ pES (endsL (ofP p) p.code) S + td.length ≤ 900000000) ∧ Hid (PBox wr g1 p V) ∧ Hid (Below w.heap.size w wr))
        case atStart => exact ⟨_, _, _, Lib.hid (Nat.le_refl _), J1a, HPI, HEI, J2a, J3a⟩
        case round =>
          clear J1a HPI HEI J2a J3a
          obtain ⟨S, td, vt, Hg, J1, HPI, HEI, J2, J3⟩ := hrel
          rcases List.eq_nil_or_concat td with rfl | ⟨td', i, rfl⟩
          · have c11 : ∃ va ca, vt = .slice va 0 ca := by
              obtain ⟨va, ca, e, _⟩ := J1.out.td.form
              exact ⟨va, ca, e⟩
            obtain ⟨va, ca, rfl⟩ := c11
            have c11 := J1.out.ck.cell 11
            have c10 := J1.out.ck.cell 10
            have HLs := Lib.hid (PI_end HPI.out)
            have HSl : Hid (S.length = n) := Lib.hid (by rw [Hn.out]; exact HLs.out.1.1)
            have Hgw := Lib.hid (Hc3.out S HLs.out)
            rw [HSl.out] at c10
            clear Hg HPI HEI Hts Htl Hct
            repeat' (first | go_values | go_skip | go_guarded | go_step | go_upon)
            go_step3
            repeat' (first | go_values | go_skip | go_guarded | go_step | go_upon)
            clear c10 c11
            go_loopw [10, 11, 12, 96] (fun s10 _ _ s96 wq => ∃ k : Nat, s10 = .int .i64 (-1) ∧ s96 = .int .i64 k ∧ k ≤ n ∧ Hid (∀ i, i < k → badAt p S i = false) ∧ Hid (CK w.heap.size (ba + 1) ba p V (ofP p) vo S [] (.slice va 0 ca) wq) ∧ Hid (PBox wq g1 p V) ∧ Hid (Below w.heap.size w wq)) (fun _ _ _ s96 _ => n - (intOf s96).toNat)
            case atStart => exact ⟨0, rfl, rfl, Nat.zero_le _, Lib.hid fun i hi => absurd hi (Nat.not_lt_zero _), J1, J2, J3⟩
            case round =>
              clear J1 J2 J3
              obtain ⟨k, rfl, rfl, hk, Ha, J1, J2, J3⟩ := hrel
              by_cases hlt : k < n
              · have hkS : Hid (k < S.length) := Lib.hid (by rw [HSl.out]; exact hlt)
                have h8s : Hid ((stR (S.getD k none)).length = 8) := Lib.hid (J1.out.sts.len8 k)
                repeat' (go_not_at_region 19; first | (with_reducible refine load_st J1.out.sts hkS.out _ rfl rfl ?_) | (with_reducible refine store_st rfl rfl h8s.out _ _ rfl rfl rfl ?_) | go_values | go_skip | go_guarded | go_step | go_upon)
                obtain ⟨g12, hg12⟩ : ∃ y, y = wr.heap.size := ⟨_, rfl⟩
                have hb6 : Below wr.heap.size wr (wr.alloc (.cells (Value.bool (S.getD k none).isSome :: rgC (stR (S.getD k none))).toArray 82)) := (Below.refl _ _).alloc (Nat.le_refl _) _
                have V6 : Hid (VSt (wr.alloc (.cells (Value.bool (S.getD k none).isSome :: rgC (stR (S.getD k none))).toArray 82)) g12 (S.getD k none)) := Lib.hid (by rw [hg12]; exact Go.heap_alloc_new _ _)
                rw [← hg12]
                refine gen_wd (fun w' => CK w.heap.size (ba + 1) ba p V (ofP p) vo S [] (.slice va 0 ca) w' ∧ PBox w' g1 p V ∧ Below w.heap.size w w' ∧ VSt w' g12 (S.getD k none)) ⟨J1.out.keep hb6, J2.out.keep hb6, J3.out.trans (hb6.mono J3.out.size), V6.out⟩ ?_
                clear J1 J2 J3 hb6 V6 hg12
                rintro wx ⟨j1, j2, j3, j4⟩
                have J1 := Lib.hid j1
                have J2 := Lib.hid j2
                have J3 := Lib.hid j3
                have J4 := Lib.hid j4
                clear j1 j2 j3 j4
                have Hbd : Hid (badAt p S k = match S.getD k none with | none => false | some r => !safeI p (codeAt p k) r) := Lib.hid rfl
                have hd : Below wx.heap.size wx wx.drew := (Below.refl _ _).drew
                cases hr : S.getD k none with
                | none =>
                  rw [hr] at Hbd J4
                  clear hr
                  have e0 : ∀ nq : WB wx, nq.1.cell? ⟨g12, 0, none⟩ = some (.bool false) := fun nq => (J4.out.keep nq.2).one
                  refine wp_region_anyC (by kernel_rfl) wx ?_
                  refine tkC 0 rfl ?_
                  refine tkC 1 rfl ?_
                  refine tkC 2 rfl ?_
                  refine skC 3 rfl ?_
                  refine skC 4 rfl ?_
                  refine skC 5 rfl ?_
                  refine skC 6 rfl ?_
                  refine skC 7 rfl ?_
                  refine skC 8 rfl ?_
                  refine skC 9 rfl ?_
                  refine skC 10 rfl ?_
                  refine skC 11 rfl ?_
                  refine skC 12 rfl ?_
                  refine tkC 13 rfl ?_
                  refine wpAnyC_done (by kernel_rfl) (CW.of (hd)) (by go_simp <;> with_reducible rfl) ?_
                  have K1 := Lib.hid (J1.out.keep hd)
                  have K2 := Lib.hid (J2.out.keep hd)
                  have K3 := Lib.hid (J3.out.trans (hd.mono J3.out.size))
                  clear hd J1 J2 J3 J4 h8s e0
                  repeat' (first | go_values | go_skip | go_guarded | go_step | go_upon)
                  go_roundw
                  case rel => exact ⟨k + 1, rfl, by go_num, hlt, Lib.hid fun i hi => by
                    rcases Nat.lt_or_ge i k with h1 | h1
                    · exact Ha.out i h1
                    · obtain rfl : i = k := by omega
                      exact Hbd.out, K1, K2, K3⟩
                  case measure => simp [intOf]; omega
                | some r =>
                  rw [hr] at Hbd J4 h8s
                  have hx : p.code[k]? = some (codeAt p k) := by unfold codeAt; rw [List.getD_eq_getElem?_getD, List.getElem?_eq_getElem (by rw [← Hn.out]; exact hlt)]; rfl
                  rcases Hcell.out with h0 | ⟨bc, oc, hac, hbc, hcl⟩
                  · have := Hn.out; omega
                  subst hac
                  obtain ⟨d0, d1, d2, d3, d4⟩ := Row5p.cells hcl k (by rw [← Hn.out]; exact hlt)
                  rw [show p.code.getD k (fun _ => 0) = codeAt p k from rfl] at d0 d1 d2 d3 d4
                  have hsok := Hwh.out.sok hx
                  have hx2 := okI_2 (Hwh.out.at' hx).1
                  have Hsf : Hid (∀ nq : WB wx, Calls Try.prog 29 #[.pointer (some ⟨ba + 1, 0, none⟩), vI (codeAt p k), rgV r] nq.1 fun e w' => e = .returned (.bool (safeI p (codeAt p k) r)) ∧ Below nq.1.heap.size nq.1 w') := Lib.hid fun nq =>
                    ver_safe (codeAt p k) r nq.1 (J1.out.keep nq.2).ck (HH.out.keep (J3.out.trans (nq.2.mono J3.out.size))).tabs (HH.out.keep (J3.out.trans (nq.2.mono J3.out.size))).texts h8s.out hsok hx2.1
                  obtain ⟨sf, hsf⟩ : ∃ sf, sf = safeI p (codeAt p k) r := ⟨_, rfl⟩
                  rw [← hsf] at Hsf
                  have Hbd2 : Hid (badAt p S k = !sf) := Lib.hid (by rw [hsf]; exact Hbd.out)
                  have Hg2 : Hid (sf = false → G = (231, (k : Int))) := Lib.hid fun h => Hgw.out.trans (wrong_some (by rw [← Hn.out]; exact hlt) (by rw [Hbd2.out, h]; rfl) Ha.out)
                  generalize codeAt p k = x at *
                  have hbw : ∀ (nq : WB wx) o, nq.1.cell? ⟨bc, o, none⟩ = w.cell? ⟨bc, o, none⟩ := fun nq o => by
                    rw [nq.2.cell (show bc < wx.heap.size from Nat.lt_of_lt_of_le hbc J3.out.size), J3.out.cell (show bc < w.heap.size from hbc)]
                  have e0 : ∀ nq : WB wx, nq.1.cell? ⟨g12, 0, none⟩ = some (.bool true) := fun nq => (J4.out.keep nq.2).one
                  have e1 : ∀ nq : WB wx, nq.1.cell? ⟨g1, 4, none⟩ = some (.slice (some ⟨bc, oc, none⟩) n cc) := fun nq => by
                    have h := (J2.out.keep nq.2).cell 4
                    rw [HV.out] at h
                    exact h
                  have e3 : ∀ nq : WB wx, nq.1.cell? ⟨bc, oc + k * 5, none⟩ = some (.int .i64 (x 0)) := fun nq => by rw [hbw]; exact d0
                  have e4 : ∀ nq : WB wx, nq.1.cell? ⟨bc, oc + k * 5 + 1, none⟩ = some (.int .i64 (x 1)) := fun nq => by rw [hbw]; exact d1
                  have e5 : ∀ nq : WB wx, nq.1.cell? ⟨bc, oc + k * 5 + 2, none⟩ = some (.int .i64 (x 2)) := fun nq => by rw [hbw]; exact d2
                  have e6 : ∀ nq : WB wx, nq.1.cell? ⟨bc, oc + k * 5 + 3, none⟩ = some (.int .i64 (x 3)) := fun nq => by rw [hbw]; exact d3
                  have e7 : ∀ nq : WB wx, nq.1.cell? ⟨bc, oc + k * 5 + 4, none⟩ = some (.int .i64 (x 4)) := fun nq => by rw [hbw]; exact d4
                  have i1 : (k : Int) < (n : Int) := by omega
                  clear hbw hcl d0 d1 d2 d3 d4 hsok hx2 hx hr hsf Hbd
                  refine wp_region_anyC (by kernel_rfl) wx ?_
                  refine tkC 0 rfl ?_
                  refine tkC 1 rfl ?_
                  refine tkC 2 rfl ?_
                  refine tkC 3 rfl ?_
                  refine tkC 4 rfl ?_
                  refine tkC 5 rfl ?_
                  refine tkC 6 rfl ?_
                  refine tkC 7 rfl ?_
                  refine tkC 8 rfl ?_
                  refine tkC 9 rfl ?_
                  refine wpAnyC_take (i := 10) (v := _) rfl (by kernel_rfl) (by kernel_rfl) (by kernel_rfl) (fun _ _ _ h => h) (Or.inl ⟨by rfl, fun w ⟨nq, hw⟩ => by (subst hw; exact exec_load_mid (J4.out.keep nq.2).regs h8s.out _ rfl rfl)⟩) (by go_simp <;> with_reducible rfl) ?_
                  refine wpAnyC_ready (CW.of (hd)) (rs := [11]) (by kernel_rfl) (by simp) ?_
                  refine (AllReadyC.cons rfl (fun K hK => ?_) AllReadyC.nil)
                  go_simp
                  refine Calls.mono (Hsf.out ⟨wx.drew, hd⟩) ?_
                  rintro _ w7 ⟨rfl, hb7⟩
                  dsimp only
                  refine hK _ _ ?_
                  clear hK K
                  have hb8 : Below wx.heap.size wx w7 := hd.trans (hb7.mono hd.size)
                  refine tkC 12 rfl ?_
                  refine tkC 13 rfl ?_
                  refine wpAnyC_done (by kernel_rfl) (CW.of (hb8)) (by go_simp <;> with_reducible rfl) ?_
                  have K1 := Lib.hid (J1.out.keep hb8)
                  have K2 := Lib.hid (J2.out.keep hb8)
                  have K3 := Lib.hid (J3.out.trans (hb8.mono J3.out.size))
                  clear J1 J2 J3 J4 hd hb7 hb8 e0 e1 e3 e4 e5 e6 e7 Hsf i1
                  cases sf with
                  | true =>
                    repeat' (first | go_values | go_skip | go_guarded | go_step | go_upon)
                    go_roundw
                    case rel => exact ⟨k + 1, rfl, by go_num, hlt, Lib.hid fun i hi => by
                      rcases Nat.lt_or_ge i k with h1 | h1
                      · exact Ha.out i h1
                      · obtain rfl : i = k := by omega
                        exact Hbd2.out, K1, K2, K3⟩
                    case measure => simp [intOf]; omega
                  | false =>
                    have e := Hg2.out rfl
                    clear Hg2 Hgw
                    subst e
                    repeat' (first | go_values | go_skip | go_guarded | go_step | go_upon)
                    rw [Exit.noGoto_ret]
                    go_ret2
                    exact ⟨rfl, K3.out⟩
              · obtain rfl : n = k := by omega
                have e := Hgw.out.trans (wrong_none (by rw [← Hn.out]; exact Ha.out))
                clear Hgw
                subst e
                repeat' (first | go_values | go_skip | go_guarded | go_step | go_upon)
                rw [Exit.noGoto_ret]
                go_ret2
                exact ⟨rfl, J3.out⟩
          · rw [List.concat_eq_append] at Hg J1 HPI HEI
            obtain ⟨gt, ct', hvt⟩ := J1.out.td.somewhere (by unfold tdI; simp)
            have hvl : (tdI (td' ++ [i])).length = td'.length + 1 := by unfold tdI; simp
            rw [hvl] at hvt
            subst hvt
            have ht0 := J1.out.td.cellAt intC_len td'.length (i : Int) 0 tdI_at (by decide)
            have hgt := (J1.out.td.below (g := gt) rfl).2
            have c11 := J1.out.ck.cell 11
            clear hvl
            have e0 : ∀ nq : WB wr, nq.1.cell? ⟨ba + 1, 11, none⟩ = some (.slice (some ⟨gt, 0, none⟩) (td'.length + 1) ct') := fun nq => (J1.out.keep nq.2).ck.cell 11
            have e1 : ∀ nq : WB wr, nq.1.cell? ⟨gt, td'.length, none⟩ = some (.int .i64 (i : Int)) := fun nq => by
              rw [nq.2.cell (by exact hgt)]
              simpa [intC] using ht0
            have htl9 : td'.length ≤ 900000000 := by have h := HEI.out.2; rw [List.length_append, List.length_singleton] at h; omega
            have hcap : td'.length + 1 ≤ ct' := by
              obtain ⟨a9, c9, e9, h9, _⟩ := J1.out.td.form
              simp only [Value.slice.injEq] at e9
              obtain ⟨_, h8, rfl⟩ := e9
              rw [← h8] at h9
              exact h9
            obtain ⟨ln, hln2⟩ : ∃ y, y = td'.length := ⟨_, rfl⟩
            have Hln := Lib.hid hln2
            rw [← hln2] at c11 e0 e1 htl9 hcap
            rw [← hln2] at J1
            clear hln2
            have hlt1 : (ln : Int) < (ln : Int) + 1 := by omega
            have hcI : (ln : Int) ≤ (ct' : Int) := by omega
            have hcN : ln ≤ ct' := by omega
            have hwr : IntKind.i64.wrap (ln : Int) = (ln : Int) := wi64 (i64_small (by omega))
            repeat' (go_not_at_region 12; first | go_values | go_skip | go_guarded | go_step | go_upon)
            refine wp_region_anyC (by kernel_rfl) wr ?_
            refine tkC 0 rfl ?_
            refine tkC 1 rfl ?_
            refine tkC 2 rfl ?_
            refine tkC 3 rfl ?_
            refine tkC 4 rfl ?_
            refine tkC 5 rfl ?_
            refine tkC 6 rfl ?_
            refine tkC 7 rfl ?_
            refine tkC 8 rfl ?_
            refine tkC 9 rfl ?_
            refine tkC 10 rfl ?_
            refine tkC 11 rfl ?_
            refine tkC 12 rfl ?_
            refine wpAnyC_done (by kernel_rfl) (CW.of ((Below.refl _ _).drew)) (by go_simp <;> with_reducible rfl) ?_
            repeat' (go_not_at_region 13; first | go_values | go_skip | go_guarded | go_step | go_upon)
            clear e0 e1 c11
            obtain ⟨C, hC⟩ : ∃ C : World → Prop, C = fun w' => Below wr.heap.size wr w' := ⟨_, rfl⟩
            have Hmk : Hid (∀ w', Below wr.heap.size wr w' → C w') := Lib.hid fun w' a => by rw [hC]; exact a
            have Hopn : Hid (∀ w', C w' → Below wr.heap.size wr w') := Lib.hid fun w' h => by rw [hC] at h; exact h
            clear hC
            have e0 : ∀ nq : GW C, nq.1.cell? ⟨ba + 1, 11, none⟩ = some (.slice (some ⟨gt, 0, none⟩) (ln + 1) ct') := fun nq => (J1.out.keep (Hopn.out _ nq.2)).ck.cell 11
            refine wp_region_anyU (by kernel_rfl) C 14 ?_
            refine tkU 0 rfl ?_
            refine tkU 1 rfl ?_
            refine tkU 2 rfl ?_
            refine tkU 3 rfl ?_
            refine tkU 4 rfl ?_
            refine tkU 5 rfl ?_
            refine tkU 6 rfl ?_
            refine tkU 7 rfl ?_
            refine tkU 8 rfl ?_
            refine tkU 9 rfl ?_
            refine tkU 10 rfl ?_
            refine tkU 11 rfl ?_
            refine wpAnyU_ready (CG.of (Hmk.out _ ((Below.refl _ _).drew.drew))) (rs := [12]) (by kernel_rfl) (by simp) ?_
            refine (AllReadyU.cons rfl (fun K hK => ?_) AllReadyU.nil)
            go_simp
            refine hK _ _ ?_
            clear hK K
            refine wpAnyU_ready (CG.of (Hmk.out _ ((Below.refl _ _).drew.drew))) (rs := [13]) (by kernel_rfl) (by simp) ?_
            refine (AllReadyU.cons rfl (fun K hK => ?_) AllReadyU.nil)
            go_simp
            refine hK _ _ ?_
            clear hK K
            have Jd := Lib.hid (J1.out.keep ((Below.refl _ wr).drew.drew))
            have c11 := Jd.out.ck.cell 11
            have f11 := Jd.out.ck.free 11
            refine wpAnyU_ready (CG.of (Hmk.out _ ((Below.refl _ _).drew.drew))) (rs := [14]) (by kernel_rfl) (by simp) ?_
            refine (AllReadyU.cons rfl (fun K hK => ?_) AllReadyU.nil)
            go_simp
            refine hK _ _ ?_
            clear hK K
            refine wpAnyU_done (by kernel_rfl) (by kernel_rfl) (by go_simp <;> with_reducible rfl) ?_
            repeat' (go_not_at_region 14; first | go_values | go_skip | go_guarded | go_step | go_upon)
            have htdl : (tdI td').length = ln := by rw [Hln.out]; unfold tdI; simp
            refine gen_wd (fun w' => CK w.heap.size (ba + 1) ba p V (ofP p) vo S td' (.slice (some ⟨gt, 0, none⟩) ln ct') w' ∧ PBox w' g1 p V ∧ Below w.heap.size w w') ⟨Jd.out.pop (by
              have h := Jd.out.td
              rw [tdI_snoc] at h
              have h2 := own_pop intC_len h
              rw [htdl] at h2
              exact h2), by
                have h := J2.out
                unfold PBox at h ⊢
                show (wr.setCell _ _).heap[g1]? = _
                rw [heap_setCell_other _ _ _ _ (by have := Hbb.out; dsimp only; omega)]; exact h, ((J3.out.trans (((Below.refl _ wr).drew.drew).mono J3.out.size)).setCell (by exact J1.out.bel.1) _)⟩ ?_
            clear Jd c11 f11 e0 Hmk Hopn J1 J2 J3 hcap hwr hlt1 hcI hcN ht0 hgt htdl
            rintro wy ⟨j1, j2, j3⟩
            have J1 := Lib.hid j1
            have J2 := Lib.hid j2
            have J3 := Lib.hid j3
            clear j1 j2 j3
            have Htd : Hid (td'.length ≤ 1000000000) := Lib.hid (by have := Hln.out; omega)
            have HST : Hid (Calls Try.prog 28 #[.pointer (some ⟨ba + 1, 0, none⟩), .int .i64 (i : Int)] wy fun e w' => e = .returned (.tuple #[]) ∧ ∃ vt', CK w.heap.size (ba + 1) ba p V (ofP p) vo (stepF (ofP p) p.code (S, td') i).1 (stepF (ofP p) p.code (S, td') i).2 vt' w' ∧ FlowFr w.heap.size wy w') := Lib.hid (by
              obtain ⟨hi, hr⟩ := HPI.out.todo i (by simp)
              dsimp only at hr
              obtain ⟨x, hx⟩ : ∃ x, p.code[i]? = some x := ⟨_, List.getElem?_eq_getElem hi⟩
              obtain ⟨r, hr⟩ : ∃ r, S.getD i none = some r := by
                cases e : S.getD i none with
                | none => exact absurd e hr
                | some r => exact ⟨r, rfl⟩
              have hSl : S.length = p.code.length := HPI.out.ok.1
              obtain ⟨hok, h3, h8⟩ := Hwh.out.at' hx
              rw [stepF_eq (st := (S, td')) hx hr]
              exact ver_step i x r wy J1.out ((HH.out.keep J3.out).code) hx hr (by rw [hSl]; exact hi) (by rw [hSl, ← Hn.out]; exact hln.2) (fun hne => by rw [hSl]; exact Hcode.out.last i x r hx hne) (HPI.out.ok.2 i r hr) (Hcode.out.ok i x hx) (okI_2 hok) (by rw [hSl]; exact h3) (fun e => by have := h8 e; unfold ofP; simpa using this) Htd.out J3.out.size)
            have HPS := Lib.hid (PI_step Hcode.out HPI.out)
            have HES := Lib.hid (ends_step Hcode.out HPI.out HEI.out.1 (fun x hx e => by
              have := (Hwh.out.at' hx).2.2 e
              unfold ofP; simp; omega))
            have Hlen2 : Hid (pES (endsL (ofP p) p.code) S + td'.length + 1 ≤ 900000000) := Lib.hid (by have h := HEI.out.2; rw [List.length_append, List.length_singleton] at h; omega)
            clear HPI HEI Hln Htd
            generalize stepF (ofP p) p.code (S, td') i = St2 at HST HPS HES
            repeat' (first | (go_at_call 28; refine Calls.mono HST.out ?_; rintro _ wz ⟨rfl, vt2, hc2, hf2⟩; dsimp only) | go_values | go_skip | go_guarded | go_step | go_upon)
            go_roundg (potS St2.1 * 2 + St2.2.length)
            case measure => exact Nat.lt_of_lt_of_le HPS.out.2 Hg.out
            case rel => exact ⟨St2.1, St2.2, vt2, Lib.hid (Nat.le_refl _), Lib.hid hc2, Lib.hid HPS.out.1, Lib.hid ⟨HES.out.1, by have := HES.out.2; have := Hlen2.out; omega⟩, Lib.hid (hf2.keep _ _ _ _ J2.out (by decide) (by decide) (by decide)), Lib.hid (J3.out.trans hf2.bel)⟩
end Go.Proofs.Ytkpdcejnanhgoaa
