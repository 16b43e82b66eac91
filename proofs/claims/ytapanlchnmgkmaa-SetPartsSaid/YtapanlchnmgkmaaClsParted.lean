/- Walk: classes parted by a set (set.parted). Condition: the old classes are numbers below 256. -/
import Derived.Test.YtapanlchnmgkmaaClsSpec
import Derived.Test.YtapanlchnmgkmaaSetHas
namespace Go.Proofs.Ytapanlchnmgkmaa
open Go.RowKit
theorem under_cls : Try.prog.underlying 30 = some (.array 256 5) := by kernel_rfl
theorem info_cls : (Try.prog.info? 30).map (fun i => i.size) = some 256 := by kernel_rfl
theorem run_zero_cls (w : World) : (zeroValue 30).run Try.prog w = .ok (.agg (tabC fun _ => 0)) w := by
  have h : (Try.prog.info? 30).map (fun i => (i.zero, i.size)) = some (some (.agg (tabC fun _ => 0)), 256) := by kernel_rfl
  exact (zero_of_info h).1 w
/-- a variable of the call's own that holds classes -/
def ClsAt (w : World) (g : Nat) (c : Nat → Nat) : Prop := w.heap[g]? = some (.cells (tabC c) 30 (0, 0))
theorem ClsAt.lt {w : World} {g : Nat} {c : Nat → Nat} (h : ClsAt w g c) : g < w.heap.size := (Array.getElem?_eq_some_iff.1 h).1
theorem ClsAt.keep {w w' : World} {g : Nat} {c : Nat → Nat} (h : ClsAt w g c) (hb : Below w.heap.size w w') : ClsAt w' g c := by
  unfold ClsAt; rw [hb.block g h.lt]; exact h
theorem ClsAt.cell {w : World} {g : Nat} {c : Nat → Nat} (h : ClsAt w g c) {b : Nat} (hb : b < 256) : w.cell? ⟨g, b, none⟩ = some (.int .u8 ((c b : Nat) : Int)) := by
  rw [cell_of_row w g b _ _ _ h]; exact tabC_at c hb
theorem ClsAt.free {w : World} {g : Nat} {c : Nat → Nat} (h : ClsAt w g c) (b : Nat) : w.frozen? ⟨g, b, none⟩ = false := frozen_of_row _ _ _ _ _ h
theorem load_cls {o : Oper} {a : Act} {w : World} {K : Act → World → Prop} {Q : Exit → Act → World → Prop} {g : Nat} {c : Nat → Nat} (hs : ClsAt w g c) (x : Operand) (ho : o.op = .load 30 x)
    (hx : a.eval x = .pointer (some ⟨g, 0, none⟩)) (h : K (a.put o.dst (.agg (tabC c))) w) : o.wp Try.prog a w K Q :=
  wp_load_row _ x ho g hx 30 (tabC c) (0, 0) _ hs under_cls rfl (by rw [tabC_size]; exact info_cls) h
theorem store_cls {o : Oper} {a : Act} {w : World} {K : Act → World → Prop} {Q : Exit → Act → World → Prop} {g : Nat} {c : Nat → Nat} (hs : ClsAt w g c) (d : Nat → Nat) (x y : Operand) (ho : o.op = .store 30 x y)
    (hx : a.eval x = .pointer (some ⟨g, 0, none⟩)) (hy : a.eval y = .agg (tabC d)) (h : K (a.put o.dst undef) (w.setRow g (tabC d))) : o.wp Try.prog a w K Q :=
  wp_store_row _ x y ho g (tabC d) hx hy 30 (tabC c) hs (by rw [tabC_size]; exact info_cls) (by rw [tabC_size, tabC_size]) (tabC_one d) h
theorem ClsAt.row {w : World} {g : Nat} {c d : Nat → Nat} (h : ClsAt w g c) : ClsAt (w.setRow g (tabC d)) g d := setRow_heap _ _ _ _ _ _ h
theorem ClsAt.as {w : World} {g : Nat} {c d : Nat → Nat} (h : ClsAt w g c) (e : ∀ b, b < 256 → c b = d b) : ClsAt w g d := by unfold ClsAt; rw [← tabC_congr e]; exact h
theorem results_cls {fn : Func} {p q : Tmp} (h : fn.results = #[.cell p 30, .tmp q]) (tmps : Array Value) (w : World) (g : Nat) (c : Nat → Nat) (v : Value) (hp : tmps.getD p undef = .pointer (some ⟨g, 0, none⟩)) (hq : tmps.getD q undef = v) (hs : ClsAt w g c) :
    (results fn tmps).run Try.prog w = .ok (.tuple #[.agg (tabC c), v]) w := by
  have hp' : tmps[p]?.getD undef = .pointer (some ⟨g, 0, none⟩) := by simpa using hp
  have hq' : tmps[q]?.getD undef = v := by simpa using hq
  simp [results, h, hp', hq', asAddr, run_loadVar_row w g 30 30 (tabC c) (0, 0) _ hs under_cls rfl (by rw [tabC_size]; exact info_cls)]
theorem ClsAt.put {w : World} {g : Nat} {c d : Nat → Nat} (h : ClsAt w g c) {k : Nat} (hk : k < 256) {x : Nat} (hd : ∀ b, b < 256 → d b = if b = k then x else c b) : ClsAt (w.setCell ⟨g, k, none⟩ (.int .u8 (x : Int))) g d := by
  rw [setCell_eq_setRow w g k _ _ _ (.int .u8 (x : Int)) h, tabC_set c d hk hd]
  exact setRow_heap _ _ _ _ _ _ h
/-- a key of the map 'to' -/
def enc2 (a : Int × Int) : Value := .agg #[.int .i64 a.1, .int .i64 a.2]
def val2 (i : Nat) : Value := .int .u8 (i : Int)
theorem info_two : (Try.prog.info? 3).map (fun i => i.size) = some 1 := by kernel_rfl
theorem key2 : KeyT Try.prog enc2 48 where
  arr := ⟨2, 3, Try.underlying48⟩
  chk em a w := by unfold enc2; cases em <;> kernel_rfl
  eq a b w := by
    have h := run_eq_ints (P := Try.prog) w 9998 Try.underlying48 Try.underlying3 info_two #[.int .i64 a.1, .int .i64 a.2] #[.int .i64 b.1, .int .i64 b.2] (fun i => [a.1, a.2].getD i 0) (fun i => [b.1, b.2].getD i 0)
      (fun i hi => by rcases (by omega : i = 0 ∨ i = 1) with rfl | rfl <;> rfl) (fun i hi => by rcases (by omega : i = 0 ∨ i = 1) with rfl | rfl <;> rfl)
    have e : (Op.equal 48 (enc2 a) (enc2 b)).run Try.prog w = .ok ((List.range 2).all fun i => [a.1, a.2].getD i 0 == [b.1, b.2].getD i 0) w := h
    rw [e]
    congr 1
    obtain ⟨a1, a2⟩ := a
    obtain ⟨b1, b2⟩ := b
    rw [Bool.eq_iff_iff]
    simp [List.range, List.range.loop]
theorem heap_cellOther {w : World} {g g' k : Nat} {x : Value} {o : Obj} (h : w.heap[g]? = some o) (hg : g ≠ g') : (w.setCell ⟨g', k, none⟩ x).heap[g]? = some o := by
  rw [heap_setCell_other _ _ _ _ (by dsimp only; omega)]; exact h
theorem heap_blockOther {w : World} {b i : Nat} {es : Array MapEntry} {cl : Nat} {o o' : Obj} (hb : w.heap[b]? = some (.map es cl)) (h : w.heap[i]? = some o') (hi : i ≠ b) : (Go.ChangeMaps.setBlock w b o).heap[i]? = some o' := by
  rw [Go.ChangeMaps.heap_setBlock_other hb _ hi]; exact h
theorem below_block {B b : Nat} {w0 w : World} {o : Obj} (h : Below B w0 w) (hb : B ≤ b) (hm : ∃ es cl, w.heap[b]? = some (.map es cl)) : Below B w0 (Go.ChangeMaps.setBlock w b o) := by
  obtain ⟨es, cl, hm⟩ := hm
  exact h.trans ⟨rfl, rfl, rfl, by simp [Go.ChangeMaps.setBlock], fun k hk => Go.ChangeMaps.heap_setBlock_other hm _ (by omega)⟩
/-- the variables of set.parted -/
structure PWd (w0 : World) (old c : Nat → Nat) (p : Nat → Bool) (l : List (Int × Int)) (w : World) : Prop where
  bel : Below w0.heap.size w0 w
  o : ClsAt w w0.heap.size old
  s : SetAt w (w0.heap.size + 1) p
  r : ClsAt w (w0.heap.size + 2) fun _ => 0
  c : ClsAt w (w0.heap.size + 3) c
  m : MapAt enc2 val2 w (w0.heap.size + 4) l
theorem PWd.step {w0 w w' : World} {old c : Nat → Nat} {p : Nat → Bool} {l : List (Int × Int)} (h : PWd w0 old c p l w) (hb : Below w.heap.size w w') : PWd w0 old c p l w' :=
  ⟨h.bel.trans (hb.mono h.bel.size), h.o.keep hb, h.s.keep hb, h.r.keep hb, h.c.keep hb, h.m.keep hb⟩
theorem PWd.other {w0 w : World} {old c : Nat → Nat} {p : Nat → Bool} {l : List (Int × Int)} (h : PWd w0 old c p l w) {g k : Nat} (hg : w0.heap.size + 5 ≤ g) (x : Value) : PWd w0 old c p l (w.setCell ⟨g, k, none⟩ x) :=
  ⟨h.bel.setCell (by dsimp only; omega) _, heap_cellOther h.o (by omega), heap_cellOther h.s (by omega), heap_cellOther h.r (by omega), heap_cellOther h.c (by omega), heap_cellOther h.m (by omega)⟩
theorem PWd.put {w0 w : World} {old c : Nat → Nat} {p : Nat → Bool} {l : List (Int × Int)} (h : PWd w0 old c p l w) (a : Int × Int) : PWd w0 old c p (l ++ [a]) (Go.ChangeMaps.setBlock w (w0.heap.size + 4) (.map (entsFrom enc2 val2 0 (l ++ [a])).toArray (l.length + 1))) :=
  ⟨below_block h.bel (by omega) ⟨_, _, h.m⟩, heap_blockOther h.m h.o (by omega), heap_blockOther h.m h.s (by omega), heap_blockOther h.m h.r (by omega), heap_blockOther h.m h.c (by omega), h.m.put a⟩
theorem PWd.store {w0 w : World} {old c d : Nat → Nat} {p : Nat → Bool} {l : List (Int × Int)} (h : PWd w0 old c p l w) {k : Nat} (hk : k < 256) {x : Nat} (hd : ∀ b, b < 256 → d b = if b = k then x else c b) : PWd w0 old d p l (w.setCell ⟨w0.heap.size + 3, k, none⟩ (.int .u8 (x : Int))) :=
  ⟨h.bel.setCell (by dsimp only; omega) _, heap_cellOther h.o (by omega), heap_cellOther h.s (by omega), heap_cellOther h.r (by omega), h.c.put hk hd, heap_cellOther h.m (by omega)⟩
/-- a byte's old class, and whether it is in the set -/
def pairK (old : Nat → Nat) (p : Nat → Bool) (b : Nat) : Int × Int := ((old b : Int), if p b then 1 else 0)
/-- what is filled in below k -/
def fillTo (f : Nat → Int × Int) (k b : Nat) : Nat := if b < k then cls f b else 0
theorem fill_next (f : Nat → Int × Int) (k b : Nat) : fillTo f (k + 1) b = if b = k then cls f k else fillTo f k b := by
  unfold fillTo
  by_cases h : b = k
  · subst h; simp
  · have : (b < k + 1) = (b < k) := by apply propext; omega
    simp [h, this]
theorem parted_start (w : World) (old : Nat → Nat) (p : Nat → Bool) (f : Nat → Int × Int) :
    PWd w old (fillTo f 0) p [] (((((w.alloc (.cells (tabC old) 30)).alloc (.cells (sc p) 25)).alloc (.cells (tabC fun _ => 0) 30)).alloc (.cells (tabC fun _ => 0) 30)).alloc (.map #[] 0)) := by
  obtain ⟨w1, h1⟩ : ∃ w1, w1 = w.alloc (.cells (tabC old) 30) := ⟨_, rfl⟩
  obtain ⟨w2, h2⟩ : ∃ w2, w2 = w1.alloc (.cells (sc p) 25) := ⟨_, rfl⟩
  obtain ⟨w3, h3⟩ : ∃ w3, w3 = w2.alloc (.cells (tabC fun _ => 0) 30) := ⟨_, rfl⟩
  obtain ⟨w4, h4⟩ : ∃ w4, w4 = w3.alloc (.cells (tabC fun _ => 0) 30) := ⟨_, rfl⟩
  obtain ⟨w5, h5⟩ : ∃ w5, w5 = w4.alloc (.map #[] 0) := ⟨_, rfl⟩
  have b1 : Below w.heap.size w w1 := by rw [h1]; exact (Below.refl _ _).alloc (Nat.le_refl _) _
  have b2 : Below w1.heap.size w1 w2 := by rw [h2]; exact (Below.refl _ _).alloc (Nat.le_refl _) _
  have b3 : Below w2.heap.size w2 w3 := by rw [h3]; exact (Below.refl _ _).alloc (Nat.le_refl _) _
  have b4 : Below w3.heap.size w3 w4 := by rw [h4]; exact (Below.refl _ _).alloc (Nat.le_refl _) _
  have b5 : Below w4.heap.size w4 w5 := by rw [h5]; exact (Below.refl _ _).alloc (Nat.le_refl _) _
  have s1 : w1.heap.size = w.heap.size + 1 := by rw [h1, World.size_alloc]
  have s2 : w2.heap.size = w.heap.size + 2 := by rw [h2, World.size_alloc, s1]
  have s3 : w3.heap.size = w.heap.size + 3 := by rw [h3, World.size_alloc, s2]
  have s4 : w4.heap.size = w.heap.size + 4 := by rw [h4, World.size_alloc, s3]
  have o1 : ClsAt w1 w.heap.size old := by rw [h1]; exact Go.heap_alloc_new _ _
  have o2 : SetAt w2 (w.heap.size + 1) p := by rw [← s1, h2]; exact Go.heap_alloc_new _ _
  have o3 : ClsAt w3 (w.heap.size + 2) fun _ => 0 := by rw [← s2, h3]; exact Go.heap_alloc_new _ _
  have o4 : ClsAt w4 (w.heap.size + 3) (fillTo f 0) := by
    have e : fillTo f 0 = fun _ => 0 := by funext b; simp [fillTo]
    rw [← s3, h4, e]; exact Go.heap_alloc_new _ _
  have o5 : MapAt enc2 val2 w5 (w.heap.size + 4) ([] : List (Int × Int)) := by rw [← s4, h5]; exact Go.heap_alloc_new _ _
  subst h5 h4 h3 h2 h1
  exact ⟨(((b1.trans (b2.mono b1.size)).trans (b3.mono (by omega))).trans (b4.mono (by omega))).trans (b5.mono (by omega)), (((o1.keep b2).keep b3).keep b4).keep b5, ((o2.keep b3).keep b4).keep b5, (o3.keep b4).keep b5, o4.keep b5, o5⟩
theorem two_e0 {w : World} {g : Nat} {a b : Value} {t : TypeId} (h : w.heap[g]? = some (.cells #[a, b] t (0, 0))) : w.cell? ⟨g, 0, none⟩ = some a := by rw [cell_of_row w g 0 _ _ _ h]; rfl
theorem two_e1 {w : World} {g : Nat} {a b : Value} {t : TypeId} (h : w.heap[g]? = some (.cells #[a, b] t (0, 0))) : w.cell? ⟨g, 1, none⟩ = some b := by rw [cell_of_row w g 1 _ _ _ h]; rfl
theorem two_e {w : World} {g : Nat} {a b : Value} {t : TypeId} (h : w.heap[g]? = some (.cells #[a, b] t (0, 0))) (k : Nat) : w.frozen? ⟨g, k, none⟩ = false := frozen_of_row _ _ _ _ _ h
theorem keep_obj {w w' : World} {g : Nat} {o : Obj} (h : w.heap[g]? = some o) (hb : Below w.heap.size w w') : w'.heap[g]? = some o := by
  rw [hb.block g (Array.getElem?_eq_some_iff.1 h).1]; exact h
theorem zero_u8 (w : World) : (zeroValue 5).run Try.prog w = .ok (.int .u8 0) w := by
  have h : (Try.prog.info? 5).map (fun i => (i.zero, i.size)) = some (some (.int .u8 0), 1) := by kernel_rfl
  exact (zero_of_info h).1 w
theorem map_len {t : TypeId} {w : World} {b : Nat} {l : List (Int × Int)} (h : MapAt enc2 val2 w b l) : (Builtin.len_ #[47] t #[.map (some b)]).run Try.prog w = .ok (.int .i64 (l.length : Nat)) w := by
  simp [Builtin.len_, MapKept.run_getObj_map h, entsFrom_len, run_underlying Try.underlying47]
  rfl
set_option maxRecDepth 100000 in
set_option maxHeartbeats 4000000 in
theorem set_parted (old : Nat → Nat) (hold : ∀ b, b < 256 → old b < 256) (p : Nat → Bool) (w : World) :
    Calls Try.prog 19 #[.agg (tabC old), vS p] w fun e w' => e = .returned (.tuple #[.agg (tabC (cls (pairK old p))), .int .i64 (clsN (pairK old p) : Nat)]) ∧ Below w.heap.size w w' := by
  have hz := run_zero_cls
  obtain ⟨f, hf⟩ : ∃ f, f = pairK old p := ⟨_, rfl⟩
  have Hst := Lib.hid (parted_start w old p f)
  have hmm := @run_makeMap Try.prog
  rw [← hf]
  go_enter Try.func19, Try.ntmps19
  repeat' (first | go_values | go_skip | go_guarded | go_step | go_upon)
  have Hf := Lib.hid hf
  clear hf hmm
  generalize (((((w.alloc (.cells (tabC old) 30)).alloc (.cells (sc p) 25)).alloc (.cells (tabC fun _ => 0) 30)).alloc (.cells (tabC fun _ => 0) 30)).alloc (.map #[] 0)) = w5 at Hst ⊢
  go_loopw [13] (fun s13 wr => ∃ k : Nat, s13 = .int .i64 k ∧ k ≤ 256 ∧ Hid (PWd w old (fillTo f k) p (keysTo f k) wr)) (fun s13 _ => 256 - (intOf s13).toNat)
  case atStart => exact ⟨0, rfl, Nat.zero_le _, Hst⟩
  case round =>
    clear Hst
    obtain ⟨k, rfl, hk', H⟩ := hrel
    by_cases hk : k < 256
    · have oc := H.out.o.cell hk
      have hok := hold k hk
      have hbx : Below wr.heap.size wr (wr.alloc (.cells #[.int .i64 (old k : Nat), .int .i64 0] 48)) := (Below.refl _ _).alloc (Nat.le_refl _) _
      have HX := Lib.hid (H.out.step hbx)
      obtain ⟨gk, hgk⟩ : ∃ g, g = wr.heap.size := ⟨_, rfl⟩
      have hkey : (wr.alloc (.cells #[.int .i64 (old k : Nat), .int .i64 0] 48)).heap[gk]? = some (.cells #[.int .i64 (old k : Nat), .int .i64 0] 48 (0, 0)) := by rw [hgk]; exact Go.heap_alloc_new _ _
      have Hkey := Lib.hid hkey
      have hg5 : w.heap.size + 5 ≤ gk := by have := H.out.m.lt; omega
      clear hbx hkey
      repeat' (first | (with_reducible refine load_set1 HX.out.s _ rfl rfl ?_) | go_values | go_skip | go_guarded | go_step | go_upon)
      refine Calls.mono (set_Has p k hk _) ?_
      rintro _ w2 ⟨rfl, hb2⟩
      dsimp only
      have hP2 := HX.out.step hb2
      have hk2 := keep_obj Hkey.out hb2
      rw [← hgk]
      have d0 := two_e0 hk2
      have d1 := two_e1 hk2
      have f1 := two_e hk2 1
      clear hb2 HX Hkey hk2 H oc hgk
      cases hp : p k
      · have hfk : f k = ((old k : Int), 0) := by rw [Hf.out]; unfold pairK; rw [hp]; rfl
        have HM := Lib.hid (hP2)
        have hlook := run_look key2 Try.underlying47 zero_u8 ((old k : Int), 0) HM.out.m
        unfold enc2 at hlook
        dsimp only at hlook
        have hl := keysTo_len f k
        cases hfi : findIn ((old k : Int), (0 : Int)) 0 (keysTo f k) with
        | some j =>
          rw [hfi] at hlook
          rw [← hfk] at hfi
          have hco := cls_old f hk hfi
          have hcn := fill_next f k
          rw [hco.1] at hcn
          have hj := findIn_bound hfi
          have Hco := Lib.hid hco.2
          have Hcn := Lib.hid hcn
          dsimp only [Option.map_some, Option.getD_some, Option.isSome_some, val2] at hlook
          have hcc := HM.out.c.cell hk
          have hff := HM.out.c.free k
          generalize fillTo f k k = z at hcc
          clear hfi hco hcn hl
          repeat' (first | go_values | go_skip | go_guarded | go_step | go_upon)
          go_roundw
          case rel => exact ⟨k + 1, by go_num, by omega, Lib.hid (by rw [Hco.out]; exact HM.out.store hk fun b _ => Hcn.out b)⟩
          case measure => simp [intOf]; omega
        | none =>
          rw [hfi] at hlook
          have hput := run_put key2 Try.underlying47 ((old k : Int), 0) HM.out.m hfi
          obtain ⟨wp, hwp⟩ : ∃ wp, wp = Go.ChangeMaps.setBlock w2 (w.heap.size + 4) (.map (entsFrom enc2 val2 0 (keysTo f k ++ [((old k : Int), 0)])).toArray ((keysTo f k).length + 1)) := ⟨_, rfl⟩
          have HP := Lib.hid (HM.out.put ((old k : Int), 0))
          rw [← hwp] at hput HP
          unfold enc2 val2 at hput
          dsimp only at hput
          rw [← hfk] at hfi HP
          have hco := cls_new f hk hfi
          have hcn := fill_next f k
          rw [hco.1] at hcn
          have Hco := Lib.hid hco.2
          have Hcn := Lib.hid hcn
          dsimp only [Option.map_none, Option.getD_none, Option.isSome_none] at hlook
          have hlen := map_len (t := 3) HM.out.m
          generalize (keysTo f k).length = n at hput hlen hl Hcn
          have hcc := HP.out.c.cell hk
          have hff := HP.out.c.free k
          generalize fillTo f k k = z at hcc
          clear hfi hco hcn hwp
          repeat' (first | go_values | go_skip | go_guarded | go_step | go_upon)
          go_roundw
          case rel => exact ⟨k + 1, by go_num, by omega, Lib.hid (by rw [Hco.out]; exact HP.out.store hk fun b _ => Hcn.out b)⟩
          case measure => simp [intOf]; omega
      · have hfk : f k = ((old k : Int), 1) := by rw [Hf.out]; unfold pairK; rw [hp]; rfl
        have HM := Lib.hid (hP2.other (k := 1) (by omega) (.int .i64 1))
        have hlook := run_look key2 Try.underlying47 zero_u8 ((old k : Int), 1) HM.out.m
        unfold enc2 at hlook
        dsimp only at hlook
        have hl := keysTo_len f k
        cases hfi : findIn ((old k : Int), (1 : Int)) 0 (keysTo f k) with
        | some j =>
          rw [hfi] at hlook
          rw [← hfk] at hfi
          have hco := cls_old f hk hfi
          have hcn := fill_next f k
          rw [hco.1] at hcn
          have hj := findIn_bound hfi
          have Hco := Lib.hid hco.2
          have Hcn := Lib.hid hcn
          dsimp only [Option.map_some, Option.getD_some, Option.isSome_some, val2] at hlook
          have hcc := HM.out.c.cell hk
          have hff := HM.out.c.free k
          generalize fillTo f k k = z at hcc
          clear hfi hco hcn hl
          repeat' (first | go_values | go_skip | go_guarded | go_step | go_upon)
          go_roundw
          case rel => exact ⟨k + 1, by go_num, by omega, Lib.hid (by rw [Hco.out]; exact HM.out.store hk fun b _ => Hcn.out b)⟩
          case measure => simp [intOf]; omega
        | none =>
          rw [hfi] at hlook
          have hput := run_put key2 Try.underlying47 ((old k : Int), 1) HM.out.m hfi
          obtain ⟨wp, hwp⟩ : ∃ wp, wp = Go.ChangeMaps.setBlock (w2.setCell ⟨gk, 1, none⟩ (.int .i64 1)) (w.heap.size + 4) (.map (entsFrom enc2 val2 0 (keysTo f k ++ [((old k : Int), 1)])).toArray ((keysTo f k).length + 1)) := ⟨_, rfl⟩
          have HP := Lib.hid (HM.out.put ((old k : Int), 1))
          rw [← hwp] at hput HP
          unfold enc2 val2 at hput
          dsimp only at hput
          rw [← hfk] at hfi HP
          have hco := cls_new f hk hfi
          have hcn := fill_next f k
          rw [hco.1] at hcn
          have Hco := Lib.hid hco.2
          have Hcn := Lib.hid hcn
          dsimp only [Option.map_none, Option.getD_none, Option.isSome_none] at hlook
          have hlen := map_len (t := 3) HM.out.m
          generalize (keysTo f k).length = n at hput hlen hl Hcn
          have hcc := HP.out.c.cell hk
          have hff := HP.out.c.free k
          generalize fillTo f k k = z at hcc
          clear hfi hco hcn hwp
          repeat' (first | go_values | go_skip | go_guarded | go_step | go_upon)
          go_roundw
          case rel => exact ⟨k + 1, by go_num, by omega, Lib.hid (by rw [Hco.out]; exact HP.out.store hk fun b _ => Hcn.out b)⟩
          case measure => simp [intOf]; omega
    · obtain rfl : k = 256 := by omega
      have hc : ClsAt wr (w.heap.size + 3) (cls f) := H.out.c.as fun b hb => by unfold fillTo; rw [if_pos hb]
      have hlen := map_len (t := 3) H.out.m
      have Hn : Hid ((keysTo f 256).length = clsN f) := Lib.hid rfl
      rw [Hn.out] at hlen
      have hr := H.out.r
      have hbl := H.out.bel
      have Hbl := Lib.hid hbl
      have Hr := Lib.hid hr
      have Hc := Lib.hid hc
      clear hbl hr hc Hn H
      repeat' (first | (with_reducible refine load_cls Hc.out _ rfl rfl ?_) | (with_reducible refine store_cls Hr.out (cls f) _ _ rfl rfl rfl ?_) | go_values | go_skip | go_guarded | go_step | go_upon)
      refine bodyPost_ret (v := .tuple #[.agg (tabC (cls f)), .int .i64 (clsN f : Nat)]) (results_cls rfl _ _ (w.heap.size + 2) _ _ rfl rfl Hr.out.row) rfl ⟨rfl, ?_⟩
      exact Below.row Hbl.out (by omega) _
end Go.Proofs.Ytapanlchnmgkmaa
