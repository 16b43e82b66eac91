/- Walk: the machine runs a program (vm.Run). Conditions: the program lies in memory, its numbers are ints, its keys few enough. -/
import Derived.Test.YtkpdcejnanhgoaaPk22
import Derived.Test.YtkpdcejnanhgoaaPk21
namespace Go.Proofs.Ytkpdcejnanhgoaa
open Go.RowKit
theorem flt_not {p : Prg} {S : Sts} {s : RS} (h : OkP p S) (hi : runIn p S s.pl s.rg) : ¬ Flt p s := by
  rintro (h1 | h1 | h1)
  · exact h1 (safe_at h hi).1
  · rw [(safe_at h hi).2] at h1; cases h1
  · exact h1 (hash_signs h.whole)
theorem wp_bytesW {P : Program} {w : World} {o : Oper} {a : Act} {K : Act → World → Prop} {Q : Exit → Act → World → Prop} {e : TypeId} {t d : TypeId} (B : Nat) (x : List UInt8) (h1 : P.underlying t = some .string) (h3 : P.underlying d = some (.slice e)) (h2 : P.underlying e = some (.int .u8))
    (x' : Operand) (hop : o.op = Op.convert t d x') (hs : a.eval x' = .string ⟨x.toArray⟩) (hB : B ≤ w.heap.size) (hm : x.length ≤ maxLen)
    (hK : ∀ v' w', OwnI B e .u8 w' v' (x.map fun b => (b.toNat : Int)) → Below w.heap.size w w' → K (a.put o.dst v') w') : o.wp P a w K Q := by
  have hsz : (⟨x.toArray⟩ : ByteArray).size = x.length := by simp [ByteArray.size]
  have hrun := run_bytes_of_string (P := P) w t d e ⟨x.toArray⟩ h1 h3 h2
  have hown := own_of_bytes (w := w) (B := B) (e := e) ⟨x.toArray⟩ hB (by rw [hsz]; exact hm)
  unfold Oper.wp
  simp [execOp, hop, hs, hrun, Result.andThen]
  refine hK _ _ (by simpa using hown) ?_
  exact ((Below.refl _ _).drew).alloc (by simp) _
theorem exec_load_pgV {o : Oper} {a : Act} {w : World} {g : Nat} {p : Prg} {v : PV} (hs : PBox w g p v) (x : Operand) (ho : o.op = .load 45 x) (hx : a.eval x = .pointer (some ⟨g, 0, none⟩)) : (execOp a.eval o).run Try.prog w = .ok (.value (pgV p v)) w := by
  have r1 := run_loadVar_row (P := Try.prog) w g 45 45 (pgC p v) (0, 0) _ hs Try.underlying45 rfl info_pg
  unfold execOp
  simp only [ho, hx, Instr.loadAt, Instr.sureAddr, Sem.run_bind, Sem.run_pure, Result.andThen_ok, r1]
def roomI (p : Prg) (n : Nat) : Int := bndI p.grow * n + bndI p.rest + bndI p.extra
def fuelI (f : Int) : Int := min (max f 0) 35184372088832
/-- how a run ends -/
def RunPost (w0 : World) (p : Prg) (n : Nat) (F : Int) (e : Ending) (w' : World) : Prop :=
  ∃ (u : Value) (en used : Int) (l : List Int), e = .returned (.tuple #[u, .int .i64 en, .int .i64 used]) ∧ OwnI w0.heap.size 3 .i64 w' u l ∧ (en = 0 → (l.length : Int) ≤ roomI p n) ∧ (en ≠ 0 → l = []) ∧ (0 ≤ used ∧ used ≤ F) ∧
    (en = 0 ∨ en = 1 ∨ en = 2 ∨ en = 3) ∧ (checkI p = (0, 0) → en ≠ 3) ∧ Below w0.heap.size w0 w'
theorem bnd_le (n : Int) : 0 ≤ bndI n ∧ bndI n ≤ 1048576 := by unfold bndI; omega
def rs0 (vr : Value) (R F : Int) : RS := ⟨fun _ => 0, fun _ => 0, vr, 0, .slice none 0 0, .slice none 0 0, .slice none 0 0, 0, R, F, 0⟩
theorem vi_start {p : Prg} {x : List UInt8} {vr : Value} {R F : Int} (hx : x.length ≤ 4096) (hR : 0 ≤ R ∧ R ≤ 5000000000) (hF : 0 ≤ F ∧ F ≤ 35184372088832) : VI p (rs0 vr R F) (x.map fun b => (b.toNat : Int)) [] [] [] := by
  refine ⟨fun y hy => ?_, fun y hy => (by cases hy), (by rw [List.length_map]; omega), (by simp), (by simp), fun y hy => (by cases hy), hR.1, hR, ⟨Int.le_refl _, hF.1, hF.2⟩, ⟨Int.le_refl _, (by show (0 : Int) ≤ 262144; omega)⟩, fun k _ => ⟨Int.le_refl _, (by show (0 : Int) ≤ 262144; omega)⟩, fun k _ => (by show I64 0; unfold I64; omega)⟩
  obtain ⟨b, _, rfl⟩ := List.mem_map.1 hy
  have := b.toNat_lt
  omega
set_option maxRecDepth 100000 in
set_option maxHeartbeats 4000000 in
theorem vm_Run (p : Prg) (v : PV) (w : World) (x : List UInt8) (f : Int) (H : PrgAt w v p) (h64 : P64 p) (hk : p.hash.keys.length ≤ 35184372088832) :
    Calls Try.prog 9 #[pgV p v, .string ⟨x.toArray⟩, .int .i64 f] w (RunPost w p x.length (fuelI f)) := by
  have HP : Hid (PBox (w.alloc (.cells (pgC p v) 45)) w.heap.size p v) := Lib.hid (PBox.new _ _ _)
  have Hb0 : Hid (Below w.heap.size w (w.alloc (.cells (pgC p v) 45))) := Lib.hid ((Below.refl _ _).alloc (Nat.le_refl _) _)
  have hF0 : 0 ≤ fuelI f ∧ fuelI f ≤ 35184372088832 := by unfold fuelI; omega
  have HF0 := Lib.hid hF0
  have HH := Lib.hid H
  have H64 := Lib.hid h64
  have Hk := Lib.hid hk
  have hsz : (⟨x.toArray⟩ : ByteArray).size = x.length := by simp [ByteArray.size]
  by_cases hlen : 4096 < x.length
  · have hl' : (4096 : Int) < (x.length : Int) := by omega
    clear H h64 hk hF0
    go_enter Try.func9, Try.ntmps9
    repeat' (first | go_values | go_skip | go_guarded | go_step | go_upon)
    go_ret3
    exact ⟨_, 2, 0, [], rfl, OwnI.nil _ _ _ _, fun h => absurd h (by decide), fun _ => rfl, ⟨Int.le_refl _, HF0.out.1⟩, .inr (.inr (.inl rfl)), fun _ => by decide, Hb0.out⟩
  have hl' : ¬ (4096 : Int) < (x.length : Int) := by omega
  have hroom : 0 ≤ roomI p x.length ∧ roomI p x.length ≤ 5000000000 := by
    have h1 := bnd_le p.grow
    have h2 := bnd_le p.rest
    have h3 := bnd_le p.extra
    unfold roomI
    have h4 : 0 ≤ bndI p.grow * (x.length : Int) := Int.mul_nonneg h1.1 (by omega)
    have h5 : bndI p.grow * (x.length : Int) ≤ 1048576 * 4096 := Int.mul_le_mul h1.2 (by omega) (by omega) (by omega)
    omega
  have hw1 : IntKind.i64.wrap (bndI p.grow * (x.length : Int)) = bndI p.grow * (x.length : Int) := wi64 (by
    have h1 := bnd_le p.grow
    have h4 : 0 ≤ bndI p.grow * (x.length : Int) := Int.mul_nonneg h1.1 (by omega)
    have h5 : bndI p.grow * (x.length : Int) ≤ 1048576 * 4096 := Int.mul_le_mul h1.2 (by omega) (by omega) (by omega)
    unfold I64; omega)
  have hw2 : IntKind.i64.wrap (bndI p.grow * (x.length : Int) + bndI p.rest) = bndI p.grow * (x.length : Int) + bndI p.rest := wi64 (by
    have h1 := bnd_le p.grow
    have h2 := bnd_le p.rest
    have h4 : 0 ≤ bndI p.grow * (x.length : Int) := Int.mul_nonneg h1.1 (by omega)
    have h5 : bndI p.grow * (x.length : Int) ≤ 1048576 * 4096 := Int.mul_le_mul h1.2 (by omega) (by omega) (by omega)
    unfold I64; omega)
  have hw3 : IntKind.i64.wrap (bndI p.grow * (x.length : Int) + bndI p.rest + bndI p.extra) = roomI p x.length := wi64 (by unfold I64; unfold roomI at hroom; omega)
  obtain ⟨R, hR⟩ : ∃ q, roomI p x.length = q := ⟨_, rfl⟩
  obtain ⟨F, hF⟩ : ∃ q, fuelI f = q := ⟨_, rfl⟩
  have Hpost : Hid (∀ (u : Value) (en used : Int) (l : List Int) (W : World), OwnI w.heap.size 3 .i64 W u l → (en = 0 → (l.length : Int) ≤ R) → (en ≠ 0 → l = []) → (0 ≤ used ∧ used ≤ F) →
      (en = 0 ∨ en = 1 ∨ en = 2 ∨ en = 3) → (checkI p = (0, 0) → en ≠ 3) → Below w.heap.size w W → RunPost w p x.length (fuelI f) (.returned (.tuple #[u, .int .i64 en, .int .i64 used])) W) := Lib.hid fun u en used l W h1 h2 h3 h4 h5 h6 h7 => by
    rw [← hR] at h2
    rw [← hF] at h4
    exact ⟨u, en, used, l, rfl, h1, h2, h3, h4, h5, h6, h7⟩
  generalize RunPost w p x.length (fuelI f) = POST at Hpost ⊢
  rw [hR] at hroom hw3
  have hF1 := HF0.out
  rw [hF] at hF1
  have HF1 := Lib.hid hF1
  have HFe : Hid (F = fuelI f) := Lib.hid hF.symm
  clear hR hF hF1 HF0
  have HR := Lib.hid hroom
  have Hlen := Lib.hid hlen
  clear H h64 hk hF0 hroom hlen
  go_enter Try.func9, Try.ntmps9
  repeat' (go_not_at_region 3; first | go_values | go_skip | go_guarded | go_step | go_upon)
  refine gen_world (fun W => PBox W w.heap.size p v ∧ Below w.heap.size w W) ⟨HP.out, Hb0.out⟩ ?_
  rintro w1 ⟨hP1, hb1⟩
  clear HP Hb0
  have q0 : ∀ nq : WB w1, nq.1.cell? ⟨w.heap.size, 0, none⟩ = some (.int .i64 p.grow) := fun nq => (hP1.keep nq.2).cell 0
  have q1 : ∀ nq : WB w1, nq.1.cell? ⟨w.heap.size, 1, none⟩ = some (.int .i64 p.rest) := fun nq => (hP1.keep nq.2).cell 1
  have q2 : ∀ nq : WB w1, nq.1.cell? ⟨w.heap.size, 2, none⟩ = some (.int .i64 p.extra) := fun nq => (hP1.keep nq.2).cell 2
  have HP1 := Lib.hid hP1
  have Hb1 := Lib.hid hb1
  clear hP1 hb1
  refine wp_region_anyC (by kernel_rfl) w1 ?_
  refine wpAnyC_take (i := 0) (v := _) rfl (by kernel_rfl) (by kernel_rfl) (by kernel_rfl) (fun _ _ _ h => h) (Or.inl ⟨by rfl, fun w ⟨nq, hw⟩ => by (subst hw; exact exec_load_pgV (HP1.out.keep nq.2) _ rfl rfl)⟩) (by go_simp <;> with_reducible rfl) ?_
  refine tkC 1 rfl ?_
  refine tkC 3 rfl ?_
  refine tkC 4 rfl ?_
  refine tkC 5 rfl ?_
  refine tkC 6 rfl ?_
  refine tkC 7 rfl ?_
  have hFe : (if 35184372088832 < (if f < 0 then 0 else f) then (35184372088832 : Int) else (if f < 0 then 0 else f)) = F := by
    rw [HFe.out]; unfold fuelI
    split <;> (try split at *) <;> omega
  rw [hFe]
  clear hFe
  refine wpAnyC_takeK (i := 8) (v := _) rfl (by kernel_rfl) (by kernel_rfl) (by kernel_rfl) (fun _ _ _ h => h) (Or.inl ⟨by rfl, fun w ⟨nq, hw⟩ => by (subst hw; go_simp; first | exact ⟨rfl, vm_bound _ _⟩ | exact vm_bound _ _)⟩) (by go_simp <;> with_reducible rfl) ?_
  refine tkC 9 rfl ?_
  refine tkC 10 rfl ?_
  refine tkC 11 rfl ?_
  refine tkC 12 rfl ?_
  refine tkC 13 rfl ?_
  refine wpAnyC_takeK (i := 14) (v := _) rfl (by kernel_rfl) (by kernel_rfl) (by kernel_rfl) (fun _ _ _ h => h) (Or.inl ⟨by rfl, fun w ⟨nq, hw⟩ => by (subst hw; go_simp; first | exact ⟨rfl, vm_bound _ _⟩ | exact vm_bound _ _)⟩) (by go_simp <;> with_reducible rfl) ?_
  refine tkC 15 rfl ?_
  refine tkC 16 rfl ?_
  refine tkC 17 rfl ?_
  refine wpAnyC_takeK (i := 18) (v := _) rfl (by kernel_rfl) (by kernel_rfl) (by kernel_rfl) (fun _ _ _ h => h) (Or.inl ⟨by rfl, fun w ⟨nq, hw⟩ => by (subst hw; go_simp; first | exact ⟨rfl, vm_bound _ _⟩ | exact vm_bound _ _)⟩) (by go_simp <;> with_reducible rfl) ?_
  refine tkC 19 rfl ?_
  clear q0 q1 q2 hw1 hw2 hw3
  refine genCk (fun W => Below w1.heap.size w1 W) (Below.refl _ _).drew ?_
  intro w2 hb2
  refine wpAnyC_ready (CW.of (hb2)) (rs := [2]) (by kernel_rfl) (by simp) ?_
  refine (AllReadyC.cons rfl (fun K hK => ?_) AllReadyC.nil)
  refine step_of rfl (wp_bytesW (e := 5) w.heap.size x Try.underlying9 Try.underlying87 Try.underlying5 (.tmp 16) rfl rfl (Nat.le_trans Hb1.out.size hb2.size) (by have := Hlen.out; unfold maxLen; omega) ?_)
  intro vr w3 ho hb3
  obtain ⟨av, cv, hvr⟩ := ho.form
  subst hvr
  refine hK _ _ ?_
  clear hK K
  have hb4 : Below w1.heap.size w1 w3 := hb2.trans (hb3.mono hb2.size)
  clear hb2 hb3
  refine tkC 20 rfl ?_
  refine wpAnyC_ready (CW.of (hb4)) (rs := [21]) (by kernel_rfl) (by simp) ?_
  refine (AllReadyC.cons rfl (fun K hK => ?_) AllReadyC.nil)
  go_simp
  refine hK _ _ ?_
  clear hK K
  have hb5 : Below w3.heap.size w3 (w3.alloc (.cells (rnC p v (rs0 (.slice av x.length cv) R F)) 92)) := (Below.refl _ _).alloc (Nat.le_refl _) _
  have hle : w.heap.size ≤ w3.heap.size := Nat.le_trans Hb1.out.size hb4.size
  refine genCk (fun W => VM w w3.heap.size p v (rs0 (.slice av x.length cv) R F) (x.map fun b => (b.toNat : Int)) [] [] [] W ∧ Below w1.heap.size w1 W) ⟨⟨(Hb1.out.trans (hb4.mono Hb1.out.size)).trans (hb5.mono hle), HH.out, Go.heap_alloc_new _ _, hle, by
    have := ho.keep hb5 (Nat.le_refl _)
    rw [List.length_map] at this
    exact this, OwnI.nil _ _ _ _, OwnI.nil _ _ _ _, OwnI.nil _ _ _ _, fun q h => by simp [rs0, Value.ownBlock] at h, fun q h => by simp [rs0, Value.ownBlock] at h⟩, hb4.trans (hb5.mono hb4.size)⟩ ?_
  rintro w5 ⟨hv5, hb6⟩
  refine tkC 22 rfl ?_
  refine wpAnyC_done (by kernel_rfl) (CW.of (hb6)) (by go_simp <;> with_reducible rfl) ?_
  have HV := Lib.hid hv5
  have HI := Lib.hid (vi_start (p := p) (x := x) (vr := .slice av x.length cv) (R := R) (F := F) (by have := Hlen.out; omega) HR.out HF1.out)
  have HS : Hid (∀ S, OkP p S → runIn p S (rs0 (.slice av x.length cv) R F).pl (rs0 (.slice av x.length cv) R F).rg) := Lib.hid fun S h => run_start h
  have HF : Hid ((rs0 (.slice av x.length cv) R F).fuel = F ∧ (rs0 (.slice av x.length cv) R F).room = R ∧ F - (rs0 (.slice av x.length cv) R F).used ≤ (F.toNat : Nat)) := Lib.hid ⟨rfl, rfl, by have := HF1.out.1; show F - 0 ≤ _; omega⟩
  clear hv5 hb6 hb5 hle ho hb4 HP1 Hb1
  generalize rs0 (.slice av x.length cv) R F = s0 at HV HI HS HF
  generalize (x.map fun b => (b.toNat : Int)) = src0 at HV HI
  generalize w3.heap.size = gr at HV ⊢
  repeat' (first | go_values | go_skip | go_guarded | go_step | go_upon)
  go_loopg [10] F.toNat (fun gk _ wr => ∃ (s : RS) (src put sg tl : List Int), Hid (VM w gr p v s src put sg tl wr) ∧ Hid (VI p s src put sg tl) ∧ Hid (s.fuel = F ∧ s.room = R ∧ F - s.used ≤ (gk : Nat)) ∧ Hid (∀ S, OkP p S → runIn p S s.pl s.rg))
  case atStart => exact ⟨s0, src0, [], [], [], HV, HI, HF, HS⟩
  case round =>
    clear HV HI HF HS
    obtain ⟨s, src, put, sg, tl, HV, HI, HF, HS⟩ := hrel
    repeat' (first | go_values | go_skip | go_guarded | go_step | go_upon)
    refine Calls.mono (vm_step HV.out HI.out H64.out Hk.out) ?_
    rintro _ w6 ⟨en, c, rfl, hp⟩
    dsimp only
    have Hp := Lib.hid hp
    clear hp
    rcases Hp.out with ⟨rfl, ⟨s', hv, hu1, hu2⟩, hen⟩ | ⟨rfl, s', src', put', sg', tl', hv, hi, hu, hf, hr, hat, h1, hn⟩
    · have HV6 := Lib.hid hv
      have Hu : Hid (0 ≤ s'.used ∧ s'.used ≤ F) := Lib.hid ⟨by have := HI.out.fuel.1; omega, by rw [← HF.out.1]; exact hu2⟩
      have Hen : Hid (en = 0 ∨ en = 1 ∨ (en = 3 ∧ Flt p s)) := Lib.hid hen
      have Htl : Hid ((tl.length : Int) ≤ R) := Lib.hid (by rw [← HF.out.2.1]; exact HI.out.ltl)
      have q24 : ∀ nq : WB w6, nq.1.cell? ⟨gr, 24, none⟩ = some s'.vl := fun nq => (hv.box.keep nq.2).cell 24
      have q28 : ∀ nq : WB w6, nq.1.cell? ⟨gr, 28, none⟩ = some (.int .i64 s'.used) := fun nq => (hv.box.keep nq.2).cell 28
      clear hv hu1 hu2 hen Hp HV HI HF
      by_cases h0 : en = 0
      · subst h0
        repeat' (go_not_at_region 6; first | go_values | go_skip | go_guarded | go_step | go_upon)
        refine wp_region_anyC (by kernel_rfl) w6 ?_
        refine tkC 0 rfl ?_
        refine tkC 1 rfl ?_
        refine tkC 2 rfl ?_
        refine tkC 3 rfl ?_
        refine tkC 4 rfl ?_
        refine tkC 5 rfl ?_
        refine tkC 6 rfl ?_
        refine tkC 7 rfl ?_
        refine tkC 8 rfl ?_
        refine tkC 9 rfl ?_
        refine tkC 10 rfl ?_
        refine tkC 11 rfl ?_
        refine wpAnyC_done (by kernel_rfl) (CW.of ((Below.refl _ _).drew)) (by go_simp <;> with_reducible rfl) ?_
        clear q24 q28
        repeat' (first | go_values | go_skip | go_guarded | go_step | go_upon)
        go_ret3
        exact Hpost.out _ 0 _ tl _ (HV6.out.keep (Below.refl _ _).drew).otl (fun _ => Htl.out) (fun h => absurd rfl h) Hu.out (.inl rfl) (fun _ => by decide) (HV6.out.keep (Below.refl _ _).drew).bel
      · have hne : (en == 0) = false := beq_false_of_ne h0
        repeat' (go_not_at_region 8; first | go_values | go_skip | go_guarded | go_step | go_upon)
        refine wp_region_anyC (by kernel_rfl) w6 ?_
        refine tkC 0 rfl ?_
        refine tkC 1 rfl ?_
        refine tkC 2 rfl ?_
        refine tkC 3 rfl ?_
        refine tkC 4 rfl ?_
        refine tkC 5 rfl ?_
        refine tkC 6 rfl ?_
        refine tkC 7 rfl ?_
        refine wpAnyC_done (by kernel_rfl) (CW.of ((Below.refl _ _).drew)) (by go_simp <;> with_reducible rfl) ?_
        clear q24 q28
        repeat' (first | go_values | go_skip | go_guarded | go_step | go_upon)
        go_ret3
        refine Hpost.out _ en _ [] _ (OwnI.nil _ _ _ _) (fun h => absurd h h0) (fun _ => rfl) Hu.out ?_ ?_ (HV6.out.keep (Below.refl _ _).drew).bel
        · rcases Hen.out with h | h | ⟨h, _⟩
          · exact .inl h
          · exact .inr (.inl h)
          · exact .inr (.inr (.inr h))
        · intro hc he
          rcases Hen.out with h | h | ⟨_, h⟩
          · omega
          · omega
          · obtain ⟨S, hS⟩ := ok_is hc
            exact flt_not hS (HS.out S hS) h
    · have HV6 := Lib.hid hv
      have HI6 := Lib.hid hi
      have HF6 : Hid (s'.fuel = F ∧ s'.room = R ∧ F - s'.used ≤ ((F - s'.used).toNat : Nat)) := Lib.hid ⟨by rw [hf]; exact HF.out.1, by rw [hr]; exact HF.out.2.1, by omega⟩
      have Hm : Hid ((F - s'.used).toNat < gk) := Lib.hid (by
        have h2 := HF.out
        have h3 := hi.fuel
        rw [hf, HF.out.1] at h3
        omega)
      have HS6 : Hid (∀ S, OkP p S → runIn p S s'.pl s'.rg) := Lib.hid fun S h => run_next h (HS.out S h) hn h1
      clear hv hi hu hf hr hat h1 hn Hp HV HI HF HS
      repeat' (first | go_values | go_skip | go_guarded | go_step | go_upon)
      go_roundg (F - s'.used).toNat
      case rel => exact ⟨s', src', put', sg', tl', HV6, HI6, HF6, HS6⟩
      case measure => exact Hm.out
end Go.Proofs.Ytkpdcejnanhgoaa
