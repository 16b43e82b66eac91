/- Plain laws: a text cut at a byte; an instruction's line, read again (P21.4, P21.5). No conditions; no program. -/
import Derived.Test.YtpelngkhipcneaaDoorIsaPutSpec
import Derived.Lib.SplitLaws
import Derived.Lib.Atoi
import Derived.Lib.AtoiAll
namespace Go.Proofs.YtpelngkhipcneaaDoor
open Go.RowKit
/-- a text, cut at a byte -/
def spl (c : UInt8) : List UInt8 → List (List UInt8)
  | [] => [[]]
  | b :: l => if b = c then [] :: spl c l else (b :: (spl c l).headD []) :: (spl c l).tail
theorem spl_ne (c : UInt8) (l : List UInt8) : spl c l ≠ [] := by
  cases l with
  | nil => simp [spl]
  | cons b l => unfold spl; split <;> simp
theorem spl_ht (c : UInt8) (l : List UInt8) : (spl c l).headD [] :: (spl c l).tail = spl c l := by
  have := spl_ne c l
  cases h : spl c l with
  | nil => exact absurd h this
  | cons a t => rfl
theorem spl_app (c : UInt8) : ∀ a b : List UInt8, c ∉ a → spl c (a ++ c :: b) = a :: spl c b
  | [], b, _ => by simp [spl]
  | x :: a, b, h => by
    simp only [List.mem_cons, not_or] at h
    rw [List.cons_append, spl, if_neg (fun e => h.1 e.symm), spl_app c a b h.2]; rfl
theorem spl_one (c : UInt8) : ∀ a : List UInt8, c ∉ a → spl c a = [a]
  | [], _ => rfl
  | x :: a, h => by
    simp only [List.mem_cons, not_or] at h
    rw [spl, if_neg (fun e => h.1 e.symm), spl_one c a h.2]; rfl
def joi (c : UInt8) : List (List UInt8) → List UInt8
  | [] => []
  | [p] => p
  | p :: q :: r => p ++ c :: joi c (q :: r)
theorem joi_cons (c : UInt8) (p : List UInt8) (r : List (List UInt8)) (h : r ≠ []) : joi c (p :: r) = p ++ c :: joi c r := by
  cases r with
  | nil => exact absurd rfl h
  | cons q r => rfl
theorem joi_head (c b : UInt8) (p : List UInt8) (r : List (List UInt8)) : joi c ((b :: p) :: r) = b :: joi c (p :: r) := by
  cases r with
  | nil => rfl
  | cons q r => rfl
theorem joi_spl (c : UInt8) : ∀ l : List UInt8, joi c (spl c l) = l
  | [] => rfl
  | b :: l => by
    unfold spl
    split
    · rename_i h; rw [joi_cons c _ _ (spl_ne c l), joi_spl c l, h]; rfl
    · rw [joi_head, spl_ht, joi_spl c l]
theorem spl_inj {c : UInt8} {a b : List UInt8} (h : spl c a = spl c b) : a = b := by rw [← joi_spl c a, h, joi_spl]
theorem spl_flat (c : UInt8) {α : Type} (f : α → List UInt8) : ∀ (ls : List α) (a : List UInt8), c ∉ a → (∀ y ∈ ls, c ∉ f y) → spl c (a ++ ls.flatMap fun y => c :: f y) = a :: ls.map f
  | [], a, h, _ => by simpa using spl_one c a h
  | y :: ls, a, h, hf => by
    rw [List.flatMap_cons, List.cons_append, spl_app c a _ h, spl_flat c f ls (f y) (hf y (by simp)) fun z hz => hf z (by simp [hz])]; rfl
theorem splitK_spl (c : UInt8) : ∀ l : List UInt8, Lib.splitK [c] 0 (Lib.count l [c]) l = spl c l
  | [] => by rw [Lib.count_miss (by simp [Lib.index])]; rfl
  | b :: l => by
    have ih := splitK_spl c l
    by_cases h : b = c
    · subst h
      have hix : Lib.index (b :: l) [b] = 0 := by rw [Lib.index]; simp [List.isPrefixOf]
      rw [Lib.count_cons_eq, Nat.add_comm, Lib.splitK, hix, spl, if_pos rfl]
      simpa using ih
    · have hp : ([c] : List UInt8).isPrefixOf (b :: l) = false := by simp [List.isPrefixOf, Ne.symm h]
      have hix : Lib.index (b :: l) [c] = if Lib.index l [c] == -1 then -1 else Lib.index l [c] + 1 := by rw [Lib.index, hp]; simp
      rw [Lib.count_cons_ne b c l h, spl, if_neg h]
      cases hk : Lib.count l [c] with
      | zero =>
        rw [hk] at ih
        rw [← ih]; rfl
      | succ k =>
        rw [hk] at ih
        by_cases hm : Lib.index l [c] = -1
        · rw [Lib.splitK, if_pos (by rw [hm]; rfl)] at ih
          rw [Lib.splitK, hix, if_pos (by rw [hm]; rfl), ← ih]; rfl
        · have hge := Lib.index_ge l [c]
          obtain ⟨j, hj⟩ : ∃ j : Nat, Lib.index l [c] = j := ⟨(Lib.index l [c]).toNat, by omega⟩
          rw [Lib.splitK, if_neg (fun e => hm (beq_iff_eq.1 e)), hj] at ih
          rw [Lib.splitK, hix, if_neg (fun e => hm (beq_iff_eq.1 e)), hj, if_neg (by simp; omega), ← ih]
          simp [show ((j : Int) + 1).toNat = j + 1 from by omega]
/-! ### digits -/
theorem dec_digit (u : Nat) : ∀ b ∈ Lib.decDigits u, 48 ≤ b.toNat ∧ b.toNat ≤ 57 := by
  induction u using Nat.strongRecOn with
  | _ u ih =>
    rw [Lib.decDigits]
    split
    · rename_i h
      intro b hb
      simp only [List.mem_singleton] at hb
      subst hb
      have : (UInt8.ofNat (48 + u)).toNat = 48 + u := by simp; omega
      omega
    · rename_i h
      intro b hb
      rcases List.mem_append.1 hb with hb | hb
      · exact ih (u / 10) (by omega) b hb
      · simp only [List.mem_singleton] at hb
        subst hb
        have : (UInt8.ofNat (48 + u % 10)).toNat = 48 + u % 10 := by simp; omega
        omega
theorem dec_ne (u : Nat) : Lib.decDigits u ≠ [] := by
  rw [Lib.decDigits]; split <;> simp
theorem parse_app : ∀ (a b : List UInt8) (acc : Nat), Lib.parseUint10 acc (a ++ b) = match Lib.parseUint10 acc a with | .ok m => Lib.parseUint10 m b | .syntax => .syntax | .range => .range
  | [], b, acc => rfl
  | c :: a, b, acc => by
    simp only [List.cons_append, Lib.parseUint10]
    split
    · split
      · rfl
      · split
        · rfl
        · exact parse_app a b _
    · rfl
theorem parse_dec (u : Nat) (h : u < 9223372036854775808) : Lib.parseUint10 0 (Lib.decDigits u) = .ok u := by
  induction u using Nat.strongRecOn with
  | _ u ih =>
    rw [Lib.decDigits]
    split
    · rename_i h1
      have : (UInt8.ofNat (48 + u)).toNat = 48 + u := by simp; omega
      simp only [Lib.parseUint10, this]
      rw [if_pos (by omega), if_neg (by omega), if_neg (by omega)]
      congr 1; omega
    · rename_i h1
      have : (UInt8.ofNat (48 + u % 10)).toNat = 48 + u % 10 := by simp; omega
      rw [parse_app, ih (u / 10) (by omega) (by omega)]
      simp only [Lib.parseUint10, this]
      rw [if_pos (by omega), if_neg (by omega), if_neg (by omega)]
      congr 1; omega
theorem itoa_nn {v : Int} (h : 0 ≤ v) : Lib.itoa v = Lib.decDigits v.toNat := by unfold Lib.itoa; rw [if_neg (by omega)]
theorem atoi_itoa {v : Int} (h : 0 ≤ v) (h2 : v ≤ 9223372036854775807) : Lib.atoiAll (Lib.itoa v) = .ok v := by
  rw [itoa_nn h]
  have hd := dec_digit v.toNat
  have hn := dec_ne v.toNat
  have hp := parse_dec v.toNat (by omega)
  generalize Lib.decDigits v.toNat = l at hd hn hp
  cases l with
  | nil => exact absurd rfl hn
  | cons c r =>
    have hc := hd c (by simp)
    simp only [Lib.atoiAll]
    rw [if_neg (by omega), Lib.parseMag, if_neg (by simp), hp]
    simp only
    rw [if_neg (by omega), if_neg (by omega), if_neg (by omega)]
    congr 1; omega
theorem itoa_inj {a b : Int} (ha : 0 ≤ a) (ha2 : a ≤ 9223372036854775807) (hb : 0 ≤ b) (hb2 : b ≤ 9223372036854775807) (h : Lib.itoa a = Lib.itoa b) : a = b := by
  have e := atoi_itoa ha ha2
  rw [h, atoi_itoa hb hb2] at e
  injection e with e; exact e.symm
/-- digits without a 0 ahead, at most ten; -1: it is none -/
def numB (s : List UInt8) : Int := if s = [] ∨ 10 < s.length ∨ (at8 s 0 = 48 ∧ 1 < s.length) then -1 else match Lib.decFrom 0 s with | some n => n | none => -1
theorem decFrom_app : ∀ (a b : List UInt8) (acc : Nat), Lib.decFrom acc (a ++ b) = (Lib.decFrom acc a).bind fun m => Lib.decFrom m b
  | [], b, acc => rfl
  | c :: a, b, acc => by
    simp only [List.cons_append, Lib.decFrom]
    cases Lib.digitVal c with
    | none => rfl
    | some d => exact decFrom_app a b _
theorem dec_from (u : Nat) : Lib.decFrom 0 (Lib.decDigits u) = some u := by
  induction u using Nat.strongRecOn with
  | _ u ih =>
    rw [Lib.decDigits]
    split
    · rename_i h1
      have : (UInt8.ofNat (48 + u)).toNat = 48 + u := by simp; omega
      simp only [Lib.decFrom, Lib.digitVal, this]
      rw [if_pos (by omega)]
      simp
    · rename_i h1
      have : (UInt8.ofNat (48 + u % 10)).toNat = 48 + u % 10 := by simp; omega
      rw [decFrom_app, ih (u / 10) (by omega)]
      simp only [Option.bind_some, Lib.decFrom, Lib.digitVal, this]
      rw [if_pos (by omega)]
      simp only [Option.some.injEq]; omega
theorem dec_head (u : Nat) (h : 1 ≤ u) : at8 (Lib.decDigits u) 0 ≠ 48 := by
  induction u using Nat.strongRecOn with
  | _ u ih =>
    rw [Lib.decDigits]
    split
    · rename_i h1
      have : (UInt8.ofNat (48 + u)).toNat = 48 + u := by simp; omega
      simp only [at8, List.getD_cons_zero, this]; omega
    · rename_i h1
      have := ih (u / 10) (by omega) (by omega)
      have hn := dec_ne (u / 10)
      generalize Lib.decDigits (u / 10) = l at this hn
      cases l with
      | nil => exact absurd rfl hn
      | cons c r => exact this
theorem dec_len10 (u : Nat) (h : u < 10000000000) : (Lib.decDigits u).length ≤ 10 := by
  rw [Lib.decDigits_length]
  rcases Nat.lt_or_ge 10 (Lib.nDigits u) with h1 | h1
  · exfalso
    have key : ∀ (k u : Nat), k + 1 ≤ Lib.nDigits u → k ≠ 0 → 10 ^ k ≤ u := by
      intro k
      induction k with
      | zero => intro u _ h; exact absurd rfl h
      | succ k ih =>
        intro u h _
        by_cases hu : u < 10
        · rw [Lib.nDigits_small hu] at h; omega
        · rw [Lib.nDigits_big hu] at h
          rcases Nat.eq_zero_or_pos k with rfl | hk
          · simp; omega
          · have := ih (u / 10) (by omega) (by omega)
            rw [Nat.pow_succ]; omega
    have := key 10 u (by omega) (by decide)
    omega
  · exact h1
theorem numB_dec {u : Nat} (h : u < 10000000000) : numB (Lib.decDigits u) = u := by
  unfold numB
  rw [if_neg, dec_from]
  rintro (h1 | h1 | ⟨h1, h2⟩)
  · exact dec_ne u h1
  · have := dec_len10 u h; omega
  · rcases Nat.eq_zero_or_pos u with rfl | hu
    · rw [Lib.decDigits] at h2; simp at h2
    · exact dec_head u hu h1
theorem digitVal_some {c : UInt8} {d : Nat} (h : Lib.digitVal c = some d) : c = UInt8.ofNat (48 + d) ∧ d < 10 := by
  unfold Lib.digitVal at h
  split at h
  · rename_i h1
    simp only [Option.some.injEq] at h
    subst h
    refine ⟨?_, by omega⟩
    apply UInt8.toNat_inj.1
    simp; omega
  · cases h
theorem from_dec : ∀ (k : Nat) (s : List UInt8) (n : Nat), s.length = k → s ≠ [] → Lib.decFrom 0 s = some n → (at8 s 0 ≠ 48 ∨ s.length = 1) → Lib.decDigits n = s := by
  intro k
  induction k with
  | zero => intro s n hl hs; exact absurd (List.eq_nil_of_length_eq_zero hl) hs
  | succ k ih =>
    intro s n hl hs hd hh
    obtain ⟨a, c, rfl⟩ : ∃ a c, s = a ++ [c] := ⟨s.dropLast, s.getLast hs, (List.dropLast_concat_getLast hs).symm⟩
    rw [decFrom_app] at hd
    obtain ⟨m, hm, hd2⟩ := Option.bind_eq_some_iff.1 hd
    clear hd
    simp only [Lib.decFrom] at hd2
    cases hc : Lib.digitVal c with
    | none => rw [hc] at hd2; cases hd2
    | some d =>
      rw [hc] at hd2
      simp only [Option.some.injEq] at hd2
      obtain ⟨rfl, h10⟩ := digitVal_some hc
      by_cases ha : a = []
      · subst ha
        simp only [Lib.decFrom, Option.some.injEq] at hm
        subst hm hd2
        rw [Lib.decDigits, dif_pos (by omega)]; simp
      · have hal : a.length = k := by simp at hl; omega
        have ha0 : at8 (a ++ [UInt8.ofNat (48 + d)]) 0 = at8 a 0 := by
          cases a with
          | nil => exact absurd rfl ha
          | cons x a => rfl
        have hne : at8 a 0 ≠ 48 := by
          rcases hh with hh | hh
          · rw [← ha0]; exact hh
          · have : a.length ≠ 0 := fun e => ha (List.eq_nil_of_length_eq_zero e)
            rw [List.length_append, List.length_singleton] at hh; omega
        have e := ih a m hal ha hm (.inl hne)
        have hm1 : 1 ≤ m := by
          rcases Nat.eq_zero_or_pos m with rfl | h
          · rw [Lib.decDigits] at e
            exfalso; apply hne; rw [← e]; rfl
          · exact h
        rw [← hd2, Lib.decDigits, dif_neg (by omega), show (m * 10 + d) / 10 = m from by omega, show (m * 10 + d) % 10 = d from by omega, e]
theorem numB_back {s : List UInt8} (h : 0 ≤ numB s) : Lib.itoa (numB s) = s := by
  rw [itoa_nn h]
  unfold numB at h ⊢
  split at h
  · omega
  · rename_i hc
    rw [if_neg hc]
    cases hd : Lib.decFrom 0 s with
    | none => rw [hd] at h; simp at h
    | some n =>
      simp only [Int.toNat_natCast]
      refine from_dec _ s n rfl (fun e => hc (.inl e)) hd ?_
      by_cases h1 : s.length = 1
      · exact .inr h1
      · refine .inl fun e => hc (.inr (.inr ⟨e, ?_⟩))
        have : s.length ≠ 0 := fun e => hc (.inl (List.eq_nil_of_length_eq_zero e))
        omega
theorem numB_itoa {v : Int} (h : 0 ≤ v) (h2 : v < 10000000000) : numB (Lib.itoa v) = v := by
  rw [itoa_nn h, numB_dec (by omega)]; omega
/-! ### lines -/
def fldB (x : Nat → Int) (y : Nat) : List UInt8 := (sgn y).map u8 ++ Lib.itoa (x (pos y))
def agr (x y : Nat → Int) : Prop := x 0 = y 0 ∧ x 1 = y 1 ∧ x 2 = y 2 ∧ x 3 = y 3 ∧ x 4 = y 4
theorem wrd_no (o : Nat) : (32 : UInt8) ∉ (wrd o).map u8 := by
  unfold wrd; split <;> decide
theorem wrd_no10 (o : Nat) : (10 : UInt8) ∉ (wrd o).map u8 := by
  unfold wrd; split <;> decide
theorem sgn_no (y : Nat) : (32 : UInt8) ∉ (sgn y).map u8 ∧ (10 : UInt8) ∉ (sgn y).map u8 := by
  unfold sgn; split <;> (try split) <;> (try split) <;> (try split) <;> decide
theorem itoa_no {v : Int} (h : 0 ≤ v) {c : UInt8} (hc : c.toNat < 48) : c ∉ Lib.itoa v := by
  rw [itoa_nn h]
  intro hm
  have := dec_digit _ _ hm; omega
theorem fldB_no {x : Nat → Int} {y : Nat} (h : 0 ≤ x (pos y)) : (32 : UInt8) ∉ fldB x y ∧ (10 : UInt8) ∉ fldB x y := by
  unfold fldB
  have h1 := sgn_no y
  constructor
  · rw [List.mem_append, not_or]; exact ⟨h1.1, itoa_no h (by decide)⟩
  · rw [List.mem_append, not_or]; exact ⟨h1.2, itoa_no h (by decide)⟩
theorem lineL_eq (x : Nat → Int) : lineL x = (wrd (x 0).toNat).map u8 ++ (letr (x 0).toNat).flatMap fun y => 32 :: fldB x y := rfl
theorem lineL_spl {x : Nat → Int} (h : okI x = true) : spl 32 (lineL x) = (wrd (x 0).toNat).map u8 :: (letr (x 0).toNat).map (fldB x) := by
  rw [lineL_eq]
  exact spl_flat 32 (fldB x) _ _ (wrd_no _) fun y hy => (fldB_no (okI_in h hy).1).1
theorem lineL_no10 {x : Nat → Int} (h : okI x = true) : (10 : UInt8) ∉ lineL x := by
  rw [lineL_eq, List.mem_append, not_or]
  refine ⟨wrd_no10 _, fun hm => ?_⟩
  obtain ⟨y, hy, hm⟩ := List.mem_flatMap.1 hm
  rcases List.mem_cons.1 hm with hm | hm
  · exact absurd hm (by decide)
  · exact (fldB_no (okI_in h hy).1).2 hm
theorem wrd_inj {a b : Nat} (ha : 1 ≤ a) (ha2 : a ≤ 17) (hb : 1 ≤ b) (hb2 : b ≤ 17) (h : (wrd a).map u8 = (wrd b).map u8) : a = b := by
  have : ∀ a : Fin 18, ∀ b : Fin 18, 1 ≤ a.val → 1 ≤ b.val → (wrd a.val).map u8 = (wrd b.val).map u8 → a = b := by decide +kernel
  have := this ⟨a, by omega⟩ ⟨b, by omega⟩ ha hb h
  simpa using this
theorem letr_nodup (o : Nat) : ((letr o).map pos).Nodup := by
  unfold letr; split <;> decide
theorem bar_eq {v : Nat → Int} {l : List Nat} {j : Nat} (hj : j ≠ 0) : (bar v l j == v j) = true ↔ (j ∉ l.map pos → v j = 0) := by
  unfold bar
  by_cases h : j ∈ l.map pos
  · rw [if_pos (.inr h)]
    simp only [beq_self_eq_true, true_iff]
    exact fun h' => absurd h h'
  · rw [if_neg (by rintro (e | e); exact hj e; exact h e), beq_iff_eq]
    exact ⟨fun e _ => e.symm, fun e => (e h).symm⟩
theorem okI_iff (v : Nat → Int) : okI v = true ↔ (1 ≤ v 0 ∧ v 0 ≤ 17) ∧ (∀ y ∈ letr (v 0).toNat, 0 ≤ v (pos y) ∧ v (pos y) ≤ (mst y : Int)) ∧ ∀ j, 1 ≤ j → j ≤ 4 → j ∉ (letr (v 0).toNat).map pos → v j = 0 := by
  unfold okI
  generalize letr (v 0).toNat = l
  simp only [Bool.and_eq_true, decide_eq_true_eq, List.all_eq_true, inb]
  constructor
  · rintro ⟨h1, h2, h3, h4, h5, h6⟩
    refine ⟨h1, h2, fun j hj1 hj4 hjn => ?_⟩
    rcases (by omega : j = 1 ∨ j = 2 ∨ j = 3 ∨ j = 4) with rfl | rfl | rfl | rfl
    · exact (bar_eq (by decide)).1 h3 hjn
    · exact (bar_eq (by decide)).1 h4 hjn
    · exact (bar_eq (by decide)).1 h5 hjn
    · exact (bar_eq (by decide)).1 h6 hjn
  · rintro ⟨h1, h2, h3⟩
    exact ⟨h1, h2, (bar_eq (by decide)).2 (h3 1 (by decide) (by decide)), (bar_eq (by decide)).2 (h3 2 (by decide) (by decide)), (bar_eq (by decide)).2 (h3 3 (by decide) (by decide)), (bar_eq (by decide)).2 (h3 4 (by decide) (by decide))⟩
theorem agr_of {x y : Nat → Int} (h : ∀ j, j < 5 → x j = y j) : agr x y := ⟨h 0 (by decide), h 1 (by decide), h 2 (by decide), h 3 (by decide), h 4 (by decide)⟩
theorem agr.at {x y : Nat → Int} (h : agr x y) {j : Nat} (hj : j < 5) : x j = y j := by
  obtain ⟨h0, h1, h2, h3, h4⟩ := h
  rcases (by omega : j = 0 ∨ j = 1 ∨ j = 2 ∨ j = 3 ∨ j = 4) with rfl | rfl | rfl | rfl | rfl <;> assumption
theorem agr.symm {x y : Nat → Int} (h : agr x y) : agr y x := agr_of fun _ hj => (h.at hj).symm
theorem agr.trans {x y z : Nat → Int} (h : agr x y) (h' : agr y z) : agr x z := agr_of fun _ hj => (h.at hj).trans (h'.at hj)
theorem agr.ok {x y : Nat → Int} (h : agr x y) (hx : okI x = true) : okI y = true := by
  rw [okI_iff] at hx ⊢
  rw [← h.at (j := 0) (by decide)]
  refine ⟨hx.1, fun z hz => ?_, fun j h1 h4 hn => ?_⟩
  · have := pos_ge z
    rw [← h.at (by omega)]; exact hx.2.1 z hz
  · rw [← h.at (by omega)]; exact hx.2.2 j h1 h4 hn
theorem agr.fld {x y : Nat → Int} (h : agr x y) (z : Nat) : fldB x z = fldB y z := by
  have := pos_ge z
  unfold fldB; rw [h.at (by omega)]
theorem agr.line {x y : Nat → Int} (h : agr x y) : lineL x = lineL y := by
  rw [lineL_eq, lineL_eq, h.at (j := 0) (by decide)]
  have : (fun z => (32 : UInt8) :: fldB x z) = fun z => 32 :: fldB y z := by funext z; rw [h.fld]
  rw [this]
theorem agr.v {x y : Nat → Int} (h : agr x y) : vI x = vI y := by
  unfold vI; rw [h.1, h.2.1, h.2.2.1, h.2.2.2.1, h.2.2.2.2]
theorem agr.l {x y : Nat → Int} (h : agr x y) : icL x = icL y := by
  unfold icL; rw [h.1, h.2.1, h.2.2.1, h.2.2.2.1, h.2.2.2.2]
/-- what a line's parts tell of an instruction whose line it is -/
theorem line_parts {x : Nat → Int} {s : List UInt8} (h : okI x = true) (hs : lineL x = s) : ∃ o : Nat, x 0 = o ∧ 1 ≤ o ∧ o ≤ 17 ∧ (spl 32 s).headD [] = (wrd o).map u8 ∧ (spl 32 s).length = (letr o).length + 1 ∧ ∀ k (hk : k < (letr o).length), (spl 32 s).getD (k + 1) [] = fldB x (letr o)[k] := by
  have h0 := okI_op h
  refine ⟨(x 0).toNat, by omega, by omega, by omega, ?_, ?_, fun k hk => ?_⟩
  all_goals rw [← hs, lineL_spl h]
  · rfl
  · simp
  · simp [List.getD, List.getElem?_eq_getElem hk]
theorem line_inj {x y : Nat → Int} (hx : okI x = true) (hy : okI y = true) (h : lineL x = lineL y) : agr x y := by
  obtain ⟨o, hxo, h1, h2, h3, h4, h5⟩ := line_parts hx h
  obtain ⟨o', hyo, h1', h2', h3', h4', h5'⟩ := line_parts hy rfl
  obtain rfl := wrd_inj h1 h2 h1' h2' (by rw [← h3, ← h3'])
  have hx2 := (okI_iff x).1 hx
  have hy2 := (okI_iff y).1 hy
  rw [hxo, Int.toNat_natCast] at hx2
  rw [hyo, Int.toNat_natCast] at hy2
  apply agr_of
  intro j hj
  by_cases h0 : j = 0
  · subst h0; rw [hxo, hyo]
  · by_cases hm : j ∈ (letr o).map pos
    · obtain ⟨z, hz, rfl⟩ := List.mem_map.1 hm
      obtain ⟨k, hk, rfl⟩ := List.getElem_of_mem hz
      have e := (h5 k hk).symm.trans (h5' k hk)
      unfold fldB at e
      have e := List.append_cancel_left e
      have b1 := hx2.2.1 _ hz; have b2 := hy2.2.1 _ hz; have b3 := mst_le (letr o)[k]
      exact itoa_inj b1.1 (by omega) b2.1 (by omega) e
    · rw [hx2.2.2 j (by omega) (by omega) hm, hy2.2.2 j (by omega) (by omega) hm]
/-- the instruction whose line a text is -/
noncomputable def rdI (s : List UInt8) : Option (Nat → Int) := by
  classical
  exact if h : ∃ x, okI x = true ∧ lineL x = s then some (Classical.choose h) else none
theorem rdI_some {s : List UInt8} {x : Nat → Int} (h : rdI s = some x) : okI x = true ∧ lineL x = s := by
  unfold rdI at h
  split at h
  · rename_i hx
    have := Classical.choose_spec hx
    simp only [Option.some.injEq] at h
    rw [h] at this; exact this
  · cases h
theorem rdI_none {s : List UInt8} (h : rdI s = none) : ∀ x, okI x = true → lineL x ≠ s := by
  intro x hx hs
  unfold rdI at h
  rw [dif_pos ⟨x, hx, hs⟩] at h
  cases h
theorem rdI_of {s : List UInt8} {x : Nat → Int} (hx : okI x = true) (hs : lineL x = s) : ∃ y, rdI s = some y ∧ agr x y := by
  cases h : rdI s with
  | none => exact absurd hs (rdI_none h x hx)
  | some y =>
    have := rdI_some h
    exact ⟨y, rfl, line_inj hx this.1 (by rw [hs, this.2])⟩
end Go.Proofs.YtpelngkhipcneaaDoor
