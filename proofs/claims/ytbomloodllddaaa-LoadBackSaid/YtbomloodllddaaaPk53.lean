/- Plain laws: a text cut at a byte; an instruction's line, read again (P21.4, P21.5). No conditions; no program. -/
import Derived.Test.YtbomloodllddaaaPk13
import Derived.Lib.SplitLaws
import Derived.Lib.Atoi
import Derived.Lib.AtoiAll
import Derived.Test.YtbomloodllddaaaPk00
namespace Go.Proofs.Ytbomloodllddaaa
open Go.RowKit
/-- a text, cut at a byte -/
def spl (c : UInt8) : List UInt8 → List (List UInt8)
  | [] => [[]]
  | b :: l => if b = c then [] :: spl c l else (b :: (spl c l).headD []) :: (spl c l).tail
theorem spl_ne (c : UInt8) (l : List UInt8) : spl c l ≠ [] := by
  cases l with
  | nil => simp [spl]
  | cons b l => unfold spl; split <;> simp
theorem spl_ht (c : UInt8) (l : List UInt8) : (spl c l).headD [] :: (spl c l).tail = spl c l := by
  have := spl_ne c l
  cases h : spl c l with
  | nil => exact absurd h this
  | cons a t => rfl
theorem spl_app (c : UInt8) : ∀ a b : List UInt8, c ∉ a → spl c (a ++ c :: b) = a :: spl c b
  | [], b, _ => by simp [spl]
  | x :: a, b, h => by
    simp only [List.mem_cons, not_or] at h
    rw [List.cons_append, spl, if_neg (fun e => h.1 e.symm), spl_app c a b h.2]; rfl
theorem spl_one (c : UInt8) : ∀ a : List UInt8, c ∉ a → spl c a = [a]
  | [], _ => rfl
  | x :: a, h => by
    simp only [List.mem_cons, not_or] at h
    rw [spl, if_neg (fun e => h.1 e.symm), spl_one c a h.2]; rfl
def joi (c : UInt8) : List (List UInt8) → List UInt8
  | [] => []
  | [p] => p
  | p :: q :: r => p ++ c :: joi c (q :: r)
theorem joi_cons (c : UInt8) (p : List UInt8) (r : List (List UInt8)) (h : r ≠ []) : joi c (p :: r) = p ++ c :: joi c r := by
  cases r with
  | nil => exact absurd rfl h
  | cons q r => rfl
theorem joi_head (c b : UInt8) (p : List UInt8) (r : List (List UInt8)) : joi c ((b :: p) :: r) = b :: joi c (p :: r) := by
  cases r with
  | nil => rfl
  | cons q r => rfl
theorem joi_spl (c : UInt8) : ∀ l : List UInt8, joi c (spl c l) = l
  | [] => rfl
  | b :: l => by
    unfold spl
    split
    · rename_i h; rw [joi_cons c _ _ (spl_ne c l), joi_spl c l, h]; rfl
    · rw [joi_head, spl_ht, joi_spl c l]
theorem spl_inj {c : UInt8} {a b : List UInt8} (h : spl c a = spl c b) : a = b := by rw [← joi_spl c a, h, joi_spl]
theorem spl_flat (c : UInt8) {α : Type} (f : α → List UInt8) : ∀ (ls : List α) (a : List UInt8), c ∉ a → (∀ y ∈ ls, c ∉ f y) → spl c (a ++ ls.flatMap fun y => c :: f y) = a :: ls.map f
  | [], a, h, _ => by simpa using spl_one c a h
  | y :: ls, a, h, hf => by
    rw [List.flatMap_cons, List.cons_append, spl_app c a _ h, spl_flat c f ls (f y) (hf y (by simp)) fun z hz => hf z (by simp [hz])]; rfl
theorem splitK_spl (c : UInt8) : ∀ l : List UInt8, Lib.splitK [c] 0 (Lib.count l [c]) l = spl c l
  | [] => by rw [Lib.count_miss (by simp [Lib.index])]; rfl
  | b :: l => by
    have ih := splitK_spl c l
    by_cases h : b = c
    · subst h
      have hix : Lib.index (b :: l) [b] = 0 := by rw [Lib.index]; simp [List.isPrefixOf]
      rw [Lib.count_cons_eq, Nat.add_comm, Lib.splitK, hix, spl, if_pos rfl]
      simpa using ih
    · have hp : ([c] : List UInt8).isPrefixOf (b :: l) = false := by simp [List.isPrefixOf, Ne.symm h]
      have hix : Lib.index (b :: l) [c] = if Lib.index l [c] == -1 then -1 else Lib.index l [c] + 1 := by rw [Lib.index, hp]; simp
      rw [Lib.count_cons_ne b c l h, spl, if_neg h]
      cases hk : Lib.count l [c] with
      | zero =>
        rw [hk] at ih
        rw [← ih]; rfl
      | succ k =>
        rw [hk] at ih
        by_cases hm : Lib.index l [c] = -1
        · rw [Lib.splitK, if_pos (by rw [hm]; rfl)] at ih
          rw [Lib.splitK, hix, if_pos (by rw [hm]; rfl), ← ih]; rfl
        · have hge := Lib.index_ge l [c]
          obtain ⟨j, hj⟩ : ∃ j : Nat, Lib.index l [c] = j := ⟨(Lib.index l [c]).toNat, by omega⟩
          rw [Lib.splitK, if_neg (fun e => hm (beq_iff_eq.1 e)), hj] at ih
          rw [Lib.splitK, hix, if_neg (fun e => hm (beq_iff_eq.1 e)), hj, if_neg (by simp; omega), ← ih]
          simp [show ((j : Int) + 1).toNat = j + 1 from by omega]
/-! ### digits -/
theorem dec_digit (u : Nat) : ∀ b ∈ Lib.decDigits u, 48 ≤ b.toNat ∧ b.toNat ≤ 57 := by
  induction u using Nat.strongRecOn with
  | _ u ih =>
    rw [Lib.decDigits]
    split
    · rename_i h
      intro b hb
      simp only [List.mem_singleton] at hb
      subst hb
      have : (UInt8.ofNat (48 + u)).toNat = 48 + u := by simp; omega
      omega
    · rename_i h
      intro b hb
      rcases List.mem_append.1 hb with hb | hb
      · exact ih (u / 10) (by omega) b hb
      · simp only [List.mem_singleton] at hb
        subst hb
        have : (UInt8.ofNat (48 + u % 10)).toNat = 48 + u % 10 := by simp; omega
        omega
theorem dec_ne (u : Nat) : Lib.decDigits u ≠ [] := by
  rw [Lib.decDigits]; split <;> simp
theorem parse_app : ∀ (a b : List UInt8) (acc : Nat), Lib.parseUint10 acc (a ++ b) = match Lib.parseUint10 acc a with | .ok m => Lib.parseUint10 m b | .syntax => .syntax | .range => .range
  | [], b, acc => rfl
  | c :: a, b, acc => by
    simp only [List.cons_append, Lib.parseUint10]
    split
    · split
      · rfl
      · split
        · rfl
        · exact parse_app a b _
    · rfl
theorem parse_dec (u : Nat) (h : u < 9223372036854775808) : Lib.parseUint10 0 (Lib.decDigits u) = .ok u := by
  induction u using Nat.strongRecOn with
  | _ u ih =>
    rw [Lib.decDigits]
    split
    · rename_i h1
      have : (UInt8.ofNat (48 + u)).toNat = 48 + u := by simp; omega
      simp only [Lib.parseUint10, this]
      rw [if_pos (by omega), if_neg (by omega), if_neg (by omega)]
      congr 1; omega
    · rename_i h1
      have : (UInt8.ofNat (48 + u % 10)).toNat = 48 + u % 10 := by simp; omega
      rw [parse_app, ih (u / 10) (by omega) (by omega)]
      simp only [Lib.parseUint10, this]
      rw [if_pos (by omega), if_neg (by omega), if_neg (by omega)]
      congr 1; omega
theorem itoa_nn {v : Int} (h : 0 ≤ v) : Lib.itoa v = Lib.decDigits v.toNat := by unfold Lib.itoa; rw [if_neg (by omega)]
theorem atoi_itoa {v : Int} (h : 0 ≤ v) (h2 : v ≤ 9223372036854775807) : Lib.atoiAll (Lib.itoa v) = .ok v := by
  rw [itoa_nn h]
  have hd := dec_digit v.toNat
  have hn := dec_ne v.toNat
  have hp := parse_dec v.toNat (by omega)
  generalize Lib.decDigits v.toNat = l at hd hn hp
  cases l with
  | nil => exact absurd rfl hn
  | cons c r =>
    have hc := hd c (by simp)
    simp only [Lib.atoiAll]
    rw [if_neg (by omega), Lib.parseMag, if_neg (by simp), hp]
    simp only
    rw [if_neg (by omega), if_neg (by omega), if_neg (by omega)]
    congr 1; omega
theorem itoa_inj {a b : Int} (ha : 0 ≤ a) (ha2 : a ≤ 9223372036854775807) (hb : 0 ≤ b) (hb2 : b ≤ 9223372036854775807) (h : Lib.itoa a = Lib.itoa b) : a = b := by
  have e := atoi_itoa ha ha2
  rw [h, atoi_itoa hb hb2] at e
  injection e with e; exact e.symm
/-- digits without a 0 ahead, at most ten; -1: it is none -/
def numB (s : List UInt8) : Int := if s = [] ∨ 10 < s.length ∨ (at8 s 0 = 48 ∧ 1 < s.length) then -1 else match Lib.decFrom 0 s with | some n => n | none => -1
theorem decFrom_app : ∀ (a b : List UInt8) (acc : Nat), Lib.decFrom acc (a ++ b) = (Lib.decFrom acc a).bind fun m => Lib.decFrom m b
  | [], b, acc => rfl
  | c :: a, b, acc => by
    simp only [List.cons_append, Lib.decFrom]
    cases Lib.digitVal c with
    | none => rfl
    | some d => exact decFrom_app a b _
theorem dec_from (u : Nat) : Lib.decFrom 0 (Lib.decDigits u) = some u := by
  induction u using Nat.strongRecOn with
  | _ u ih =>
    rw [Lib.decDigits]
    split
    · rename_i h1
      have : (UInt8.ofNat (48 + u)).toNat = 48 + u := by simp; omega
      simp only [Lib.decFrom, Lib.digitVal, this]
      rw [if_pos (by omega)]
      simp
    · rename_i h1
      have : (UInt8.ofNat (48 + u % 10)).toNat = 48 + u % 10 := by simp; omega
      rw [decFrom_app, ih (u / 10) (by omega)]
      simp only [Option.bind_some, Lib.decFrom, Lib.digitVal, this]
      rw [if_pos (by omega)]
      simp only [Option.some.injEq]; omega
theorem dec_head (u : Nat) (h : 1 ≤ u) : at8 (Lib.decDigits u) 0 ≠ 48 := by
  induction u using Nat.strongRecOn with
  | _ u ih =>
    rw [Lib.decDigits]
    split
    · rename_i h1
      have : (UInt8.ofNat (48 + u)).toNat = 48 + u := by simp; omega
      simp only [at8, List.getD_cons_zero, this]; omega
    · rename_i h1
      have := ih (u / 10) (by omega) (by omega)
      have hn := dec_ne (u / 10)
      generalize Lib.decDigits (u / 10) = l at this hn
      cases l with
      | nil => exact absurd rfl hn
      | cons c r => exact this
theorem dec_len10 (u : Nat) (h : u < 10000000000) : (Lib.decDigits u).length ≤ 10 := by
  rw [Lib.decDigits_length]
  rcases Nat.lt_or_ge 10 (Lib.nDigits u) with h1 | h1
  · exfalso
    have key : ∀ (k u : Nat), k + 1 ≤ Lib.nDigits u → k ≠ 0 → 10 ^ k ≤ u := by
      intro k
      induction k with
      | zero => intro u _ h; exact absurd rfl h
      | succ k ih =>
        intro u h _
        by_cases hu : u < 10
        · rw [Lib.nDigits_small hu] at h; omega
        · rw [Lib.nDigits_big hu] at h
          rcases Nat.eq_zero_or_pos k with rfl | hk
          · simp; omega
          · have := ih (u / 10) (by omega) (by omega)
            rw [Nat.pow_succ]; omega
    have := key 10 u (by omega) (by decide)
    omega
  · exact h1
theorem numB_dec {u : Nat} (h : u < 10000000000) : numB (Lib.decDigits u) = u := by
  unfold numB
  rw [if_neg, dec_from]
  rintro (h1 | h1 | ⟨h1, h2⟩)
  · exact dec_ne u h1
  · have := dec_len10 u h; omega
  · rcases Nat.eq_zero_or_pos u with rfl | hu
    · rw [Lib.decDigits] at h2; simp at h2
    · exact dec_head u hu h1
theorem digitVal_some {c : UInt8} {d : Nat} (h : Lib.digitVal c = some d) : c = UInt8.ofNat (48 + d) ∧ d < 10 := by
  unfold Lib.digitVal at h
  split at h
  · rename_i h1
    simp only [Option.some.injEq] at h
    subst h
    refine ⟨?_, by omega⟩
    apply UInt8.toNat_inj.1
    simp; omega
  · cases h
theorem from_dec : ∀ (k : Nat) (s : List UInt8) (n : Nat), s.length = k → s ≠ [] → Lib.decFrom 0 s = some n → (at8 s 0 ≠ 48 ∨ s.length = 1) → Lib.decDigits n = s := by
  intro k
  induction k with
  | zero => intro s n hl hs; exact absurd (List.eq_nil_of_length_eq_zero hl) hs
  | succ k ih =>
    intro s n hl hs hd hh
    obtain ⟨a, c, rfl⟩ : ∃ a c, s = a ++ [c] := ⟨s.dropLast, s.getLast hs, (List.dropLast_concat_getLast hs).symm⟩
    rw [decFrom_app] at hd
    obtain ⟨m, hm, hd2⟩ := Option.bind_eq_some_iff.1 hd
    clear hd
    simp only [Lib.decFrom] at hd2
    cases hc : Lib.digitVal c with
    | none => rw [hc] at hd2; cases hd2
    | some d =>
      rw [hc] at hd2
      simp only [Option.some.injEq] at hd2
      obtain ⟨rfl, h10⟩ := digitVal_some hc
      by_cases ha : a = []
      · subst ha
        simp only [Lib.decFrom, Option.some.injEq] at hm
        subst hm hd2
        rw [Lib.decDigits, dif_pos (by omega)]; simp
      · have hal : a.length = k := by simp at hl; omega
        have ha0 : at8 (a ++ [UInt8.ofNat (48 + d)]) 0 = at8 a 0 := by
          cases a with
          | nil => exact absurd rfl ha
          | cons x a => rfl
        have hne : at8 a 0 ≠ 48 := by
          rcases hh with hh | hh
          · rw [← ha0]; exact hh
          · have : a.length ≠ 0 := fun e => ha (List.eq_nil_of_length_eq_zero e)
            rw [List.length_append, List.length_singleton] at hh; omega
        have e := ih a m hal ha hm (.inl hne)
        have hm1 : 1 ≤ m := by
          rcases Nat.eq_zero_or_pos m with rfl | h
          · rw [Lib.decDigits] at e
            exfalso; apply hne; rw [← e]; rfl
          · exact h
        rw [← hd2, Lib.decDigits, dif_neg (by omega), show (m * 10 + d) / 10 = m from by omega, show (m * 10 + d) % 10 = d from by omega, e]
theorem numB_back {s : List UInt8} (h : 0 ≤ numB s) : Lib.itoa (numB s) = s := by
  rw [itoa_nn h]
  unfold numB at h ⊢
  split at h
  · omega
  · rename_i hc
    rw [if_neg hc]
    cases hd : Lib.decFrom 0 s with
    | none => rw [hd] at h; simp at h
    | some n =>
      simp only [Int.toNat_natCast]
      refine from_dec _ s n rfl (fun e => hc (.inl e)) hd ?_
      by_cases h1 : s.length = 1
      · exact .inr h1
      · refine .inl fun e => hc (.inr (.inr ⟨e, ?_⟩))
        have : s.length ≠ 0 := fun e => hc (.inl (List.eq_nil_of_length_eq_zero e))
        omega
theorem numB_itoa {v : Int} (h : 0 ≤ v) (h2 : v < 10000000000) : numB (Lib.itoa v) = v := by
  rw [itoa_nn h, numB_dec (by omega)]; omega
/-! ### lines -/
def fldB (x : Nat → Int) (y : Nat) : List UInt8 := (sgn y).map u8 ++ Lib.itoa (x (pos y))
def agr (x y : Nat → Int) : Prop := x 0 = y 0 ∧ x 1 = y 1 ∧ x 2 = y 2 ∧ x 3 = y 3 ∧ x 4 = y 4
theorem wrd_no (o : Nat) : (32 : UInt8) ∉ (wrd o).map u8 := by
  unfold wrd; split <;> decide
theorem wrd_no10 (o : Nat) : (10 : UInt8) ∉ (wrd o).map u8 := by
  unfold wrd; split <;> decide
theorem sgn_no (y : Nat) : (32 : UInt8) ∉ (sgn y).map u8 ∧ (10 : UInt8) ∉ (sgn y).map u8 := by
  unfold sgn; split <;> (try split) <;> (try split) <;> (try split) <;> decide
theorem itoa_no {v : Int} (h : 0 ≤ v) {c : UInt8} (hc : c.toNat < 48) : c ∉ Lib.itoa v := by
  rw [itoa_nn h]
  intro hm
  have := dec_digit _ _ hm; omega
theorem fldB_no {x : Nat → Int} {y : Nat} (h : 0 ≤ x (pos y)) : (32 : UInt8) ∉ fldB x y ∧ (10 : UInt8) ∉ fldB x y := by
  unfold fldB
  have h1 := sgn_no y
  constructor
  · rw [List.mem_append, not_or]; exact ⟨h1.1, itoa_no h (by decide)⟩
  · rw [List.mem_append, not_or]; exact ⟨h1.2, itoa_no h (by decide)⟩
theorem lineL_eq (x : Nat → Int) : lineL x = (wrd (x 0).toNat).map u8 ++ (letr (x 0).toNat).flatMap fun y => 32 :: fldB x y := rfl
theorem lineL_spl {x : Nat → Int} (h : okI x = true) : spl 32 (lineL x) = (wrd (x 0).toNat).map u8 :: (letr (x 0).toNat).map (fldB x) := by
  rw [lineL_eq]
  exact spl_flat 32 (fldB x) _ _ (wrd_no _) fun y hy => (fldB_no (okI_in h hy).1).1
theorem lineL_no10 {x : Nat → Int} (h : okI x = true) : (10 : UInt8) ∉ lineL x := by
  rw [lineL_eq, List.mem_append, not_or]
  refine ⟨wrd_no10 _, fun hm => ?_⟩
  obtain ⟨y, hy, hm⟩ := List.mem_flatMap.1 hm
  rcases List.mem_cons.1 hm with hm | hm
  · exact absurd hm (by decide)
  · exact (fldB_no (okI_in h hy).1).2 hm
theorem wrd_inj {a b : Nat} (ha : 1 ≤ a) (ha2 : a ≤ 17) (hb : 1 ≤ b) (hb2 : b ≤ 17) (h : (wrd a).map u8 = (wrd b).map u8) : a = b := by
  have : ∀ a : Fin 18, ∀ b : Fin 18, 1 ≤ a.val → 1 ≤ b.val → (wrd a.val).map u8 = (wrd b.val).map u8 → a = b := by decide +kernel
  have := this ⟨a, by omega⟩ ⟨b, by omega⟩ ha hb h
  simpa using this
theorem letr_nodup (o : Nat) : ((letr o).map pos).Nodup := by
  unfold letr; split <;> decide
theorem bar_eq {v : Nat → Int} {l : List Nat} {j : Nat} (hj : j ≠ 0) : (bar v l j == v j) = true ↔ (j ∉ l.map pos → v j = 0) := by
  unfold bar
  by_cases h : j ∈ l.map pos
  · rw [if_pos (.inr h)]
    simp only [beq_self_eq_true, true_iff]
    exact fun h' => absurd h h'
  · rw [if_neg (by rintro (e | e); exact hj e; exact h e), beq_iff_eq]
    exact ⟨fun e _ => e.symm, fun e => (e h).symm⟩
theorem okI_iff (v : Nat → Int) : okI v = true ↔ (1 ≤ v 0 ∧ v 0 ≤ 17) ∧ (∀ y ∈ letr (v 0).toNat, 0 ≤ v (pos y) ∧ v (pos y) ≤ (mst y : Int)) ∧ ∀ j, 1 ≤ j → j ≤ 4 → j ∉ (letr (v 0).toNat).map pos → v j = 0 := by
  unfold okI
  generalize letr (v 0).toNat = l
  simp only [Bool.and_eq_true, decide_eq_true_eq, List.all_eq_true, inb]
  constructor
  · rintro ⟨h1, h2, h3, h4, h5, h6⟩
    refine ⟨h1, h2, fun j hj1 hj4 hjn => ?_⟩
    rcases (by omega : j = 1 ∨ j = 2 ∨ j = 3 ∨ j = 4) with rfl | rfl | rfl | rfl
    · exact (bar_eq (by decide)).1 h3 hjn
    · exact (bar_eq (by decide)).1 h4 hjn
    · exact (bar_eq (by decide)).1 h5 hjn
    · exact (bar_eq (by decide)).1 h6 hjn
  · rintro ⟨h1, h2, h3⟩
    exact ⟨h1, h2, (bar_eq (by decide)).2 (h3 1 (by decide) (by decide)), (bar_eq (by decide)).2 (h3 2 (by decide) (by decide)), (bar_eq (by decide)).2 (h3 3 (by decide) (by decide)), (bar_eq (by decide)).2 (h3 4 (by decide) (by decide))⟩
theorem agr_of {x y : Nat → Int} (h : ∀ j, j < 5 → x j = y j) : agr x y := ⟨h 0 (by decide), h 1 (by decide), h 2 (by decide), h 3 (by decide), h 4 (by decide)⟩
theorem agr.at {x y : Nat → Int} (h : agr x y) {j : Nat} (hj : j < 5) : x j = y j := by
  obtain ⟨h0, h1, h2, h3, h4⟩ := h
  rcases (by omega : j = 0 ∨ j = 1 ∨ j = 2 ∨ j = 3 ∨ j = 4) with rfl | rfl | rfl | rfl | rfl <;> assumption
theorem agr.symm {x y : Nat → Int} (h : agr x y) : agr y x := agr_of fun _ hj => (h.at hj).symm
theorem agr.trans {x y z : Nat → Int} (h : agr x y) (h' : agr y z) : agr x z := agr_of fun _ hj => (h.at hj).trans (h'.at hj)
theorem agr.ok {x y : Nat → Int} (h : agr x y) (hx : okI x = true) : okI y = true := by
  rw [okI_iff] at hx ⊢
  rw [← h.at (j := 0) (by decide)]
  refine ⟨hx.1, fun z hz => ?_, fun j h1 h4 hn => ?_⟩
  · have := pos_ge z
    rw [← h.at (by omega)]; exact hx.2.1 z hz
  · rw [← h.at (by omega)]; exact hx.2.2 j h1 h4 hn
theorem agr.fld {x y : Nat → Int} (h : agr x y) (z : Nat) : fldB x z = fldB y z := by
  have := pos_ge z
  unfold fldB; rw [h.at (by omega)]
theorem agr.line {x y : Nat → Int} (h : agr x y) : lineL x = lineL y := by
  rw [lineL_eq, lineL_eq, h.at (j := 0) (by decide)]
  have : (fun z => (32 : UInt8) :: fldB x z) = fun z => 32 :: fldB y z := by funext z; rw [h.fld]
  rw [this]
theorem agr.v {x y : Nat → Int} (h : agr x y) : vI x = vI y := by
  unfold vI; rw [h.1, h.2.1, h.2.2.1, h.2.2.2.1, h.2.2.2.2]
theorem agr.l {x y : Nat → Int} (h : agr x y) : icL x = icL y := by
  unfold icL; rw [h.1, h.2.1, h.2.2.1, h.2.2.2.1, h.2.2.2.2]
/-- what a line's parts tell of an instruction whose line it is -/
theorem line_parts {x : Nat → Int} {s : List UInt8} (h : okI x = true) (hs : lineL x = s) : ∃ o : Nat, x 0 = o ∧ 1 ≤ o ∧ o ≤ 17 ∧ (spl 32 s).headD [] = (wrd o).map u8 ∧ (spl 32 s).length = (letr o).length + 1 ∧ ∀ k (hk : k < (letr o).length), (spl 32 s).getD (k + 1) [] = fldB x (letr o)[k] := by
  have h0 := okI_op h
  refine ⟨(x 0).toNat, by omega, by omega, by omega, ?_, ?_, fun k hk => ?_⟩
  all_goals rw [← hs, lineL_spl h]
  · rfl
  · simp
  · simp [List.getD, List.getElem?_eq_getElem hk]
theorem line_inj {x y : Nat → Int} (hx : okI x = true) (hy : okI y = true) (h : lineL x = lineL y) : agr x y := by
  obtain ⟨o, hxo, h1, h2, h3, h4, h5⟩ := line_parts hx h
  obtain ⟨o', hyo, h1', h2', h3', h4', h5'⟩ := line_parts hy rfl
  obtain rfl := wrd_inj h1 h2 h1' h2' (by rw [← h3, ← h3'])
  have hx2 := (okI_iff x).1 hx
  have hy2 := (okI_iff y).1 hy
  rw [hxo, Int.toNat_natCast] at hx2
  rw [hyo, Int.toNat_natCast] at hy2
  apply agr_of
  intro j hj
  by_cases h0 : j = 0
  · subst h0; rw [hxo, hyo]
  · by_cases hm : j ∈ (letr o).map pos
    · obtain ⟨z, hz, rfl⟩ := List.mem_map.1 hm
      obtain ⟨k, hk, rfl⟩ := List.getElem_of_mem hz
      have e := (h5 k hk).symm.trans (h5' k hk)
      unfold fldB at e
      have e := List.append_cancel_left e
      have b1 := hx2.2.1 _ hz; have b2 := hy2.2.1 _ hz; have b3 := mst_le (letr o)[k]
      exact itoa_inj b1.1 (by omega) b2.1 (by omega) e
    · rw [hx2.2.2 j (by omega) (by omega) hm, hy2.2.2 j (by omega) (by omega) hm]
/-- the instruction whose line a text is -/
noncomputable def rdI (s : List UInt8) : Option (Nat → Int) := by
  classical
  exact if h : ∃ x, okI x = true ∧ lineL x = s then some (Classical.choose h) else none
theorem rdI_some {s : List UInt8} {x : Nat → Int} (h : rdI s = some x) : okI x = true ∧ lineL x = s := by
  unfold rdI at h
  split at h
  · rename_i hx
    have := Classical.choose_spec hx
    simp only [Option.some.injEq] at h
    rw [h] at this; exact this
  · cases h
theorem rdI_none {s : List UInt8} (h : rdI s = none) : ∀ x, okI x = true → lineL x ≠ s := by
  intro x hx hs
  unfold rdI at h
  rw [dif_pos ⟨x, hx, hs⟩] at h
  cases h
theorem rdI_of {s : List UInt8} {x : Nat → Int} (hx : okI x = true) (hs : lineL x = s) : ∃ y, rdI s = some y ∧ agr x y := by
  cases h : rdI s with
  | none => exact absurd hs (rdI_none h x hx)
  | some y =>
    have := rdI_some h
    exact ⟨y, rfl, line_inj hx this.1 (by rw [hs, this.2])⟩
end Go.Proofs.Ytbomloodllddaaa
/- Plain laws: lines of instructions, read (P21.4), and what is read and written again (P21.5). No conditions; no program. -/
namespace Go.Proofs.Ytbomloodllddaaa
open Go.RowKit
/-- a text's first line, what stands behind it -/
def bef : List UInt8 → List UInt8
  | [] => []
  | b :: l => if b = 10 then [] else b :: bef l
def aft : List UInt8 → List UInt8
  | [] => []
  | b :: l => if b = 10 then l else aft l
theorem aft_len : ∀ l : List UInt8, l ≠ [] → (aft l).length < l.length
  | [], h => absurd rfl h
  | b :: l, _ => by
    unfold aft
    split
    · simp
    · by_cases h : l = []
      · subst h; simp [aft]
      · have := aft_len l h; simp; omega
theorem bef_len : ∀ l : List UInt8, (bef l).length ≤ l.length
  | [] => Nat.le_refl _
  | b :: l => by
    have := bef_len l
    unfold bef; split <;> simp <;> omega
theorem bef_none : ∀ l : List UInt8, (10 : UInt8) ∉ l → bef l = l ∧ aft l = []
  | [], _ => ⟨rfl, rfl⟩
  | b :: l, h => by
    simp only [List.mem_cons, not_or] at h
    have := bef_none l h.2
    unfold bef aft
    rw [if_neg (fun e => h.1 e.symm), if_neg (fun e => h.1 e.symm), this.1, this.2]
    exact ⟨rfl, rfl⟩
theorem bef_app : ∀ a b : List UInt8, (10 : UInt8) ∉ a → bef (a ++ 10 :: b) = a ∧ aft (a ++ 10 :: b) = b
  | [], b, _ => by simp [bef, aft]
  | x :: a, b, h => by
    simp only [List.mem_cons, not_or] at h
    have := bef_app a b h.2
    rw [List.cons_append, bef, aft, if_neg (fun e => h.1 e.symm), if_neg (fun e => h.1 e.symm), this.1, this.2]
    exact ⟨rfl, rfl⟩
theorem bef_aft : ∀ l : List UInt8, (10 : UInt8) ∈ l → l = bef l ++ 10 :: aft l ∧ (10 : UInt8) ∉ bef l
  | [], h => by simp at h
  | b :: l, h => by
    unfold bef aft
    by_cases hb : b = 10
    · rw [if_pos hb, if_pos hb, hb]; simp
    · rw [if_neg hb, if_neg hb]
      have := bef_aft l (by rcases List.mem_cons.1 h with h | h; exact absurd h.symm hb; exact h)
      refine ⟨by rw [List.cons_append, ← this.1], ?_⟩
      simp only [List.mem_cons, not_or]
      exact ⟨fun e => hb e.symm, this.2⟩
theorem cut_bef : ∀ l : List UInt8, Lib.cut l [10] = (bef l, aft l, decide ((10 : UInt8) ∈ l)) := by
  intro l
  by_cases h : (10 : UInt8) ∈ l
  · have hp := bef_aft l h
    have hix : ∀ a b : List UInt8, (10 : UInt8) ∉ a → Lib.index (a ++ 10 :: b) [10] = (a.length : Int) := by
      intro a
      induction a with
      | nil => intro b _; simp [Lib.index, List.isPrefixOf]
      | cons x a ih =>
        intro b hx
        simp only [List.mem_cons, not_or] at hx
        rw [List.cons_append, Lib.index, ih b hx.2]
        have : ([10] : List UInt8).isPrefixOf (x :: (a ++ 10 :: b)) = false := by simp [List.isPrefixOf, hx.1]
        rw [this]; simp
    have hi := hix (bef l) (aft l) hp.2
    rw [← hp.1] at hi
    unfold Lib.cut
    rw [hi, if_pos (by omega)]
    simp only [Int.toNat_natCast, List.length_singleton, h, decide_true, Prod.mk.injEq, and_true]
    constructor
    · have e := List.take_left (l₁ := bef l) (l₂ := 10 :: aft l)
      rw [← hp.1] at e; exact e
    · have e := List.drop_left (l₁ := bef l) (l₂ := 10 :: aft l)
      rw [← hp.1] at e
      rw [← List.drop_drop, e]; rfl
  · have hix : ∀ a : List UInt8, (10 : UInt8) ∉ a → Lib.index a [10] = -1 := by
      intro a
      induction a with
      | nil => intro _; simp [Lib.index]
      | cons x a ih =>
        intro hx
        simp only [List.mem_cons, not_or] at hx
        rw [Lib.index, ih hx.2]
        have : ([10] : List UInt8).isPrefixOf (x :: a) = false := by simp [List.isPrefixOf, hx.1]
        rw [this]; simp
    unfold Lib.cut
    rw [hix l h, if_neg (by omega)]
    rw [(bef_none l h).1, (bef_none l h).2]
    simp [h]
/-- what is read of lines: the instructions, the error, the line's number -/
noncomputable def pgo : Nat → List UInt8 → List (Nat → Int) → List (Nat → Int) × Int × Int
  | 0, _, acc => ([], 211, (acc.length : Int) + 1)
  | f + 1, s, acc => if s = [] then (acc, 0, 0) else
    match rdI (bef s) with
    | none => ([], 211, (acc.length : Int) + 1)
    | some x => if (10 : UInt8) ∉ s ∨ 4096 < acc.length + 1 then ([], 211, (acc.length : Int) + 1) else pgo f (aft s) (acc ++ [x])
noncomputable def parseI (s : List UInt8) : List (Nat → Int) × Int × Int := if 262144 < s.length then ([], 2, 0) else pgo (s.length + 1) s []
theorem parseI_long {s : List UInt8} (h : 262144 < s.length) : parseI s = ([], 2, 0) := by unfold parseI; rw [if_pos h]
theorem parseI_short {s : List UInt8} (h : ¬ 262144 < s.length) : parseI s = pgo (s.length + 1) s [] := by unfold parseI; rw [if_neg h]
theorem pgo_end (f : Nat) (acc : List (Nat → Int)) : pgo (f + 1) [] acc = (acc, 0, 0) := by rw [pgo, if_pos rfl]
theorem pgo_none {f : Nat} {s : List UInt8} {acc : List (Nat → Int)} (hs : s ≠ []) (h : rdI (bef s) = none) : pgo (f + 1) s acc = ([], 211, (acc.length : Int) + 1) := by
  rw [pgo, if_neg hs, h]
theorem pgo_bad {f : Nat} {s : List UInt8} {acc : List (Nat → Int)} {x : Nat → Int} (hs : s ≠ []) (h : rdI (bef s) = some x) (hb : (10 : UInt8) ∉ s ∨ 4096 < acc.length + 1) : pgo (f + 1) s acc = ([], 211, (acc.length : Int) + 1) := by
  rw [pgo, if_neg hs, h]; exact if_pos hb
theorem pgo_no {f : Nat} {s : List UInt8} {acc : List (Nat → Int)} (hs : s ≠ []) (hb : (10 : UInt8) ∉ s ∨ 4096 < acc.length + 1) : pgo (f + 1) s acc = ([], 211, (acc.length : Int) + 1) := by
  cases h : rdI (bef s) with
  | none => exact pgo_none hs h
  | some x => exact pgo_bad hs h hb
theorem pgo_on {f : Nat} {s : List UInt8} {acc : List (Nat → Int)} {x : Nat → Int} (hs : s ≠ []) (h : rdI (bef s) = some x) (h1 : (10 : UInt8) ∈ s) (h2 : acc.length + 1 ≤ 4096) : pgo (f + 1) s acc = pgo f (aft s) (acc ++ [x]) := by
  rw [pgo, if_neg hs, h]; exact if_neg (by simp only [not_or, Decidable.not_not]; exact ⟨h1, by omega⟩)
/-- two lists of instructions, alike -/
def agrL (a b : List (Nat → Int)) : Prop := a.length = b.length ∧ ∀ k, k < a.length → agr (a.getD k fun _ => 0) (b.getD k fun _ => 0)
theorem agrL_flat : ∀ a b : List (Nat → Int), agrL a b → a.flatMap icL = b.flatMap icL
  | [], b, h => by
    have := List.eq_nil_of_length_eq_zero h.1.symm
    subst this; rfl
  | x :: a, [], h => by have := h.1; simp at this
  | x :: a, y :: b, h => by
    have h0 := h.2 0 (by simp)
    rw [List.flatMap_cons, List.flatMap_cons]
    congr 1
    · exact agr.l h0
    · exact agrL_flat a b ⟨by have := h.1; simpa using this, fun k hk => by have := h.2 (k + 1) (by simpa using hk); simpa using this⟩
theorem agrL.nil : agrL [] [] := ⟨rfl, fun _ h => absurd h (Nat.not_lt_zero _)⟩
theorem agrL.cons {x y : Nat → Int} {a b : List (Nat → Int)} (h : agr x y) (h' : agrL a b) : agrL (x :: a) (y :: b) := by
  refine ⟨by simp [h'.1], fun k hk => ?_⟩
  cases k with
  | zero => exact h
  | succ k => simpa using h'.2 k (by simpa using hk)
theorem agrL.refl (a : List (Nat → Int)) : agrL a a := ⟨rfl, fun _ _ => agr_of fun _ _ => rfl⟩
theorem agrL.symm {a b : List (Nat → Int)} (h : agrL a b) : agrL b a := ⟨h.1.symm, fun k hk => (h.2 k (by rw [h.1]; exact hk)).symm⟩
theorem agrL.row {w : World} {v : Value} {a b : List (Nat → Int)} (h : agrL a b) (hr : RowOf icL 5 w v a) : RowOf icL 5 w v b := by
  unfold RowOf at hr ⊢
  rw [← h.1, ← agrL_flat a b h]; exact hr
theorem agrL.all {a b : List (Nat → Int)} (h : agrL a b) (ha : a.all okI = true) : b.all okI = true := by
  rw [List.all_eq_true]
  intro x hx
  obtain ⟨k, hk, rfl⟩ := List.getElem_of_mem hx
  have h1 := all_at ha (k := k) (by rw [h.1]; exact hk)
  have h2 := (h.2 k (by rw [h.1]; exact hk)).ok h1
  rwa [List.getD_eq_getElem?_getD, List.getElem?_eq_getElem hk] at h2
/-- lines that were written are read again -/
theorem pgo_back : ∀ (l : List (Nat → Int)) (f : Nat) (acc : List (Nat → Int)), l.all okI = true → acc.length + l.length ≤ 4096 → (l.flatMap fun v => lineL v ++ [10]).length < f →
    ∃ l', pgo f (l.flatMap fun v => lineL v ++ [10]) acc = (acc ++ l', 0, 0) ∧ agrL l l'
  | [], f, acc, _, _, hf => by
    obtain ⟨f, rfl⟩ : ∃ g, f = g + 1 := ⟨f - 1, by omega⟩
    exact ⟨[], by simp [pgo_end], agrL.nil⟩
  | x :: l, f, acc, ha, hl, hf => by
    obtain ⟨f, rfl⟩ : ∃ g, f = g + 1 := ⟨f - 1, by omega⟩
    simp only [List.all_cons, Bool.and_eq_true] at ha
    simp only [List.length_cons] at hl
    rw [List.flatMap_cons] at hf ⊢
    have e : lineL x ++ [10] ++ (l.flatMap fun v => lineL v ++ [10]) = lineL x ++ 10 :: (l.flatMap fun v => lineL v ++ [10]) := by simp
    rw [e] at hf ⊢
    have hb := bef_app (lineL x) (l.flatMap fun v => lineL v ++ [10]) (lineL_no10 ha.1)
    obtain ⟨y, hy, hxy⟩ := rdI_of ha.1 rfl
    obtain ⟨l', h1, h2⟩ := pgo_back l f (acc ++ [y]) ha.2 (by simp; omega) (by rw [List.length_append, List.length_cons] at hf; omega)
    refine ⟨y :: l', ?_, agrL.cons hxy h2⟩
    rw [pgo_on (by simp) (by rw [hb.1]; exact hy) (by simp) (by omega), hb.2, h1]
    simp
/-- what was read without an error are lines -/
theorem pgo_once : ∀ (f : Nat) (s : List UInt8) (acc l : List (Nat → Int)) (n : Int), pgo f s acc = (l, 0, n) → acc.length ≤ 4096 → acc.all okI = true →
    n = 0 ∧ l.length ≤ 4096 ∧ l.all okI = true ∧ ∃ m, l = acc ++ m ∧ s = m.flatMap fun v => lineL v ++ [10]
  | 0, s, acc, l, n, h, _, _ => by simp [pgo] at h
  | f + 1, s, acc, l, n, h, ha, hk => by
    by_cases hs : s = []
    · subst hs
      rw [pgo_end] at h
      simp only [Prod.mk.injEq, true_and] at h
      obtain ⟨rfl, rfl⟩ := h
      exact ⟨rfl, ha, hk, [], by simp, rfl⟩
    · cases hr : rdI (bef s) with
      | none => rw [pgo_none hs hr] at h; simp at h
      | some x =>
        by_cases hb : (10 : UInt8) ∉ s ∨ 4096 < acc.length + 1
        · rw [pgo_bad hs hr hb] at h; simp at h
        · simp only [not_or, Decidable.not_not, Nat.not_lt] at hb
          rw [pgo_on hs hr hb.1 hb.2] at h
          have hx := rdI_some hr
          obtain ⟨h1, h2, h3, m, h4, h5⟩ := pgo_once f _ _ _ _ h (by simp; omega) (by simp [hk, hx.1])
          refine ⟨h1, h2, h3, x :: m, by rw [h4]; simp, ?_⟩
          rw [List.flatMap_cons, hx.2, ← h5]
          have := (bef_aft s hb.1).1
          rw [List.append_assoc]
          exact this
theorem pgo_err : ∀ (f : Nat) (s : List UInt8) (acc l : List (Nat → Int)) (e n : Int), pgo f s acc = (l, e, n) → e ≠ 0 → l = [] ∧ 1 ≤ n ∧ e = 211
  | 0, s, acc, l, e, n, h, he => by
    simp only [pgo, Prod.mk.injEq] at h
    obtain ⟨rfl, rfl, rfl⟩ := h
    exact ⟨rfl, by omega, rfl⟩
  | f + 1, s, acc, l, e, n, h, he => by
    by_cases hs : s = []
    · subst hs
      rw [pgo_end] at h
      simp only [Prod.mk.injEq] at h
      exact absurd h.2.1.symm he
    · have no : pgo (f + 1) s acc = ([], 211, (acc.length : Int) + 1) → l = [] ∧ 1 ≤ n ∧ e = 211 := by
        intro h'
        rw [h'] at h
        simp only [Prod.mk.injEq] at h
        obtain ⟨rfl, rfl, rfl⟩ := h
        exact ⟨rfl, by omega, rfl⟩
      cases hr : rdI (bef s) with
      | none => exact no (pgo_none hs hr)
      | some x =>
        by_cases hb : (10 : UInt8) ∉ s ∨ 4096 < acc.length + 1
        · exact no (pgo_bad hs hr hb)
        · simp only [not_or, Decidable.not_not, Nat.not_lt] at hb
          rw [pgo_on hs hr hb.1 hb.2] at h
          exact pgo_err f _ _ _ _ _ h he
theorem textTo_all (l : List (Nat → Int)) : textTo l l.length = l.flatMap fun v => lineL v ++ [10] := by unfold textTo; rw [List.take_length]
theorem parseI_back {l : List (Nat → Int)} (h : l.all okI = true) (hl : l.length ≤ 1000) : ∃ l', parseI (textTo l l.length) = (l', 0, 0) ∧ agrL l l' := by
  have hlen : (textTo l l.length).length ≤ 74 * 1000 := by
    have h2 := flatMap_len (fun v => lineL v ++ [10]) 74 (l.take l.length) fun x hx => by
      have := lineL_len (List.all_eq_true.1 h x (List.mem_of_mem_take hx))
      simp; omega
    have h3 : (l.take l.length).length ≤ 1000 := by rw [List.length_take]; omega
    unfold textTo; omega
  rw [parseI_short (by omega), textTo_all]
  obtain ⟨l', h1, h2⟩ := pgo_back l _ [] h (by simp; omega) (Nat.lt_succ_self _)
  exact ⟨l', by rw [h1]; simp, h2⟩
theorem parseI_once {s : List UInt8} {l : List (Nat → Int)} {n : Int} (h : parseI s = (l, 0, n)) : n = 0 ∧ l.length ≤ 4096 ∧ l.all okI = true ∧ textTo l l.length = s := by
  by_cases hs : 262144 < s.length
  · rw [parseI_long hs] at h; simp at h
  · rw [parseI_short hs] at h
    obtain ⟨h1, h2, h3, m, h4, h5⟩ := pgo_once _ _ _ _ _ h (by simp) rfl
    simp only [List.nil_append] at h4
    subst h4
    exact ⟨h1, h2, h3, by rw [textTo_all]; exact h5.symm⟩
theorem parseI_err {s : List UInt8} {l : List (Nat → Int)} {e n : Int} (h : parseI s = (l, e, n)) (he : e ≠ 0) (hs : s.length ≤ 262144) : l = [] ∧ 1 ≤ n ∧ e = 211 := by
  rw [parseI_short (by omega)] at h
  exact pgo_err _ _ _ _ _ _ h he
end Go.Proofs.Ytbomloodllddaaa
/- Plain laws: instructions written as bytes are read again, and what was read, written (P21.5). No conditions; no program. -/
namespace Go.Proofs.Ytbomloodllddaaa
open Go.RowKit
/-- fields set one after the other -/
def setL (x : Nat → Int) : List Nat → (Nat → Int) → Nat → Int
  | [], u => u
  | y :: l, u => setL x l (upd u (pos y) (x (pos y)))
theorem setL_at (x : Nat → Int) : ∀ (l : List Nat) (u : Nat → Int) (j : Nat), setL x l u j = if j ∈ l.map pos then x j else u j
  | [], u, j => by simp [setL]
  | y :: l, u, j => by
    rw [setL, setL_at x l]
    by_cases h : j ∈ l.map pos
    · rw [if_pos h, if_pos (by simp only [List.map_cons, List.mem_cons]; exact .inr h)]
    · rw [if_neg h]
      unfold upd
      by_cases e : j = pos y
      · rw [if_pos e, if_pos (by simp only [List.map_cons, List.mem_cons]; exact .inl e), e]
      · rw [if_neg e, if_neg (by simp only [List.map_cons, List.mem_cons, not_or]; exact ⟨e, h⟩)]
abbrev fB (x : Nat → Int) (y : Nat) : List UInt8 := vput (x (pos y)).toNat
theorem flds_back (x : Nat → Int) (B : List UInt8) : ∀ (l : List Nat) (u : Nat → Int) (A : List UInt8), (∀ y ∈ l, 0 ≤ x (pos y) ∧ x (pos y) ≤ (mst y : Int)) →
    flds (A ++ l.flatMap (fB x) ++ B) l u A.length = (0, setL x l u, (A.length : Int) + (l.flatMap (fB x)).length)
  | [], u, A, _ => by simp [flds, setL]
  | y :: l, u, A, h => by
    have hy := h y (by simp)
    have hm := mst_le y
    have ih := flds_back x B l (upd u (pos y) (x (pos y))) (A ++ fB x y) (fun z hz => h z (by simp [hz]))
    have e : A ++ (y :: l).flatMap (fB x) ++ B = A ++ fB x y ++ (l.flatMap (fB x) ++ B) := by rw [List.flatMap_cons]; simp
    have hv := vget_back A (l.flatMap (fB x) ++ B) (x (pos y)).toNat (u64_small (by omega))
    have e2 : A ++ fB x y ++ l.flatMap (fB x) ++ B = A ++ fB x y ++ (l.flatMap (fB x) ++ B) := by simp
    rw [e2] at ih
    rw [e, flds_on (by rw [hv]) (by rw [hv]; dsimp only; omega), hv]
    dsimp only
    rw [show (((x (pos y)).toNat : Nat) : Int) = x (pos y) from by omega]
    rw [List.length_append] at ih
    rw [show (A.length : Int) + ((vput (x (pos y)).toNat).length : Int) = ((A.length + (fB x y).length : Nat) : Int) from by simp, ih, setL, List.flatMap_cons, List.length_append]
    refine Prod.ext rfl (Prod.ext rfl ?_)
    dsimp only
    omega
theorem ins1_back {x : Nat → Int} (hx : okI x = true) (A B : List UInt8) : ∃ u, ins1 (A ++ insB x ++ B) A.length = (0, u, (A.length : Int) + (insB x).length) ∧ agr x u := by
  have h0 := okI_op hx
  have hx2 := (okI_iff x).1 hx
  have e : A ++ insB x ++ B = A ++ vput (x 0).toNat ++ ((letr (x 0).toNat).flatMap (fB x) ++ B) := by unfold insB; simp
  have hv := vget_back A ((letr (x 0).toNat).flatMap (fB x) ++ B) (x 0).toNat (u64_small (by omega))
  have hf := flds_back x B (letr (x 0).toNat) (opI (x 0)) (A ++ vput (x 0).toNat) hx2.2.1
  have e2 : A ++ vput (x 0).toNat ++ (letr (x 0).toNat).flatMap (fB x) ++ B = A ++ vput (x 0).toNat ++ ((letr (x 0).toNat).flatMap (fB x) ++ B) := by simp
  rw [e2, List.length_append] at hf
  refine ⟨setL x (letr (x 0).toNat) (opI (x 0)), ?_, agr_of fun j hj => ?_⟩
  · rw [e, ins1_on (by rw [hv]) (by rw [hv]; dsimp only; omega) (by rw [hv]; dsimp only; omega), hv]
    dsimp only
    rw [show (((x 0).toNat : Nat) : Int) = x 0 from by omega, show (A.length : Int) + ((vput (x 0).toNat).length : Int) = ((A.length + (vput (x 0).toNat).length : Nat) : Int) from by simp, hf]
    refine Prod.ext rfl (Prod.ext rfl ?_)
    dsimp only
    have e3 : ((letr (x 0).toNat).flatMap (fB x)).length = ((letr (x 0).toNat).flatMap fun z => vput (x (pos z)).toNat).length := rfl
    unfold insB
    rw [List.length_append]
    omega
  · rw [setL_at]
    by_cases hm : j ∈ (letr (x 0).toNat).map pos
    · rw [if_pos hm]
    · rw [if_neg hm]
      unfold opI
      by_cases h : j = 0
      · rw [if_pos h, h]
      · rw [if_neg h]; exact hx2.2.2 j (by omega) (by omega) hm
theorem many_back (B : List UInt8) : ∀ (l acc : List (Nat → Int)) (A : List UInt8), l.all okI = true → ∃ l', many (A ++ l.flatMap insB ++ B) l.length A.length acc = (0, acc ++ l', (A.length : Int) + (l.flatMap insB).length) ∧ agrL l l'
  | [], acc, A, _ => ⟨[], by simp [many], agrL.nil⟩
  | x :: l, acc, A, h => by
    simp only [List.all_cons, Bool.and_eq_true] at h
    obtain ⟨u, hu, hxu⟩ := ins1_back h.1 A (l.flatMap insB ++ B)
    obtain ⟨l', h1, h2⟩ := many_back B l (acc ++ [u]) (A ++ insB x) h.2
    have e : A ++ (x :: l).flatMap insB ++ B = A ++ insB x ++ (l.flatMap insB ++ B) := by rw [List.flatMap_cons]; simp
    have e2 : A ++ insB x ++ l.flatMap insB ++ B = A ++ insB x ++ (l.flatMap insB ++ B) := by simp
    rw [e2, List.length_append] at h1
    refine ⟨u :: l', ?_, agrL.cons hxu h2⟩
    rw [e, List.length_cons, many_on (by rw [hu]), hu]
    dsimp only
    rw [show (A.length : Int) + ((insB x).length : Int) = ((A.length + (insB x).length : Nat) : Int) from by simp, h1, List.flatMap_cons, List.length_append]
    refine Prod.ext rfl (Prod.ext (by simp) ?_)
    dsimp only
    omega
theorem getI_back {l : List (Nat → Int)} (h : l.all okI = true) (hl : l.length ≤ 4096) : ∃ l', getI (putTo l l.length) = (0, l') ∧ agrL l l' := by
  have hp : putTo l l.length = [] ++ vput l.length ++ l.flatMap insB := by unfold putTo; rw [List.take_length]; rfl
  have hv := vget_back [] (l.flatMap insB) l.length (u64_small (by omega))
  obtain ⟨l', h1, h2⟩ := many_back [] l [] ([] ++ vput l.length) h
  rw [List.append_nil] at h1
  rw [← hp] at hv h1
  refine ⟨l', ?_, h2⟩
  have hv' : vget (putTo l l.length) 0 = (l.length, ((vput l.length).length : Int), 0) := by
    have := hv
    simp only [List.length_nil] at this
    rw [show ((0 : Nat) : Int) = 0 from rfl] at this
    rw [this]; simp
  rw [getI_end (n := l.length) (a := ((vput l.length).length : Int)) (by rw [hv']) (by omega) (by rw [hv']) (by rw [hv']) (by simpa using h1)]
  rw [if_neg]
  rw [hp]; simp
/-! ### what was read, written -/
theorem take_join (t : List UInt8) (a i j : Nat) : (t.drop a).take i ++ (t.drop (a + i)).take j = (t.drop a).take (i + j) := take_drop_join t a i j
theorem flds_once (t : List UInt8) : ∀ (l : List Nat) (u v : Nat → Int) (m : Nat) (b : Int), m ≤ t.length → (l.map pos).Nodup → flds t l u m = (0, v, b) →
    ∃ k : Nat, b = (m : Int) + k ∧ m + k ≤ t.length ∧ l.flatMap (fB v) = (t.drop m).take k ∧ (∀ y ∈ l, 0 ≤ v (pos y) ∧ v (pos y) ≤ (mst y : Int)) ∧ ∀ j, j ∉ l.map pos → v j = u j
  | [], u, v, m, b, hm, _, h => by
    simp only [flds, Prod.mk.injEq, true_and] at h
    obtain ⟨rfl, rfl⟩ := h
    exact ⟨0, by simp, by omega, by simp, by simp, fun _ _ => rfl⟩
  | y :: l, u, v, m, b, hm, hn, h => by
    simp only [List.map_cons, List.nodup_cons] at hn
    rcases vget_cases t m with ⟨e, he, h3⟩ | ⟨m', k, n, hm', hk, hmk, hp, hn64, he⟩
    · have := flds_bad (x := y) (l := l) (v := u) (a := (m : Int)) (t := t) (e := e) (by rw [he]) (by omega)
      rw [h] at this; simp at this; omega
    · obtain rfl : m = m' := by omega
      by_cases hgt : mst y < n
      · have := flds_most (x := y) (l := l) (v := u) (a := (m : Int)) (t := t) (by rw [he]) (by rw [he]; exact hgt)
        rw [h] at this; simp at this
      · rw [flds_on (by rw [he]) (by rw [he]; exact hgt), he] at h
        dsimp only at h
        rw [show (m : Int) + k + 1 = ((m + (k + 1) : Nat) : Int) from by omega] at h
        obtain ⟨k2, h1, h2, h3, h4, h5⟩ := flds_once t l _ v _ b (by omega) hn.2 h
        have hvy : v (pos y) = n := by rw [h5 _ hn.1]; unfold upd; rw [if_pos rfl]
        refine ⟨k + 1 + k2, by omega, by omega, ?_, fun z hz => ?_, fun j hj => ?_⟩
        · rw [List.flatMap_cons, h3, ← take_join, ← hp]
          unfold fB; rw [hvy, Int.toNat_natCast]
        · rcases List.mem_cons.1 hz with rfl | hz
          · rw [hvy]; omega
          · exact h4 z hz
        · simp only [List.map_cons, List.mem_cons, not_or] at hj
          rw [h5 j hj.2]; unfold upd; rw [if_neg hj.1]
theorem ins1_once {t : List UInt8} {m : Nat} {v : Nat → Int} {b : Int} (_hm : m ≤ t.length) (h : ins1 t m = (0, v, b)) : okI v = true ∧ ∃ k : Nat, b = (m : Int) + k ∧ m + k ≤ t.length ∧ insB v = (t.drop m).take k := by
  rcases vget_cases t m with ⟨e, he, h3⟩ | ⟨m', k, n, hm', hk, hmk, hp, hn64, he⟩
  · have := ins1_bad (a := (m : Int)) (t := t) (e := e) (by rw [he]) (by omega)
    rw [h] at this; simp at this; omega
  · obtain rfl : m = m' := by omega
    by_cases ho : n < 1 ∨ 17 < n
    · have := ins1_op (a := (m : Int)) (t := t) (by rw [he]) (by rw [he]; exact ho)
      rw [h] at this; simp at this
    · rw [ins1_on (by rw [he]) (by rw [he]; dsimp only; omega) (by rw [he]; dsimp only; omega), he] at h
      dsimp only at h
      rw [show (m : Int) + k + 1 = ((m + (k + 1) : Nat) : Int) from by omega] at h
      obtain ⟨k2, h1, h2, h3, h4, h5⟩ := flds_once t _ _ v _ b (by omega) (letr_nodup n) h
      have hv0 : v 0 = n := by
        rw [h5 0 (fun hm => by obtain ⟨z, _, hz⟩ := List.mem_map.1 hm; have := pos_ge z; omega)]; simp [opI]
      have hvn : (v 0).toNat = n := by omega
      refine ⟨?_, k + 1 + k2, by omega, by omega, ?_⟩
      · rw [okI_iff, hvn]
        exact ⟨by omega, h4, fun j hj _ hn => by rw [h5 j hn]; simp [opI]; omega⟩
      · unfold insB
        rw [hvn, ← take_join, ← hp, h3]
theorem many_once (t : List UInt8) : ∀ (n : Nat) (m : Nat) (acc l : List (Nat → Int)) (b : Int), m ≤ t.length → many t n m acc = (0, l, b) →
    ∃ l' k, l = acc ++ l' ∧ l'.length = n ∧ l'.all okI = true ∧ b = (m : Int) + (k : Nat) ∧ m + k ≤ t.length ∧ l'.flatMap insB = (t.drop m).take k
  | 0, m, acc, l, b, hm, h => by
    have _ := hm
    simp only [many, Prod.mk.injEq, true_and] at h
    obtain ⟨rfl, rfl⟩ := h
    exact ⟨[], 0, by simp, rfl, rfl, by simp, by omega, by simp⟩
  | n + 1, m, acc, l, b, hm, h => by
    by_cases he : (ins1 t m).1 = 0
    · rw [many_on he] at h
      obtain ⟨v, b1, hi⟩ : ∃ v b1, ins1 t m = (0, v, b1) := ⟨_, _, Prod.ext he rfl⟩
      rw [hi] at h
      dsimp only at h
      obtain ⟨hok, k1, rfl, hk1, hb1⟩ := ins1_once hm hi
      rw [show (m : Int) + k1 = ((m + k1 : Nat) : Int) from by omega] at h
      obtain ⟨l', k, h1, h2, h3, h4, h5, h6⟩ := many_once t n (m + k1) _ l b hk1 h
      refine ⟨v :: l', k1 + k, by rw [h1]; simp, by simp [h2], by simp [hok, h3], by omega, by omega, ?_⟩
      rw [List.flatMap_cons, hb1, h6, take_join]
    · have := many_bad (n := n) (acc := acc) (t := t) (a := (m : Int)) rfl he
      rw [h] at this; exact absurd this.symm he
theorem getI_once {t : List UInt8} {l : List (Nat → Int)} (h : getI t = (0, l)) : l.length ≤ 4096 ∧ l.all okI = true ∧ putTo l l.length = t := by
  rcases vget_cases t 0 with ⟨e, he, h3⟩ | ⟨m', k, n, hm', hk, hmk, hp, hn64, he⟩
  · have := getI_bad (t := t) (e := e) (by rw [he]) (by omega)
    rw [h] at this; simp at this; omega
  · obtain rfl : m' = 0 := by omega
    by_cases hbig : 4096 < n
    · have := getI_long (t := t) (by rw [he]) (by rw [he]; exact hbig)
      rw [h] at this; simp at this
    · by_cases hm : (many t n ((k + 1 : Nat) : Int) []).1 = 0
      · obtain ⟨l0, b, hmm⟩ : ∃ l0 b, many t n ((k + 1 : Nat) : Int) [] = (0, l0, b) := ⟨_, _, Prod.ext hm rfl⟩
        have hend := getI_end (t := t) (n := n) (a := ((k + 1 : Nat) : Int)) (by rw [he]) hbig (by rw [he]) (by rw [he]; simp) hmm
        rw [h] at hend
        by_cases hb : b = (t.length : Int)
        · rw [if_neg (by simp [hb])] at hend
          simp only [Prod.mk.injEq, true_and] at hend
          subst hend
          obtain ⟨l', k2, h1, h2, h3, h4, h5, h6⟩ := many_once t n (k + 1) [] l b (by omega) hmm
          simp only [List.nil_append] at h1
          subst h1
          refine ⟨by omega, h3, ?_⟩
          unfold putTo
          rw [List.take_length, h2, hp, h6]
          have := take_join t 0 (k + 1) k2
          rw [Nat.zero_add] at this
          rw [this, List.drop_zero, List.take_of_length_le (by omega)]
        · rw [if_pos hb] at hend; simp at hend
      · have := getI_many (t := t) (n := n) (a := ((k + 1 : Nat) : Int)) (e := (many t n ((k + 1 : Nat) : Int) []).1) (by rw [he]) hbig (by rw [he]) (by rw [he]; simp) rfl hm
        rw [h] at this
        simp only [Prod.mk.injEq] at this
        exact absurd this.1.symm hm
theorem getI_err {t : List UInt8} {e : Int} {l : List (Nat → Int)} (h : getI t = (e, l)) (he : e ≠ 0) : l = [] := by
  unfold getI getI2 at h
  split at h
  · simp only [Prod.mk.injEq] at h; exact h.2.symm
  · split at h
    · simp only [Prod.mk.injEq] at h; exact h.2.symm
    · split at h
      · simp only [Prod.mk.injEq] at h; exact h.2.symm
      · split at h
        · simp only [Prod.mk.injEq] at h; exact h.2.symm
        · simp only [Prod.mk.injEq] at h; exact absurd h.1.symm he
end Go.Proofs.Ytbomloodllddaaa
