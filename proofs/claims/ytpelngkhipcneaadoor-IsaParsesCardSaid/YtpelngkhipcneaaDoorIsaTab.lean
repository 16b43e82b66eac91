/- What the library's contracts for reading lines ask of a world, and these contracts over lists of bytes. Conditions: texts of at most 10^6 bytes; the library's variables are as they are laid. -/
import Derived.Test.YtpelngkhipcneaaDoorIsaLine
import Derived.Test.YtpelngkhipcneaaDoorIsaParseSpec
namespace Go.Proofs.YtpelngkhipcneaaDoor
open Go.RowKit
structure TabR (w : World) : Prop where
  ten : Tab10 w
  max : ∃ m, w.cell? ⟨0, 0, none⟩ = some (.int .i64 m)
  syn : ∃ t p, w.cell? ⟨1, 0, none⟩ = some (.iface t p)
  rng : ∃ t p, w.cell? ⟨2, 0, none⟩ = some (.iface t p)
theorem TabR.keep {w w' : World} (h : TabR w) (hb : Below w.heap.size w w') : TabR w' := by
  refine ⟨tab10_below h.ten hb, ?_, ?_, ?_⟩
  · obtain ⟨m, hm⟩ := h.max
    exact ⟨m, by rw [hb.cell (World.block_lt_of_cell? _ _ hm)]; exact hm⟩
  · obtain ⟨t, p, hm⟩ := h.syn
    exact ⟨t, p, by rw [hb.cell (World.block_lt_of_cell? _ _ hm)]; exact hm⟩
  · obtain ⟨t, p, hm⟩ := h.rng
    exact ⟨t, p, by rw [hb.cell (World.block_lt_of_cell? _ _ hm)]; exact hm⟩
theorem sz_arr (s : List UInt8) : (⟨s.toArray⟩ : ByteArray).size = s.length := by simp [ByteArray.size]
theorem below_drewN (w : World) (k : Nat) : Below w.heap.size w (w.drewN k) := ⟨rfl, rfl, rfl, by simp [World.drewN], fun i _ => by simp [World.drewN]⟩
theorem atoi_c (s : List UInt8) (hs : s.length ≤ 1000000) (w : World) (hT : TabR w) :
    Calls Tryd.prog 41 #[.string ⟨s.toArray⟩] w fun e w' => ∃ n ev, e = .returned (.tuple #[.int .i64 n, ev]) ∧ Below w.heap.size w w' ∧ (∀ v, Lib.atoiAll s = .ok v → n = v ∧ ev = .nilIface) ∧ ((∀ v, Lib.atoiAll s ≠ .ok v) → ∃ t p, ev = .iface t p) := by
  have hz := sz_arr s
  have hl : (⟨s.toArray⟩ : ByteArray).data.toList = s := by simp
  cases h : Lib.atoiAll s with
  | ok v =>
    refine (Tryd.strconv_Atoi_ok ⟨s.toArray⟩ (by omega) v (by rw [hl]; exact h) w).mono fun e w' hh => ?_
    obtain ⟨he, hw⟩ := hh
    refine ⟨v, .nilIface, he, ?_, fun u hu => ?_, fun hu => absurd rfl (hu v)⟩
    · rcases hw with rfl | ⟨t, rfl⟩
      · exact Below.refl _ _
      · exact Lib.bytesWorld_below _ _ _
    · injection hu with hu; exact ⟨hu, rfl⟩
  | «syntax» =>
    obtain ⟨t, p, hv⟩ := hT.syn
    exact (Tryd.strconv_Atoi_syntax ⟨s.toArray⟩ (by omega) (by rw [hl]; exact h) _ w hv (.inr ⟨t, p, rfl⟩)).mono fun e w' ⟨N, he, _, _, hb⟩ => ⟨0, _, he, hb, (fun u hu => by cases hu), fun _ => ⟨_, _, rfl⟩⟩
  | range =>
    obtain ⟨t, p, hv⟩ := hT.rng
    exact (Tryd.strconv_Atoi_range ⟨s.toArray⟩ (by omega) (by rw [hl]; exact h) _ w hv (.inr ⟨t, p, rfl⟩)).mono fun e w' ⟨N, he, _, _, hb⟩ => ⟨_, _, he, hb, (fun u hu => by cases hu), fun _ => ⟨_, _, rfl⟩⟩
theorem cutP_c (s p : List UInt8) (w : World) :
    Calls Tryd.prog 40 #[.string ⟨s.toArray⟩, .string ⟨p.toArray⟩] w fun e w' => e = .returned (.tuple #[.string ⟨(Lib.trimPrefix s p).toArray⟩, .bool (Lib.hasPrefix s p)]) ∧ w = w' := by
  have := Tryd.strings_CutPrefix ⟨s.toArray⟩ ⟨p.toArray⟩ w
  simp only [] at this
  exact this.mono fun e w' ⟨he, hw⟩ => ⟨he, hw.symm⟩
theorem hasP_app (p s : List UInt8) : Lib.hasPrefix (p ++ s) p = true ∧ Lib.trimPrefix (p ++ s) p = s := by
  have h : Lib.hasPrefix (p ++ s) p = true := by unfold Lib.hasPrefix; rw [List.isPrefixOf_iff_prefix]; exact List.prefix_append _ _
  exact ⟨h, by unfold Lib.trimPrefix; rw [if_pos h, List.drop_left]⟩
theorem splitB_spl (s : List UInt8) : Lib.splitB ⟨#[32]⟩ 0 (Lib.countB ⟨s.toArray⟩ ⟨#[32]⟩) ⟨s.toArray⟩ = (spl 32 s).map fun l => ⟨l.toArray⟩ := by
  have h := Lib.splitB_data ⟨#[32]⟩ 0 (Lib.countB ⟨s.toArray⟩ ⟨#[32]⟩) ⟨s.toArray⟩
  have e1 : Lib.countB ⟨s.toArray⟩ ⟨#[32]⟩ = Lib.count s [32] := rfl
  have e2 : Lib.splitK (⟨#[32]⟩ : ByteArray).data.toList 0 (Lib.countB ⟨s.toArray⟩ ⟨#[32]⟩) (⟨s.toArray⟩ : ByteArray).data.toList = spl 32 s := by rw [e1]; exact splitK_spl 32 s
  rw [e2] at h
  rw [← h, List.map_map]
  conv => lhs; rw [← List.map_id (Lib.splitB ⟨#[32]⟩ 0 (Lib.countB ⟨s.toArray⟩ ⟨#[32]⟩) ⟨s.toArray⟩)]
  apply List.map_congr_left
  intro b _
  show b = ⟨b.data.toList.toArray⟩
  rfl
/-- a text's parts, as they lie -/
abbrev ptC (ps : List (List UInt8)) : Array Value := (ps.map fun l => Value.string ⟨l.toArray⟩).toArray
theorem split_c (s : List UInt8) (hs : s.length ≤ 1000000) (w : World) (hT : TabR w) :
    Calls Tryd.prog 39 #[.string ⟨s.toArray⟩, .string ⟨#[32]⟩] w fun e w' => ∃ g, e = .returned (.slice (some ⟨g, 0, none⟩) (spl 32 s).length (spl 32 s).length) ∧ w.heap.size ≤ g ∧ w'.heap[g]? = some (.cells (ptC (spl 32 s)) 9 (0, 0)) ∧ Below w.heap.size w w' := by
  obtain ⟨m, hm⟩ := hT.max
  have hz := sz_arr s
  have h := Tryd.strings_Split ⟨s.toArray⟩ ⟨#[32]⟩ m w (by omega) hm (by decide)
  have hl := Lib.splitB_all ⟨#[32]⟩ (by decide) 0 _ ⟨s.toArray⟩ rfl
  rw [splitB_spl] at h hl
  rw [List.length_map] at hl
  rw [← hl, List.map_map] at h
  exact h.mono fun e w' ⟨he, hw⟩ => ⟨w.heap.size, he, Nat.le_refl _, by rw [hw]; exact Go.heap_alloc_new _ _, by rw [hw]; exact (Below.refl _ _).alloc (Nat.le_refl _) _⟩
theorem cut_c (s : List UInt8) (hs : s.length ≤ 1000000) (w : World) (hT : TabR w) :
    Calls Tryd.prog 27 #[.string ⟨s.toArray⟩, .string ⟨#[10]⟩] w fun e w' => e = .returned (.tuple #[.string ⟨(bef s).toArray⟩, .string ⟨(aft s).toArray⟩, .bool (decide ((10 : UInt8) ∈ s))]) ∧ Below w.heap.size w w' := by
  obtain ⟨m, hm⟩ := hT.max
  have hz := sz_arr s
  have h := Tryd.strings_Cut ⟨s.toArray⟩ ⟨#[10]⟩ m w (by omega) hm
  have e : Lib.cut (⟨s.toArray⟩ : ByteArray).data.toList (⟨#[10]⟩ : ByteArray).data.toList = (bef s, aft s, decide ((10 : UInt8) ∈ s)) := cut_bef s
  rw [e] at h
  exact h.mono fun e w' ⟨he, k, hw⟩ => ⟨he, by rw [hw]; exact below_drewN _ _⟩
end Go.Proofs.YtpelngkhipcneaaDoor
