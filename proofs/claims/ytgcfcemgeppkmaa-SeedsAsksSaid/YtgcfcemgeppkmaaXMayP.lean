/-
  PLAIN: which tiles and seeds may be, of the printed functions.
-/
import Derived.Test.YtgcfcemgeppkmaaXBase
import Derived.Test.YtgcfcemgeppkmaaPx2
import Derived.Test.YtgcfcemgeppkmaaPx2
namespace Go.Proofs.Ytgcfcemgeppkmaa.P
open Go.RowKit Go.Proofs.YtgcfcemgeppkmaaW.PrintWords Go.Proofs.YtgcfcemgeppkmaaW.PrintLast Go.Proofs.YtgcfcemgeppkmaaW.PrintMore
set_option linter.unusedVariables false
set_option linter.unusedSimpArgs false

/-- The tile may be. -/
def TileOk (W H : Int) (C : List Int) : Prop := 1 ≤ W ∧ W ≤ 16 ∧ 1 ≤ H ∧ H ≤ 16 ∧ (C.length : Int) = W * H ∧ (0 : Int) ∉ C
instance (W H : Int) (C : List Int) : Decidable (TileOk W H C) := inferInstanceAs (Decidable (_ ∧ _))
/-- A side leads over a tile's edge, or nowhere. -/
def OutOk (W H c s : Int) : Prop := s = 0 ∧ c / W = 0 ∨ s = 1 ∧ c % W = W - 1 ∨ s = 2 ∧ c / W = H - 1 ∨ s = 3 ∧ c % W = 0 ∨ s = 4
instance (W H c s : Int) : Decidable (OutOk W H c s) := inferInstanceAs (Decidable (_ ∨ _))
def SeedOk (W H : Int) (C : List Int) (x : Seed) : Prop := 0 ≤ x.f0 ∧ x.f0 < (C.length : Int) ∧ rd C x.f0 ≠ 255 ∧ 0 ≤ x.f2 ∧ x.f2 ≤ 1073741824 ∧ OutOk W H x.f0 x.f1
instance (W H : Int) (C : List Int) (x : Seed) : Decidable (SeedOk W H C x) := inferInstanceAs (Decidable (_ ∧ _))
def SeedsOk (W H : Int) (C : List Int) (l : List Seed) : Prop := TileOk W H C ∧ ∀ x, x ∈ l → SeedOk W H C x
open Classical in
/-- As the printed functions take it. -/
noncomputable def seedsMayF (W H : Int) (C : List Int) (l : List Seed) : Option Bool := some (decide (SeedsOk W H C l))

theorem index_find (xs : List Int) (x : Int) (hl : xs.length ≤ 9223372036854775806) : ∀ (d i k : Nat), xs.length - i = d → i ≤ xs.length → d < k → (∀ j, j < i → rd xs (j : Int) ≠ x) →
    ∃ r, slices_Index_byte_byte.l0 k xs x (xs.length : Int) (i : Int) = some r ∧ (0 ≤ r ↔ x ∈ xs) := by
  intro d
  induction d with
  | zero =>
    intro i k hd hi hk hn
    obtain ⟨k, rfl⟩ : ∃ m, k = m + 1 := ⟨k - 1, by omega⟩
    refine ⟨-1, by rw [slices_Index_byte_byte.l0, if_neg (by omega)], ⟨fun h => by omega, fun h => ?_⟩⟩
    obtain ⟨j, hj, e⟩ := List.getElem_of_mem h
    exact absurd ((rd_get xs hj).trans e) (hn j (by omega))
  | succ d ih =>
    intro i k hd hi hk hn
    obtain ⟨k, rfl⟩ : ∃ m, k = m + 1 := ⟨k - 1, by omega⟩
    rw [slices_Index_byte_byte.l0, if_pos (by omega), if_pos (by omega), if_pos (by omega)]
    by_cases e : x = rd xs (i : Int)
    · rw [if_pos e]
      exact ⟨i, rfl, ⟨fun _ => by rw [e, rd_get xs (by omega)]; exact List.getElem_mem _, fun _ => by omega⟩⟩
    · rw [if_neg e, w64 (by omega) (by omega)]
      exact ih (i + 1) k (by omega) (by omega) (by omega) (fun j hj => by
        by_cases h : j = i
        · subst h; exact fun h => e h.symm
        · exact hn j (by omega))
theorem contains_some (xs : List Int) (x : Int) (hl : xs.length ≤ 9223372036854775806) (k : Nat) (hk : xs.length < k) : slices_Contains_byte_byte.f k xs x = some (decide (x ∈ xs)) := by
  unfold slices_Contains_byte_byte.f slices_Index_byte_byte.f
  obtain ⟨r, hr, he⟩ := index_find xs x hl xs.length 0 k (by omega) (by omega) hk (fun j hj => by omega)
  rw [show ((0 : Nat) : Int) = 0 from rfl] at hr
  rw [hr, Option.bind_some]
  exact congrArg some (decide_eq_decide.2 he)
theorem sized_some (n : Int) : tile_sized.f n = some (decide (1 ≤ n ∧ n ≤ 16)) := by
  unfold tile_sized.f
  by_cases h : n ≥ 1
  · rw [if_pos h]; exact congrArg some (decide_eq_decide.2 ⟨fun h2 => ⟨h, h2⟩, fun h2 => h2.2⟩)
  · rw [if_neg h]; exact congrArg some (decide_eq_false (fun h2 => h h2.1)).symm
theorem tileMay_some (W H : Int) (C : List Int) (k : Nat) (hk : C.length < k) : tile_May.f k W H C = some (decide (TileOk W H C)) := by
  unfold tile_May.f
  rw [sized_some, sized_some]
  simp only [Option.bind_some, decide_eq_true_eq]
  by_cases h1 : 1 ≤ W ∧ W ≤ 16
  · rw [if_pos h1]
    by_cases h2 : 1 ≤ H ∧ H ≤ 16
    · rw [if_pos h2]
      have hm := mul_small h1 h2
      rw [w64 (by omega) (by omega)]
      by_cases h3 : (C.length : Int) = W * H
      · rw [if_pos h3, contains_some C 0 (by omega) k hk, Option.bind_some]
        refine congrArg some ?_
        by_cases h4 : (0 : Int) ∈ C
        · rw [decide_eq_true h4, decide_eq_false (fun h => h.2.2.2.2.2 h4)]; rfl
        · rw [decide_eq_false h4, decide_eq_true ⟨h1.1, h1.2, h2.1, h2.2, h3, h4⟩]; rfl
      · rw [if_neg h3, decide_eq_false (fun h => h3 h.2.2.2.2.1)]
    · rw [if_neg h2, decide_eq_false (fun h => h2 ⟨h.2.2.1, h.2.2.2.1⟩)]
  · rw [if_neg h1, decide_eq_false (fun h => h1 ⟨h.1, h.2.1⟩)]

theorem out_some {W H c s : Int} {C : List Int} (ht : TileOk W H C) (h0 : 0 ≤ c) (h1 : c < (C.length : Int)) : seeds_out.f W H C c s = some (decide (OutOk W H c s)) := by
  obtain ⟨a1, a2, a3, a4, a5, a6⟩ := ht
  have hm := mul_small ⟨a1, a2⟩ ⟨a3, a4⟩
  have hd0 : 0 ≤ c / W := Int.ediv_nonneg h0 (by omega)
  have hd1 : c / W ≤ c := Int.ediv_le_self W h0
  unfold seeds_out.f
  rw [if_neg (by omega), tdiv_nn h0, tmod_nn h0, w64 (by omega) (by omega), w64 (by omega) (by omega), w64 (by omega) (by omega)]
  by_cases e0 : s = 0
  · subst e0; rw [if_pos rfl]; refine congrArg some ?_; rw [Bool.eq_iff_iff, decide_eq_true_iff]; unfold OutOk; simp
  rw [if_neg e0]
  by_cases e1 : s = 1
  · subst e1; rw [if_pos rfl]; refine congrArg some ?_; rw [Bool.eq_iff_iff, decide_eq_true_iff]; unfold OutOk; simp
  rw [if_neg e1]
  by_cases e2 : s = 2
  · subst e2; rw [if_pos rfl]; refine congrArg some ?_; rw [Bool.eq_iff_iff, decide_eq_true_iff]; unfold OutOk; simp
  rw [if_neg e2]
  by_cases e3 : s = 3
  · subst e3; rw [if_pos rfl]; refine congrArg some ?_; rw [Bool.eq_iff_iff, decide_eq_true_iff]; unfold OutOk; simp
  rw [if_neg e3]
  refine congrArg some ?_
  rw [Bool.eq_iff_iff, decide_eq_true_iff]
  unfold OutOk
  simp [e0, e1, e2, e3]
end Go.Proofs.Ytgcfcemgeppkmaa.P
