/-
  PLAIN: the seeds that herdsmanref7.Seeds makes of numbers.
-/
import Derived.Test.YtgcfcemgeppkmaaXMayP
import Derived.Test.YtgcfcemgeppkmaaPx1
import Derived.Test.YtgcfcemgeppkmaaPx1
namespace Go.Proofs.Ytgcfcemgeppkmaa.P
open Go.RowKit Go.Proofs.YtgcfcemgeppkmaaW.PrintWords Go.Proofs.YtgcfcemgeppkmaaW.PrintLast Go.Proofs.YtgcfcemgeppkmaaW.PrintMore
set_option linter.unusedVariables false
set_option linter.unusedSimpArgs false

theorem within0 (x : Int) {n : Int} (h0 : 0 ≤ n) (h1 : n ≤ 1099511627776) : herdsmanref1_Within.f x 0 n = some (x % (n + 1)) := by
  unfold herdsmanref1_Within.f
  have e1 : wrap64 (n - 0) = n := by rw [w64 (by omega) (by omega)]; omega
  have e2 : wrap64 (n + 1) = n + 1 := w64 (by omega) (by omega)
  have hp := Int.emod_nonneg x (show n + 1 ≠ 0 by omega)
  have hq := Int.emod_lt_of_pos x (show 0 < n + 1 by omega)
  have ht := Int.tmod_eq_emod (a := x) (b := n + 1)
  have hna : ((n + 1).natAbs : Int) = n + 1 := by omega
  simp only [e1, e2]
  rw [if_neg (by omega)]
  by_cases hc : 0 ≤ x ∨ n + 1 ∣ x
  · rw [if_pos hc] at ht
    rw [show Int.tmod x (n + 1) = x % (n + 1) by omega, if_neg (by omega), w64 (by omega) (by omega)]
    congr 1; omega
  · rw [if_neg hc, hna] at ht
    have hne : x % (n + 1) ≠ 0 := fun h => hc (.inr (Int.dvd_of_emod_eq_zero h))
    rw [show Int.tmod x (n + 1) = x % (n + 1) - (n + 1) by omega, if_pos (by omega)]
    rw [w64 (n := x % (n + 1) - (n + 1) + n) (by omega) (by omega), w64 (n := x % (n + 1) - (n + 1) + n - 0) (by omega) (by omega), w64 (n := x % (n + 1) - (n + 1) + n - 0 + 1) (by omega) (by omega), w64 (by omega) (by omega)]
    congr 1; omega

/-- There is no cell beside, over that side. -/
def OutE (W H c s : Int) : Prop := s = 0 ∧ c / W = 0 ∨ s = 1 ∧ c % W = W - 1 ∨ s = 2 ∧ c / W = H - 1 ∨ s = 3 ∧ c % W = 0
instance (W H c s : Int) : Decidable (OutE W H c s) := inferInstanceAs (Decidable (_ ∨ _))
theorem refIn_some (n lo hi : Int) : herdsmanref1_In.f n lo hi = some (decide (lo ≤ n ∧ n ≤ hi)) := by
  unfold herdsmanref1_In.f
  by_cases h : n ≥ lo
  · rw [if_pos h]; exact congrArg some (decide_eq_decide.2 ⟨fun h2 => ⟨h, h2⟩, fun h2 => h2.2⟩)
  · rw [if_neg h]; exact congrArg some (decide_eq_false (fun h2 => h h2.1)).symm
theorem refMay_some (W H : Int) : herdsmanref1_May.f W H = some (decide ((1 ≤ W ∧ W ≤ 1024) ∧ 1 ≤ H ∧ H ≤ 1024)) := by
  unfold herdsmanref1_May.f
  simp only [refIn_some, Option.bind_some, decide_eq_true_eq]
  by_cases h : 1 ≤ W ∧ W ≤ 1024
  · rw [if_pos h]; exact congrArg some (decide_eq_decide.2 ⟨fun h2 => ⟨h, h2⟩, fun h2 => h2.2⟩)
  · rw [if_neg h]; exact congrArg some (decide_eq_false (fun h2 => h h2.1)).symm
theorem refIsCell_some {W H c : Int} (hW : 1 ≤ W ∧ W ≤ 16) (hH : 1 ≤ H ∧ H ≤ 16) (h0 : 0 ≤ c) (h1 : c < W * H) : herdsmanref1_IsCell.f W H c = some true := by
  have hm := mul_small hW hH
  unfold herdsmanref1_IsCell.f
  rw [refMay_some, Option.bind_some, if_pos (by rw [decide_eq_true_eq]; omega), refIn_some, Option.bind_some, w64 (n := W * H) (by omega) (by omega), w64 (by omega) (by omega)]
  exact congrArg some (decide_eq_true (by omega))

theorem step_some {W H c s : Int} (hW : 1 ≤ W ∧ W ≤ 16) (hH : 1 ≤ H ∧ H ≤ 16) (h0 : 0 ≤ c) (h1 : c < W * H) (hs : 0 ≤ s ∧ s ≤ 4) (k : Nat) : ∃ r, herdsmanref1_Step.f (k + 5) W H c s = some r ∧ (r < 0 ↔ OutE W H c s) := by
  have hm := mul_small hW hH
  have hd0 : 0 ≤ c / W := Int.ediv_nonneg h0 (by omega)
  have hdm := Int.mul_ediv_add_emod c W
  have hr0 : 0 ≤ c % W := Int.emod_nonneg _ (by omega)
  have hrW : c % W < W := Int.emod_lt_of_pos _ (by omega)
  have hdH : c / W < H := by
    rcases Int.lt_or_le (c / W) H with h | h
    · exact h
    · have := Int.mul_le_mul_of_nonneg_left (c := W) h (by omega)
      omega
  have hq : ∀ x y : Int, 0 ≤ x → 0 ≤ y → 0 ≤ y * W + x := fun x y hx hy => by have := Int.mul_nonneg hy (show 0 ≤ W by omega); omega
  have hq2 : ∀ x y : Int, x ≤ 16 → y ≤ 16 → y * W + x ≤ 1000 := fun x y hx hy => by
    have := Int.mul_le_mul_of_nonneg_right (c := W) hy (by omega)
    omega
  unfold herdsmanref1_Step.f
  rw [refIsCell_some hW hH h0 h1, Option.bind_some, if_pos rfl, refIn_some, Option.bind_some, decide_eq_true hs]
  rw [herdsmanref1_Step.j0, tdiv_nn h0, tmod_nn h0, w64 (n := c / W) (by omega) (by omega), w64 (n := c / W - 1) (by omega) (by omega)]
  rw [if_neg (by simp), if_neg (by omega)]
  have hj4 : ∀ x y : Int, -1 ≤ x → x ≤ W → -1 ≤ y → y ≤ H → ∃ r, herdsmanref1_Step.j4 (k + 1) W H x y = some r ∧ (r < 0 ↔ (x < 0 ∨ W ≤ x ∨ y < 0 ∨ H ≤ y)) := by
    intro x y hx1 hx2 hy1 hy2
    rw [herdsmanref1_Step.j4, refIn_some, refIn_some, Option.bind_some, Option.bind_some, w64 (n := W - 1) (by omega) (by omega), w64 (n := H - 1) (by omega) (by omega)]
    by_cases hx : 0 ≤ x ∧ x ≤ W - 1
    · rw [decide_eq_true hx, if_pos rfl]
      by_cases hy : 0 ≤ y ∧ y ≤ H - 1
      · rw [decide_eq_true hy, if_pos rfl]
        have e1 := hq x y hx.1 hy.1
        have e2 := hq2 x y (by omega) (by omega)
        have e3 := hq 0 y (by omega) hy.1
        have e4 := hq2 0 y (by omega) (by omega)
        refine ⟨_, rfl, ?_⟩
        rw [w64 (n := y * W) (by omega) (by omega), w64 (by omega) (by omega)]
        omega
      · rw [decide_eq_false hy, if_neg (by simp)]
        exact ⟨-1, rfl, by omega⟩
    · rw [decide_eq_false hx, if_neg (by simp)]
      exact ⟨-1, rfl, by omega⟩
  have fin : ∀ x y : Int, -1 ≤ x → x ≤ W → -1 ≤ y → y ≤ H → ((x < 0 ∨ W ≤ x ∨ y < 0 ∨ H ≤ y) ↔ OutE W H c s) → ∃ r, herdsmanref1_Step.j4 (k + 1) W H x y = some r ∧ (r < 0 ↔ OutE W H c s) := by
    intro x y a1 a2 a3 a4 he
    obtain ⟨r, e, h⟩ := hj4 x y a1 a2 a3 a4
    exact ⟨r, e, h.trans he⟩
  have hs5 : s = 0 ∨ s = 1 ∨ s = 2 ∨ s = 3 ∨ s = 4 := by omega
  rcases hs5 with rfl | rfl | rfl | rfl | rfl
  · rw [if_pos rfl]
    rw [herdsmanref1_Step.j1, if_neg (by decide), herdsmanref1_Step.j2, if_neg (by decide), herdsmanref1_Step.j3, if_neg (by decide)]
    exact fin _ _ (by omega) (by omega) (by omega) (by omega) (by unfold OutE; omega)
  · rw [if_neg (by decide)]
    rw [herdsmanref1_Step.j1, if_pos rfl, herdsmanref1_Step.j2, if_neg (by decide), herdsmanref1_Step.j3, if_neg (by decide), w64 (by omega) (by omega)]
    exact fin _ _ (by omega) (by omega) (by omega) (by omega) (by unfold OutE; omega)
  · rw [if_neg (by decide)]
    rw [herdsmanref1_Step.j1, if_neg (by decide), herdsmanref1_Step.j2, if_pos rfl, herdsmanref1_Step.j3, if_neg (by decide), w64 (by omega) (by omega)]
    exact fin _ _ (by omega) (by omega) (by omega) (by omega) (by unfold OutE; omega)
  · rw [if_neg (by decide)]
    rw [herdsmanref1_Step.j1, if_neg (by decide), herdsmanref1_Step.j2, if_neg (by decide), herdsmanref1_Step.j3, if_pos rfl, w64 (by omega) (by omega)]
    exact fin _ _ (by omega) (by omega) (by omega) (by omega) (by unfold OutE; omega)
  · rw [if_neg (by decide)]
    rw [herdsmanref1_Step.j1, if_neg (by decide), herdsmanref1_Step.j2, if_neg (by decide), herdsmanref1_Step.j3, if_neg (by decide)]
    exact fin _ _ (by omega) (by omega) (by omega) (by omega) (by unfold OutE; omega)

/-- The seed of a number. -/
def seedRaw (W H : Int) (C : List Int) (x : Int) : Seed := ⟨x % C.length, if OutE W H (x % C.length) (wrap64 (Int.tdiv x 3) % 5) then wrap64 (Int.tdiv x 3) % 5 else 4, if Int.tmod x 11 = 0 then x % 1073741825 else wrap64 (Int.tdiv x 7) % 901⟩
def seedOf (W H : Int) (C : List Int) (x : Int) : Option Seed := if rd C (x % C.length) = 255 then none else some (seedRaw W H C x)
def seedsOf (W H : Int) (C l : List Int) : List Seed := l.filterMap (seedOf W H C)
theorem seedsOf_len (W H : Int) (C l : List Int) : (seedsOf W H C l).length ≤ l.length := List.length_filterMap_le _ _
theorem seedsOf_snoc (W H : Int) (C l : List Int) (i : Nat) (hi : i < l.length) : seedsOf W H C (l.take (i + 1)) = seedsOf W H C (l.take i) ++ (seedOf W H C (rd l i)).toList := by
  rw [List.take_succ_eq_append_getElem hi, seedsOf, List.filterMap_append, rd_get l hi]
  cases h : seedOf W H C l[i] <;> simp [seedsOf, h]
theorem seedsOf_ok {W H : Int} {C : List Int} (ht : TileOk W H C) (l : List Int) : SeedsOk W H C (seedsOf W H C l) := by
  refine ⟨ht, fun x hx => ?_⟩
  obtain ⟨y, _, hy⟩ := List.mem_filterMap.1 hx
  obtain ⟨a1, a2, a3, a4, a5, a6⟩ := ht
  have h1 : 1 * 1 ≤ W * H := Int.mul_le_mul a1 a3 (by omega) (by omega)
  unfold seedOf at hy
  split at hy
  · exact absurd hy (by simp)
  · rename_i hne
    obtain rfl := Option.some.inj hy
    have e0 := Int.emod_nonneg y (show (C.length : Int) ≠ 0 by omega)
    have e1 := Int.emod_lt_of_pos y (show 0 < (C.length : Int) by omega)
    refine ⟨e0, e1, hne, ?_, ?_, ?_⟩
    · unfold seedRaw; dsimp only; split <;> omega
    · unfold seedRaw; dsimp only; split <;> omega
    · unfold seedRaw OutOk; dsimp only
      split
      · rename_i ho
        unfold OutE at ho
        omega
      · omega
/-- As the printed functions take it. -/
def refSeedsF (W H : Int) (C l : List Int) : Option (List Seed) := if TileOk W H C ∧ l.length ≤ 1000000 then some (seedsOf W H C l) else none
end Go.Proofs.Ytgcfcemgeppkmaa.P
