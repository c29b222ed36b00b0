/-
 PLAIN: the tile and the seeds of numbers; what lies over a side of a cell.
-/
import Derived.Test.YthgehdembghdaaaGreatXRefSeeds
import Derived.Test.YthgehdembghdaaaGreatPx5
namespace Go.Proofs.YthgehdembghdaaaGreat.P
open Go.RowKit Go.Proofs.YthgehdembghdaaaGreatW.PrintWords Go.Proofs.YthgehdembghdaaaGreatW.PrintLast Go.Proofs.YthgehdembghdaaaGreatW.PrintMore
set_option linter.unusedVariables false
set_option linter.unusedSimpArgs false
theorem within_some (x : Int) {lo hi : Int} (h0 : lo ≤ hi) (h1 : -1000000 ≤ lo) (h2 : hi ≤ 1099511627776) : herdsmanref1_Within.f x lo hi = some (lo + x % (hi - lo + 1)) := by
 unfold herdsmanref1_Within.f
 have e1 : wrap64 (hi - lo) = hi - lo := w64 (by omega) (by omega)
 have e2 : wrap64 (hi - lo + 1) = hi - lo + 1 := w64 (by omega) (by omega)
 have hp := Int.emod_nonneg x (show hi - lo + 1 ≠ 0 by omega)
 have hq := Int.emod_lt_of_pos x (show 0 < hi - lo + 1 by omega)
 have ht := Int.tmod_eq_emod (a := x) (b := hi - lo + 1)
 have hna : ((hi - lo + 1).natAbs : Int) = hi - lo + 1 := by omega
 simp only [e1, e2]
 rw [if_neg (by omega)]
 by_cases hc : 0 ≤ x ∨ hi - lo + 1 ∣ x
 ·rw [if_pos hc] at ht
  rw [show Int.tmod x (hi - lo + 1) = x % (hi - lo + 1) by omega, if_neg (by omega), w64 (by omega) (by omega)]
 ·rw [if_neg hc, hna] at ht
  have hne : x % (hi - lo + 1) ≠ 0 := fun h => hc (.inr (Int.dvd_of_emod_eq_zero h))
  rw [show Int.tmod x (hi - lo + 1) = x % (hi - lo + 1) - (hi - lo + 1) by omega, if_pos (by omega)]
  generalize x % (hi - lo + 1) = m at *
  rw [w64 (n := m - (hi - lo + 1) + hi) (by omega) (by omega), w64 (n := m - (hi - lo + 1) + hi - lo) (by omega) (by omega), w64 (n := m - (hi - lo + 1) + hi - lo + 1) (by omega) (by omega), w64 (by omega) (by omega)]
  congr 1; omega
theorem cost_some {a : Int} (h : 0 ≤ a ∧ a ≤ 255) : ∃ r, herdsmanref1_Cost.f a = some r ∧ 1 ≤ r ∧ r ≤ 255 := by
 unfold herdsmanref1_Cost.f
 rw [tmod_nn h.1, tmod_nn h.1]
 split
 ·exact ⟨255, rfl, by omega⟩
 ·split
  ·exact ⟨_, rfl, by omega⟩
  ·exact ⟨_, rfl, by omega⟩
theorem u8_wf {l : List Int} (h : ∀ x ∈ l, (Lit.int .u8 x).wf = true) : ∀ x ∈ l, 0 ≤ x ∧ x ≤ 255 := by
 intro x hx
 have := h x hx
 simp only [Lit.wf, Bool.and_eq_true, decide_eq_true_eq] at this
 exact ⟨this.1, this.2⟩
def nbS (W c s : Int) : Int := if s = 0 then c - W else if s = 1 then c + 1 else if s = 2 then c + W else if s = 3 then c - 1 else c
theorem step_val {W H c s : Int} (hW : 1 ≤ W ∧ W ≤ 16) (hH : 1 ≤ H ∧ H ≤ 16) (h0 : 0 ≤ c) (h1 : c < W * H) (hs : 0 ≤ s ∧ s ≤ 4) (k : Nat) : herdsmanref1_Step.f (k + 5) W H c s = some (if OutE W H c s then -1 else nbS W c s) := by
 have hm := mul_small hW hH
 have hd0 : 0 ≤ c / W := Int.ediv_nonneg h0 (by omega)
 have hdm := Int.mul_ediv_add_emod c W
 have hr0 : 0 ≤ c % W := Int.emod_nonneg _ (by omega)
 have hrW : c % W < W := Int.emod_lt_of_pos _ (by omega)
 have hdH : c / W < H := by
  rcases Int.lt_or_le (c / W) H with h | h
  ·exact h
  ·have := Int.mul_le_mul_of_nonneg_left (c := W) h (by omega)
   omega
 have hq : ∀ x y : Int, 0 ≤ x → 0 ≤ y → 0 ≤ y * W + x := fun x y hx hy => by have := Int.mul_nonneg hy (show 0 ≤ W by omega); omega
 have hq2 : ∀ x y : Int, x ≤ 16 → y ≤ 16 → y * W + x ≤ 1000 := fun x y hx hy => by
  have := Int.mul_le_mul_of_nonneg_right (c := W) hy (by omega)
  omega
 unfold herdsmanref1_Step.f
 rw [refIsCell_some hW hH h0 h1, Option.bind_some, if_pos rfl, refIn_some, Option.bind_some, decide_eq_true hs]
 rw [herdsmanref1_Step.j0, tdiv_nn h0, tmod_nn h0, w64 (n := c / W) (by omega) (by omega), w64 (n := c / W - 1) (by omega) (by omega)]
 rw [if_neg (by simp), if_neg (by omega)]
 have hj4 : ∀ x y : Int, -1 ≤ x → x ≤ W → -1 ≤ y → y ≤ H → ((x < 0 ∨ W ≤ x ∨ y < 0 ∨ H ≤ y) ↔ OutE W H c s) → (¬ OutE W H c s → y * W + x = nbS W c s) → herdsmanref1_Step.j4 (k + 1) W H x y = some (if OutE W H c s then -1 else nbS W c s) := by
  intro x y hx1 hx2 hy1 hy2 ho hv
  rw [herdsmanref1_Step.j4, refIn_some, refIn_some, Option.bind_some, Option.bind_some, w64 (n := W - 1) (by omega) (by omega), w64 (n := H - 1) (by omega) (by omega)]
  by_cases hx : 0 ≤ x ∧ x ≤ W - 1
  ·rw [decide_eq_true hx, if_pos rfl]
   by_cases hy : 0 ≤ y ∧ y ≤ H - 1
   ·rw [decide_eq_true hy, if_pos rfl]
    have e1 := hq x y hx.1 hy.1
    have e2 := hq2 x y (by omega) (by omega)
    have e3 := hq 0 y (by omega) hy.1
    have e4 := hq2 0 y (by omega) (by omega)
    have hno : ¬ OutE W H c s := fun h => by have := ho.2 h; omega
    rw [w64 (n := y * W) (by omega) (by omega), w64 (by omega) (by omega), if_neg hno, hv hno]
   ·rw [decide_eq_false hy, if_neg (by simp), if_pos (ho.1 (by omega))]
  ·rw [decide_eq_false hx, if_neg (by simp), if_pos (ho.1 (by omega))]
 have hcW : c / W * W + c % W = c := by rw [Int.mul_comm]; exact hdm
 have hs5 : s = 0 ∨ s = 1 ∨ s = 2 ∨ s = 3 ∨ s = 4 := by omega
 rcases hs5 with rfl | rfl | rfl | rfl | rfl
 ·rw [if_pos rfl]
  rw [herdsmanref1_Step.j1, if_neg (by decide), herdsmanref1_Step.j2, if_neg (by decide), herdsmanref1_Step.j3, if_neg (by decide)]
  exact hj4 _ _ (by omega) (by omega) (by omega) (by omega) (by unfold OutE; omega) (fun _ => by rw [Int.sub_mul]; unfold nbS; omega)
 ·rw [if_neg (by decide)]
  rw [herdsmanref1_Step.j1, if_pos rfl, herdsmanref1_Step.j2, if_neg (by decide), herdsmanref1_Step.j3, if_neg (by decide), w64 (by omega) (by omega)]
  exact hj4 _ _ (by omega) (by omega) (by omega) (by omega) (by unfold OutE; omega) (fun _ => by unfold nbS; omega)
 ·rw [if_neg (by decide)]
  rw [herdsmanref1_Step.j1, if_neg (by decide), herdsmanref1_Step.j2, if_pos rfl, herdsmanref1_Step.j3, if_neg (by decide), w64 (by omega) (by omega)]
  exact hj4 _ _ (by omega) (by omega) (by omega) (by omega) (by unfold OutE; omega) (fun _ => by rw [Int.add_mul]; unfold nbS; omega)
 ·rw [if_neg (by decide)]
  rw [herdsmanref1_Step.j1, if_neg (by decide), herdsmanref1_Step.j2, if_neg (by decide), herdsmanref1_Step.j3, if_pos rfl, w64 (by omega) (by omega)]
  exact hj4 _ _ (by omega) (by omega) (by omega) (by omega) (by unfold OutE; omega) (fun _ => by unfold nbS; omega)
 ·rw [if_neg (by decide)]
  rw [herdsmanref1_Step.j1, if_neg (by decide), herdsmanref1_Step.j2, if_neg (by decide), herdsmanref1_Step.j3, if_neg (by decide)]
  exact hj4 _ _ (by omega) (by omega) (by omega) (by omega) (by unfold OutE; omega) (fun _ => by unfold nbS; omega)
end Go.Proofs.YthgehdembghdaaaGreat.P
