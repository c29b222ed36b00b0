/-
 PLAIN: the tile and the seeds of numbers; what lies over a side of a cell.
-/
import Derived.Test.YthgehdembghdaaaGreatXRefSeeds
import Derived.Test.YthgehdembghdaaaGreatPx5
namespace Go.Proofs.YthgehdembghdaaaGreat.P
open Go.RowKit Go.Proofs.YthgehdembghdaaaGreatW.PrintWords Go.Proofs.YthgehdembghdaaaGreatW.PrintLast Go.Proofs.YthgehdembghdaaaGreatW.PrintMore
set_option linter.unusedVariables false
set_option linter.unusedSimpArgs false
theorem within_some (x : Int) {lo hi : Int} (h0 : lo ≤ hi) (h1 : -1000000 ≤ lo) (h2 : hi ≤ 1099511627776) : herdsmanref1_Within.f x lo hi = some (lo + x % (hi - lo + 1)) := by
 unfold herdsmanref1_Within.f
 have e1 : wrap64 (hi - lo) = hi - lo := w64 (by omega) (by omega)
 have e2 : wrap64 (hi - lo + 1) = hi - lo + 1 := w64 (by omega) (by omega)
 have hp := Int.emod_nonneg x (show hi - lo + 1 ≠ 0 by omega)
 have hq := Int.emod_lt_of_pos x (show 0 < hi - lo + 1 by omega)
 have ht := Int.tmod_eq_emod (a := x) (b := hi - lo + 1)
 have hna : ((hi - lo + 1).natAbs : Int) = hi - lo + 1 := by omega
 simp only [e1, e2]
 rw [if_neg (by omega)]
 by_cases hc : 0 ≤ x ∨ hi - lo + 1 ∣ x
 ·rw [if_pos hc] at ht
  rw [show Int.tmod x (hi - lo + 1) = x % (hi - lo + 1) by omega, if_neg (by omega), w64 (by omega) (by omega)]
 ·rw [if_neg hc, hna] at ht
  have hne : x % (hi - lo + 1) ≠ 0 := fun h => hc (.inr (Int.dvd_of_emod_eq_zero h))
  rw [show Int.tmod x (hi - lo + 1) = x % (hi - lo + 1) - (hi - lo + 1) by omega, if_pos (by omega)]
  generalize x % (hi - lo + 1) = m at *
  rw [w64 (n := m - (hi - lo + 1) + hi) (by omega) (by omega), w64 (n := m - (hi - lo + 1) + hi - lo) (by omega) (by omega), w64 (n := m - (hi - lo + 1) + hi - lo + 1) (by omega) (by omega), w64 (by omega) (by omega)]
  congr 1; omega
theorem cost_some {a : Int} (h : 0 ≤ a ∧ a ≤ 255) : ∃ r, herdsmanref1_Cost.f a = some r ∧ 1 ≤ r ∧ r ≤ 255 := by
 unfold herdsmanref1_Cost.f
 rw [tmod_nn h.1, tmod_nn h.1]
 split
 ·exact ⟨255, rfl, by omega⟩
 ·split
  ·exact ⟨_, rfl, by omega⟩
  ·exact ⟨_, rfl, by omega⟩
theorem u8_wf {l : List Int} (h : ∀ x ∈ l, (Lit.int .u8 x).wf = true) : ∀ x ∈ l, 0 ≤ x ∧ x ≤ 255 := by
 intro x hx
 have := h x hx
 simp only [Lit.wf, Bool.and_eq_true, decide_eq_true_eq] at this
 exact ⟨this.1, this.2⟩
def nbS (W c s : Int) : Int := if s = 0 then c - W else if s = 1 then c + 1 else if s = 2 then c + W else if s = 3 then c - 1 else c
end Go.Proofs.YthgehdembghdaaaGreat.P
