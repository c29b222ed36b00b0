/-
 PLAIN: small words.
-/
import Derived.Test.YthgehdembghdaaaGreatPx0
namespace Go.Proofs.YthgehdembghdaaaGreat.P
open Go.RowKit Go.Proofs.YthgehdembghdaaaGreatW.PrintWords Go.Proofs.YthgehdembghdaaaGreatW.PrintLast Go.Proofs.YthgehdembghdaaaGreatW.PrintMore
set_option linter.unusedVariables false
set_option linter.unusedSimpArgs false
abbrev Seed := S90
theorem w64 {n : Int} (h1 : -9223372036854775808 ≤ n) (h2 : n ≤ 9223372036854775807) : wrap64 n = n := by unfold wrap64; omega
theorem rd_get (xs : List Int) {i : Nat} (h : i < xs.length) : rd xs (i : Int) = xs[i] := by
 unfold rd
 rw [Int.toNat_natCast, List.getD_eq_getElem?_getD, List.getElem?_eq_getElem h]
 rfl
theorem mul_small {W H : Int} (h1 : 1 ≤ W ∧ W ≤ 16) (h2 : 1 ≤ H ∧ H ≤ 16) : 1 ≤ W * H ∧ W * H ≤ 256 := by
 obtain ⟨a, b⟩ := h1
 obtain ⟨c, d⟩ := h2
 constructor
 ·have := Int.mul_le_mul a c (by omega) (by omega); omega
 ·have := Int.mul_le_mul b d (by omega) (by omega); omega
theorem tdiv_nn {a b : Int} (h : 0 ≤ a) : Int.tdiv a b = a / b := Int.tdiv_eq_ediv_of_nonneg h
theorem tmod_nn {a b : Int} (h : 0 ≤ a) : Int.tmod a b = a % b := Int.tmod_eq_emod_of_nonneg h
end Go.Proofs.YthgehdembghdaaaGreat.P
