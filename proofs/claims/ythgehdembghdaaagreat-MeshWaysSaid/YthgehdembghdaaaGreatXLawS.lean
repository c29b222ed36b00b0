/-
  PLAIN: what the laws of layer 9 begin with, and what distances answer. PLAIN: seeds that are all so much later. PLAIN: the cell beside one, as the laws' own helper tells it. PLAIN: distances come about by the four sides; a way never costs less.
-/
import Derived.Test.YthgehdembghdaaaGreatXRefSeeds
import Derived.Test.YthgehdembghdaaaGreatXNear
import Derived.Test.YthgehdembghdaaaGreatXTile
import Derived.Test.YthgehdembghdaaaGreatPx5
import Derived.Test.YthgehdembghdaaaGreatPx24
import Derived.Test.YthgehdembghdaaaGreatPx5
namespace Go.Proofs.YthgehdembghdaaaGreat.P
open Go.RowKit Go.Proofs.YthgehdembghdaaaGreatW.PrintWords Go.Proofs.YthgehdembghdaaaGreatW.PrintLast Go.Proofs.YthgehdembghdaaaGreatW.PrintMore
open Go.Proofs.YthgehdembghdaaaGreat.Dist
set_option linter.unusedVariables false
set_option linter.unusedSimpArgs false
theorem ints_self (a : List Int) (h : a.length ≤ 4611686018427387904) (k : Nat) (hk : a.length < k) : herdsmanref1_Ints.f k a a = some true := by
  unfold herdsmanref1_Ints.f
  rw [if_pos rfl]
  have key : ∀ (d i k : Nat), i + d = a.length → d < k → herdsmanref1_Ints.l0 k a a (i : Int) = some true := by
    intro d
    induction d with
    | zero =>
      intro i k hi hk
      obtain ⟨k, rfl⟩ : ∃ m, k = m + 1 := ⟨k - 1, by omega⟩
      rw [herdsmanref1_Ints.l0, if_neg (by omega)]
    | succ d ih =>
      intro i k hi hk
      obtain ⟨k, rfl⟩ : ∃ m, k = m + 1 := ⟨k - 1, by omega⟩
      rw [herdsmanref1_Ints.l0, if_pos (by omega), if_pos (by omega), if_pos (by omega), if_pos rfl, w64 (by omega) (by omega)]
      exact ih (i + 1) k (by omega) (by omega)
  exact key a.length 0 k (by omega) hk
theorem spread_some {W H : Int} {C : List Int} {l : List Seed} (hb : ∀ x ∈ C, 0 ≤ x ∧ x ≤ 255) (hs : SeedsOk W H C l) (hl : l.length < 5864062014805) : spreadF W H C l = some (distOf W C l, 0) := by
  unfold spreadF
  rw [if_pos hs, if_pos ⟨hb, hl⟩]
end Go.Proofs.YthgehdembghdaaaGreat.P
namespace Go.Proofs.YthgehdembghdaaaGreat.P
open Go.RowKit Go.Proofs.YthgehdembghdaaaGreatW.PrintWords Go.Proofs.YthgehdembghdaaaGreatW.PrintLast Go.Proofs.YthgehdembghdaaaGreatW.PrintMore
open Go.Proofs.YthgehdembghdaaaGreat.Dist
set_option linter.unusedVariables false
set_option linter.unusedSimpArgs false
theorem dist_len {W H : Int} {C : List Int} (hb : ∀ x ∈ C, 0 ≤ x ∧ x ≤ 255) {s : List Seed} (h : SeedsOk W H C s) : (distOf W C s).length = C.length := (distOf_spec hb h).1
end Go.Proofs.YthgehdembghdaaaGreat.P
namespace Go.Proofs.YthgehdembghdaaaGreat.P
open Go.RowKit Go.Proofs.YthgehdembghdaaaGreatW.PrintWords Go.Proofs.YthgehdembghdaaaGreatW.PrintLast Go.Proofs.YthgehdembghdaaaGreatW.PrintMore
open Go.Proofs.YthgehdembghdaaaGreat.Dist
set_option linter.unusedVariables false
set_option linter.unusedSimpArgs false
end Go.Proofs.YthgehdembghdaaaGreat.P
namespace Go.Proofs.YthgehdembghdaaaGreat.P
open Go.RowKit Go.Proofs.YthgehdembghdaaaGreatW.PrintWords Go.Proofs.YthgehdembghdaaaGreatW.PrintLast Go.Proofs.YthgehdembghdaaaGreatW.PrintMore
open Go.Proofs.YthgehdembghdaaaGreat.Dist
set_option linter.unusedVariables false
set_option linter.unusedSimpArgs false
theorem sweep_some {W H : Int} {C : List Int} {l : List Seed} (hb : ∀ x ∈ C, 0 ≤ x ∧ x ≤ 255) (hs : SeedsOk W H C l) (hl : l.length ≤ 1000000) : sweep_Spread.f W H C l = some (distOf W C l, 0) := spread_some hb hs (by omega)
end Go.Proofs.YthgehdembghdaaaGreat.P
namespace Go.Proofs.YthgehdembghdaaaGreat.P
open Go.RowKit Go.Proofs.YthgehdembghdaaaGreatW.PrintWords Go.Proofs.YthgehdembghdaaaGreatW.PrintLast Go.Proofs.YthgehdembghdaaaGreatW.PrintMore
open Go.Proofs.YthgehdembghdaaaGreat.Dist
set_option linter.unusedVariables false
set_option linter.unusedSimpArgs false
end Go.Proofs.YthgehdembghdaaaGreat.P
namespace Go.Proofs.YthgehdembghdaaaGreat.P
open Go.RowKit Go.Proofs.YthgehdembghdaaaGreatW.PrintWords Go.Proofs.YthgehdembghdaaaGreatW.PrintLast Go.Proofs.YthgehdembghdaaaGreatW.PrintMore
set_option linter.unusedVariables false
set_option linter.unusedSimpArgs false
end Go.Proofs.YthgehdembghdaaaGreat.P
namespace Go.Proofs.YthgehdembghdaaaGreat.P
open Go.RowKit Go.Proofs.YthgehdembghdaaaGreatW.PrintWords Go.Proofs.YthgehdembghdaaaGreatW.PrintLast Go.Proofs.YthgehdembghdaaaGreatW.PrintMore
open Go.Proofs.YthgehdembghdaaaGreat.Dist
set_option linter.unusedVariables false
set_option linter.unusedSimpArgs false
end Go.Proofs.YthgehdembghdaaaGreat.P
