/-
 PLAIN: what the laws of layer 9 begin with, and what distances answer. PLAIN: seeds that are all so much later. PLAIN: the cell beside one, as the laws' own helper tells it. PLAIN: distances come about by the four sides; a way never costs less.
-/
import Derived.Test.YthgehdembghdaaaGreatXRefSeeds
import Derived.Test.YthgehdembghdaaaGreatXNear
import Derived.Test.YthgehdembghdaaaGreatXTile
import Derived.Test.YthgehdembghdaaaGreatPx5
import Derived.Test.YthgehdembghdaaaGreatPx24
import Derived.Test.YthgehdembghdaaaGreatPx5
namespace Go.Proofs.YthgehdembghdaaaGreat.P
open Go.RowKit Go.Proofs.YthgehdembghdaaaGreatW.PrintWords Go.Proofs.YthgehdembghdaaaGreatW.PrintLast Go.Proofs.YthgehdembghdaaaGreatW.PrintMore
open Go.Proofs.YthgehdembghdaaaGreat.Dist
set_option linter.unusedVariables false
set_option linter.unusedSimpArgs false
theorem ints_self (a : List Int) (h : a.length ≤ 4611686018427387904) (k : Nat) (hk : a.length < k) : herdsmanref1_Ints.f k a a = some true := by
 unfold herdsmanref1_Ints.f
 rw [if_pos rfl]
 have key : ∀ (d i k : Nat), i + d = a.length → d < k → herdsmanref1_Ints.l0 k a a (i : Int) = some true := by
  intro d
  induction d with
  | zero =>
   intro i k hi hk
   obtain ⟨k, rfl⟩ : ∃ m, k = m + 1 := ⟨k - 1, by omega⟩
   rw [herdsmanref1_Ints.l0, if_neg (by omega)]
  | succ d ih =>
   intro i k hi hk
   obtain ⟨k, rfl⟩ : ∃ m, k = m + 1 := ⟨k - 1, by omega⟩
   rw [herdsmanref1_Ints.l0, if_pos (by omega), if_pos (by omega), if_pos (by omega), if_pos rfl, w64 (by omega) (by omega)]
   exact ih (i + 1) k (by omega) (by omega)
 exact key a.length 0 k (by omega) hk
theorem spread_some {W H : Int} {C : List Int} {l : List Seed} (hb : ∀ x ∈ C, 0 ≤ x ∧ x ≤ 255) (hs : SeedsOk W H C l) (hl : l.length < 5864062014805) : spreadF W H C l = some (distOf W C l, 0) := by
 unfold spreadF
 rw [if_pos hs, if_pos ⟨hb, hl⟩]
end Go.Proofs.YthgehdembghdaaaGreat.P
namespace Go.Proofs.YthgehdembghdaaaGreat.P
open Go.RowKit Go.Proofs.YthgehdembghdaaaGreatW.PrintWords Go.Proofs.YthgehdembghdaaaGreatW.PrintLast Go.Proofs.YthgehdembghdaaaGreatW.PrintMore
open Go.Proofs.YthgehdembghdaaaGreat.Dist
set_option linter.unusedVariables false
set_option linter.unusedSimpArgs false
theorem dist_len {W H : Int} {C : List Int} (hb : ∀ x ∈ C, 0 ≤ x ∧ x ≤ 255) {s : List Seed} (h : SeedsOk W H C s) : (distOf W C s).length = C.length := (distOf_spec hb h).1
end Go.Proofs.YthgehdembghdaaaGreat.P
namespace Go.Proofs.YthgehdembghdaaaGreat.P
open Go.RowKit Go.Proofs.YthgehdembghdaaaGreatW.PrintWords Go.Proofs.YthgehdembghdaaaGreatW.PrintLast Go.Proofs.YthgehdembghdaaaGreatW.PrintMore
open Go.Proofs.YthgehdembghdaaaGreat.Dist
set_option linter.unusedVariables false
set_option linter.unusedSimpArgs false
end Go.Proofs.YthgehdembghdaaaGreat.P
namespace Go.Proofs.YthgehdembghdaaaGreat.P
open Go.RowKit Go.Proofs.YthgehdembghdaaaGreatW.PrintWords Go.Proofs.YthgehdembghdaaaGreatW.PrintLast Go.Proofs.YthgehdembghdaaaGreatW.PrintMore
open Go.Proofs.YthgehdembghdaaaGreat.Dist
set_option linter.unusedVariables false
set_option linter.unusedSimpArgs false
theorem sweep_some {W H : Int} {C : List Int} {l : List Seed} (hb : ∀ x ∈ C, 0 ≤ x ∧ x ≤ 255) (hs : SeedsOk W H C l) (hl : l.length ≤ 1000000) : sweep_Spread.f W H C l = some (distOf W C l, 0) := spread_some hb hs (by omega)
end Go.Proofs.YthgehdembghdaaaGreat.P
namespace Go.Proofs.YthgehdembghdaaaGreat.P
open Go.RowKit Go.Proofs.YthgehdembghdaaaGreatW.PrintWords Go.Proofs.YthgehdembghdaaaGreatW.PrintLast Go.Proofs.YthgehdembghdaaaGreatW.PrintMore
open Go.Proofs.YthgehdembghdaaaGreat.Dist
set_option linter.unusedVariables false
set_option linter.unusedSimpArgs false
theorem rdT_get (xs : List Seed) {i : Nat} (h : i < xs.length) : rd_T90 xs (i : Int) = xs[i] := by
 unfold rd_T90
 rw [Int.toNat_natCast, List.getD_eq_getElem?_getD, List.getElem?_eq_getElem h]
 rfl
end Go.Proofs.YthgehdembghdaaaGreat.P
namespace Go.Proofs.YthgehdembghdaaaGreat.P
open Go.RowKit Go.Proofs.YthgehdembghdaaaGreatW.PrintWords Go.Proofs.YthgehdembghdaaaGreatW.PrintLast Go.Proofs.YthgehdembghdaaaGreatW.PrintMore
set_option linter.unusedVariables false
set_option linter.unusedSimpArgs false
end Go.Proofs.YthgehdembghdaaaGreat.P
namespace Go.Proofs.YthgehdembghdaaaGreat.P
open Go.RowKit Go.Proofs.YthgehdembghdaaaGreatW.PrintWords Go.Proofs.YthgehdembghdaaaGreatW.PrintLast Go.Proofs.YthgehdembghdaaaGreatW.PrintMore
open Go.Proofs.YthgehdembghdaaaGreat.Dist
set_option linter.unusedVariables false
set_option linter.unusedSimpArgs false
theorem nb_in {W H c s : Int} {n : Nat} (hW : 1 ≤ W ∧ W ≤ 16) (hH : 1 ≤ H ∧ H ≤ 16) (hn : (n : Int) = W * H) (h0 : 0 ≤ c) (h1 : c < n) (hs : 0 ≤ s ∧ s ≤ 3) (ho : ¬ OutE W H c s) : 0 ≤ nbS W c s ∧ nbS W c s < n ∧ AdjT W c (nbS W c s) := by
 have hm := mul_small hW hH
 have hd0 : 0 ≤ c / W := Int.ediv_nonneg h0 (by omega)
 have hdm := Int.mul_ediv_add_emod c W
 have hr0 : 0 ≤ c % W := Int.emod_nonneg _ (by omega)
 have hrW : c % W < W := Int.emod_lt_of_pos _ (by omega)
 have hge : ∀ k : Int, k ≤ c / W → W * k ≤ W * (c / W) := fun k hk => Int.mul_le_mul_of_nonneg_left hk (by omega)
 have hle : ∀ k : Int, c / W ≤ k → W * (c / W) ≤ W * k := fun k hk => Int.mul_le_mul_of_nonneg_left hk (by omega)
 have hdH : c / W < H := by
  rcases Int.lt_or_le (c / W) H with h | h
  ·exact h
  ·have := hge H h
   omega
 unfold OutE at ho
 rcases (show s = 0 ∨ s = 1 ∨ s = 2 ∨ s = 3 by omega) with rfl | rfl | rfl | rfl
 ·have h2 := hge 1 (by omega)
  simp only [nbS, if_true]
  unfold AdjT
  omega
 ·have h2 := hle (H - 1) (by omega)
  rw [Int.mul_sub, Int.mul_one] at h2
  rw [show nbS W c 1 = c + 1 by simp [nbS]]
  unfold AdjT
  omega
 ·have h2 := hle (H - 2) (by omega)
  rw [Int.mul_sub] at h2
  rw [show nbS W c 2 = c + W by simp [nbS]]
  unfold AdjT
  omega
 ·rw [show nbS W c 3 = c - 1 by simp [nbS]]
  have hq : 0 ≤ W * (c / W) := Int.mul_nonneg (by omega) hd0
  unfold AdjT
  omega
theorem nb_of {W H c j : Int} {n : Nat} (hW : 1 ≤ W ∧ W ≤ 16) (hH : 1 ≤ H ∧ H ≤ 16) (hn : (n : Int) = W * H) (h0 : 0 ≤ c) (h1 : c < n) (hj0 : 0 ≤ j) (hj1 : j < n) (ha : AdjT W c j) : ∃ s, (0 ≤ s ∧ s ≤ 3) ∧ ¬ OutE W H c s ∧ nbS W c s = j := by
 have hm := mul_small hW hH
 have hd0 : 0 ≤ c / W := Int.ediv_nonneg h0 (by omega)
 have hdm := Int.mul_ediv_add_emod c W
 have hr0 : 0 ≤ c % W := Int.emod_nonneg _ (by omega)
 have hrW : c % W < W := Int.emod_lt_of_pos _ (by omega)
 unfold AdjT at ha
 rcases ha with h | h | h | h
 ·refine ⟨0, by omega, ?_, by unfold nbS; rw [if_pos rfl]; omega⟩
  unfold OutE
  rintro (⟨_, h2⟩ | ⟨h2, _⟩ | ⟨h2, _⟩ | ⟨h2, _⟩)
  ·rw [h2] at hdm; omega
  all_goals omega
 ·refine ⟨1, by omega, ?_, by simp [nbS]; omega⟩
  unfold OutE
  omega
 ·refine ⟨2, by omega, ?_, by simp [nbS]; omega⟩
  unfold OutE
  rintro (⟨h2, _⟩ | ⟨h2, _⟩ | ⟨_, h2⟩ | ⟨h2, _⟩)
  ·omega
  ·omega
  ·rw [h2, Int.mul_sub, Int.mul_one] at hdm; omega
  ·omega
 ·refine ⟨3, by omega, ?_, by simp [nbS]; omega⟩
  unfold OutE
  omega
theorem dist_range {W H : Int} {C : List Int} (hb : ∀ x ∈ C, 0 ≤ x ∧ x ≤ 255) {l : List Seed} (h : SeedsOk W H C l) {i : Nat} (hi : i < C.length) : 0 ≤ rd (distOf W C l) i ∧ rd (distOf W C l) i ≤ INF :=
 ⟨((distOf_spec hb h).2.2 i hi).1, ((distOf_spec hb h).2.1 i hi).1⟩
end Go.Proofs.YthgehdembghdaaaGreat.P
