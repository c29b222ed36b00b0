/-
 PLAIN: the map of numbers (herdsmanref1.Made); sectors counted (herdsmanref1.Count).
-/
import Derived.Test.YthgehdembghdaaaGreatXGeo
import Derived.Test.YthgehdembghdaaaGreatXNear
import Derived.Test.YthgehdembghdaaaGreatPx5
import Derived.Test.YthgehdembghdaaaGreatPx5
namespace Go.Proofs.YthgehdembghdaaaGreat.P
open Go.RowKit Go.Proofs.YthgehdembghdaaaGreatW.PrintWords Go.Proofs.YthgehdembghdaaaGreatW.PrintLast Go.Proofs.YthgehdembghdaaaGreatW.PrintMore
open Go.Proofs.YthgehdembghdaaaGreat.Geo
set_option linter.unusedVariables false
set_option linter.unusedSimpArgs false
theorem mul_smallM {W H : Int} (h1 : 1 ≤ W ∧ W ≤ 40) (h2 : 1 ≤ H ∧ H ≤ 40) : 1 ≤ W * H ∧ W * H ≤ 1600 := by
 obtain ⟨a, b⟩ := h1
 obtain ⟨c, d⟩ := h2
 constructor
 ·have := Int.mul_le_mul a c (by omega) (by omega); omega
 ·have := Int.mul_le_mul b d (by omega) (by omega); omega
theorem made_loopM {W H : Int} (hW : 1 ≤ W ∧ W ≤ 40) (hH : 1 ≤ H ∧ H ≤ 40) (c : List Int) (hc : ∀ x ∈ c, 0 ≤ x ∧ x ≤ 255) (hcl : c.length ≤ 140737488355328) : ∀ (d k : Nat) (acc : List Int), (acc.length : Int) + d = W * H → d < k → (∀ x ∈ acc, 1 ≤ x ∧ x ≤ 255) →
  ∃ C, herdsmanref1_Made.l0 k c (acc.length : Int) W H acc = some (W, H, C) ∧ (C.length : Int) = W * H ∧ ∀ x ∈ C, 1 ≤ x ∧ x ≤ 255 := by
 have hm := mul_smallM hW hH
 intro d
 induction d with
 | zero =>
  intro k acc hl hk ha
  obtain ⟨k, rfl⟩ : ∃ m, k = m + 1 := ⟨k - 1, by omega⟩
  rw [herdsmanref1_Made.l0, w64 (n := W * H) (by omega) (by omega), if_neg (by omega)]
  exact ⟨acc, rfl, by omega, ha⟩
 | succ d ih =>
  intro k acc hl hk ha
  obtain ⟨k, rfl⟩ : ∃ m, k = m + 1 := ⟨k - 1, by omega⟩
  have hstep : ∀ r, 1 ≤ r ∧ r ≤ 255 → ∃ C, (if acc.length < 140737488355328 then (herdsmanref1_Made.l0 k c (wrap64 ((acc.length : Int) + 1)) W H (acc ++ [r])) else none) = some (W, H, C) ∧ (C.length : Int) = W * H ∧ ∀ x ∈ C, 1 ≤ x ∧ x ≤ 255 := by
   intro r hr
   rw [if_pos (by omega), w64 (by omega) (by omega)]
   have := ih k (acc ++ [r]) (by simp; omega) (by omega) (fun x hx => by
    rcases List.mem_append.1 hx with h | h
    ·exact ha x h
    ·rw [List.mem_singleton] at h; rw [h]; exact hr)
   simpa using this
  rw [herdsmanref1_Made.l0, w64 (n := W * H) (by omega) (by omega), if_pos (by omega)]
  by_cases h0 : 0 < c.length
  ·have hp := Int.ediv_nonneg (show 0 ≤ (acc.length : Int) by omega) (show 0 ≤ (c.length : Int) by omega)
   have hq := Int.ediv_le_self (c.length : Int) (show 0 ≤ (acc.length : Int) by omega)
   rw [if_pos (by omega), if_neg (by omega), tdiv_nn (by omega), w64 (n := (acc.length : Int) / c.length) (by omega) (by omega), w64 (n := (acc.length : Int) / c.length * 5) (by omega) (by omega), w64 (n := (acc.length : Int) + (acc.length : Int) / c.length * 5) (by omega) (by omega), tmod_nn (by omega)]
   have e0 := Int.emod_nonneg ((acc.length : Int) + (acc.length : Int) / c.length * 5) (show (c.length : Int) ≠ 0 by omega)
   have e1 := Int.emod_lt_of_pos ((acc.length : Int) + (acc.length : Int) / c.length * 5) (show 0 < (c.length : Int) by omega)
   generalize ((acc.length : Int) + (acc.length : Int) / c.length * 5) % c.length = j at *
   obtain ⟨j, rfl⟩ : ∃ n : Nat, j = (n : Int) := ⟨j.toNat, by omega⟩
   rw [if_pos e0, if_pos e1]
   have hj : j < c.length := by omega
   obtain ⟨r, hr, hr2⟩ := cost_some (hc (c[j]) (List.getElem_mem _))
   rw [rd_get c hj, hr, Option.bind_some]
   exact hstep r hr2
  ·rw [if_neg (by omega)]
   obtain ⟨r, hr, hr2⟩ := cost_some (a := 1) (by omega)
   rw [hr, Option.bind_some]
   exact hstep r hr2
theorem made_some (w h : Int) (c : List Int) (hc : ∀ x ∈ c, 0 ≤ x ∧ x ≤ 255) (hcl : c.length ≤ 140737488355328) : ∃ W H C, (∀ k, 2000 ≤ k → herdsmanref1_Made.f k w h c = some (W, H, C)) ∧ (1 ≤ W ∧ W ≤ 40) ∧ (1 ≤ H ∧ H ≤ 40) ∧ MapOk W H C := by
 have h1 := Int.emod_nonneg w (show (40 : Int) - 1 + 1 ≠ 0 by omega)
 have h2 := Int.emod_lt_of_pos w (show (0 : Int) < 40 - 1 + 1 by omega)
 have h3 := Int.emod_nonneg h (show (40 : Int) - 1 + 1 ≠ 0 by omega)
 have h4 := Int.emod_lt_of_pos h (show (0 : Int) < 40 - 1 + 1 by omega)
 have hW : 1 ≤ 1 + w % (40 - 1 + 1) ∧ 1 + w % (40 - 1 + 1) ≤ 40 := by omega
 have hH : 1 ≤ 1 + h % (40 - 1 + 1) ∧ 1 + h % (40 - 1 + 1) ≤ 40 := by omega
 have hm := mul_smallM hW hH
 obtain ⟨d, hd⟩ : ∃ d : Nat, (d : Int) = (1 + w % (40 - 1 + 1)) * (1 + h % (40 - 1 + 1)) := ⟨((1 + w % (40 - 1 + 1)) * (1 + h % (40 - 1 + 1))).toNat, by omega⟩
 obtain ⟨C, hC, hl, hb⟩ := made_loopM hW hH c hc hcl d 2000 [] (by rw [← hd]; simp) (by omega) (fun x hx => by simp at hx)
 refine ⟨_, _, C, fun k hk => ?_, hW, hH, ⟨⟨⟨hW.1, by omega⟩, hH.1, by omega⟩, hl, hb⟩⟩
 unfold herdsmanref1_Made.f
 rw [within_some w (by omega) (by omega) (by omega), within_some h (by omega) (by omega) (by omega), Option.bind_some, Option.bind_some]
 have hmono : ∀ n k, 2000 + n = k → herdsmanref1_Made.l0 k c 0 (1 + w % (40 - 1 + 1)) (1 + h % (40 - 1 + 1)) [] = some (1 + w % (40 - 1 + 1), 1 + h % (40 - 1 + 1), C) := by
  intro n
  induction n with
  | zero => rintro k rfl; exact hC
  | succ n ih => rintro k rfl; exact herdsmanref1_Made.mono_l (2000 + n) _ _ _ _ _ _ (ih _ rfl)
 exact hmono (k - 2000) k (by omega)
theorem rSectors {W H : Int} (h : Dim W H) : herdsmanref1_Sectors.f W H = some (acr W, acr H) := by
 have a := h.w
 have b := h.h
 unfold herdsmanref1_Sectors.f acr
 rw [refMay_some, Option.bind_some, decide_eq_true (by omega), if_pos rfl, w64 (n := W + 16) (by omega) (by omega), w64 (n := H + 16) (by omega) (by omega), show W + 16 - 1 = W + 15 by omega, show H + 16 - 1 = H + 15 by omega, w64 (n := W + 15) (by omega) (by omega), w64 (n := H + 15) (by omega) (by omega), tdiv_nn (by omega), tdiv_nn (by omega), w64 (by omega) (by omega), w64 (by omega) (by omega)]
theorem rCount {W H : Int} (h : Dim W H) : herdsmanref1_Count.f W H = some (cnt W H) := by
 have c := cnt_le h
 unfold herdsmanref1_Count.f
 rw [rSectors h, Option.bind_some]
 dsimp only
 rw [show acr W * acr H = cnt W H from rfl, w64 (by omega) (by omega)]
end Go.Proofs.YthgehdembghdaaaGreat.P
