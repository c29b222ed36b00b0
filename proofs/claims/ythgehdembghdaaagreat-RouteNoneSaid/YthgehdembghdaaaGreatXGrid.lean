/-
 WALKED BY HAND: the grid: Size, Cost, Epoch, Version, Edit, New; slices.Clone of bytes.
-/
import Derived.Test.YthgehdembghdaaaGreatJ10
import Derived.Test.YthgehdembghdaaaGreatXWhere
import Derived.Test.YthgehdembghdaaaGreatPx7
import Derived.Deep.QuietTactic
import Derived.BigQuiet
import Derived.Deep.DeepCutAuto
import Derived.Deep.LoopGhost
import Derived.Deep.CutBlock
import Derived.Deep.RegionHeld3
import Derived.Deep.RegionLaw
import Derived.StillTailTactics
namespace Go.Proofs.YthgehdembghdaaaGreat.P
open Go.RowKit Go.Proofs.YthgehdembghdaaaGreatW.PrintWords Go.Proofs.YthgehdembghdaaaGreatW.PrintLast Go.Proofs.YthgehdembghdaaaGreatW.PrintMore
open Go.Proofs.YthgehdembghdaaaGreat.Geo
set_option linter.unusedVariables false
set_option linter.unusedSimpArgs false
variable {w w' : World} {g : Gb} {s : GridS}
theorem GridM.cells (h : GridM w g s) : w.cell? ⟨g.gb, 0, none⟩ = some (.int .i64 s.W) ∧ w.cell? ⟨g.gb, 1, none⟩ = some (.int .i64 s.H) ∧ w.cell? ⟨g.gb, 2, none⟩ = some (.slice (some ⟨g.mb, 0, none⟩) s.C.length g.cm) ∧ w.cell? ⟨g.gb, 3, none⟩ = some (.int .i64 s.ep) ∧ w.cell? ⟨g.gb, 4, none⟩ = some (.slice (some ⟨g.vb, 0, none⟩) s.V.length g.cv) :=
 ⟨cell_blk h.blk rfl, cell_blk h.blk rfl, cell_blk h.blk rfl, cell_blk h.blk rfl, cell_blk h.blk rfl⟩
set_option maxHeartbeats 2000000 in
theorem gSize_calls (h : GridM w g s) : Calls Tryz.prog 87 #[.pointer (some ⟨g.gb, 0, none⟩)] w fun e w' => e = .returned (.tuple #[.int .i64 s.W, .int .i64 s.H]) ∧ Drawn0 w w' := by
 obtain ⟨c0, c1, _⟩ := h.cells
 clear h
 go_enter Tryz.func87, Tryz.ntmps87
 go_wp2
 go_quiet (fail)
 go_wp2
 go_ret2
 exact ⟨rfl, ⟨_, rfl⟩⟩
set_option maxHeartbeats 2000000 in
theorem gEpoch_calls (h : GridM w g s) : Calls Tryz.prog 52 #[.pointer (some ⟨g.gb, 0, none⟩)] w fun e w' => e = .returned (.int .i64 s.ep) ∧ w' = w := by
 obtain ⟨_, _, _, c3, _⟩ := h.cells
 clear h
 go_enter Tryz.func52, Tryz.ntmps52
 go_wp2
 go_ret
 exact ⟨rfl, rfl⟩
def costF (C : List Int) (c : Int) : Int := if 0 ≤ c ∧ c < C.length then rd C c else 0
set_option maxHeartbeats 2000000 in
theorem gCost_calls (h : GridM w g s) (c : Int) : Calls Tryz.prog 89 #[.pointer (some ⟨g.gb, 0, none⟩), .int .i64 c] w fun e w' => e = .returned (.int .i64 (costF s.C c)) ∧ w' = w := by
 obtain ⟨_, _, c2, _, _⟩ := h.cells
 have hl := h.clen
 unfold costF
 by_cases h0 : c < 0
 ·have d0 : decide (c < 0) = true := decide_eq_true h0
  rw [if_neg (by omega)]
  clear h
  go_enter Tryz.func89, Tryz.ntmps89
  go_wp2
  go_ret
  exact ⟨rfl, rfl⟩
 ·have d0 : decide (c < 0) = false := decide_eq_false h0
  obtain ⟨n, rfl⟩ : ∃ n : Nat, c = n := ⟨c.toNat, by omega⟩
  by_cases h1 : n < s.C.length
  ·have d1 : (n : Int) < (s.C.length : Int) := by omega
   obtain ⟨cc, _⟩ := h.cost h1
   have hb := rd_cost h.ok (c := (n : Int)) (by omega) (by omega)
   rw [if_pos ⟨by omega, d1⟩]
   obtain ⟨v, hv⟩ : ∃ v, v = rd s.C (n : Int) := ⟨_, rfl⟩
   rw [← hv] at cc hb ⊢
   have iw : IntKind.i64.wrap v = v := by rw [IntKind.wrap_i64]; omega
   clear h hv
   go_enter Tryz.func89, Tryz.ntmps89
   go_wp2
   go_ret
   exact ⟨by first | rfl | rw [iw], rfl⟩
  ·have d1 : (s.C.length : Int) ≤ (n : Int) := by omega
   rw [if_neg (by omega)]
   clear h
   go_enter Tryz.func89, Tryz.ntmps89
   go_wp2
   go_ret
   exact ⟨rfl, rfl⟩
set_option maxHeartbeats 2000000 in
theorem gVersion_calls (h : GridM w g s) {i : Nat} (hi : i < s.V.length) : Calls Tryz.prog 72 #[.pointer (some ⟨g.gb, 0, none⟩), .int .i64 i] w fun e w' => e = .returned (.int .i64 (rd s.V (i : Int))) ∧ w' = w := by
 obtain ⟨_, _, _, _, c4⟩ := h.cells
 have hl := cnt_le h.ok.dim
 have hv := h.vlen
 have d1 : (i : Int) < (s.V.length : Int) := by omega
 obtain ⟨cc, _⟩ := h.ver hi
 clear h
 go_enter Tryz.func72, Tryz.ntmps72
 go_wp2
 go_ret
 exact ⟨rfl, rfl⟩
end Go.Proofs.YthgehdembghdaaaGreat.P
