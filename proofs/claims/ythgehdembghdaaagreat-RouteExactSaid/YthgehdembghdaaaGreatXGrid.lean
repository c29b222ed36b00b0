/-
 WALKED BY HAND: the grid: Size, Cost, Epoch, Version, Edit, New; slices.Clone of bytes.
-/
import Derived.Test.YthgehdembghdaaaGreatJ11
import Derived.Test.YthgehdembghdaaaGreatXWhere
import Derived.Test.YthgehdembghdaaaGreatPx7
import Derived.Deep.QuietTactic
import Derived.BigQuiet
import Derived.Deep.DeepCutAuto
import Derived.Deep.LoopGhost
import Derived.Deep.CutBlock
import Derived.Deep.RegionHeld3
import Derived.Deep.RegionLaw
import Derived.StillTailTactics
namespace Go.Proofs.YthgehdembghdaaaGreat.P
open Go.RowKit Go.Proofs.YthgehdembghdaaaGreatW.PrintWords Go.Proofs.YthgehdembghdaaaGreatW.PrintLast Go.Proofs.YthgehdembghdaaaGreatW.PrintMore
open Go.Proofs.YthgehdembghdaaaGreat.Geo
set_option linter.unusedVariables false
set_option linter.unusedSimpArgs false
variable {w w' : World} {g : Gb} {s : GridS}
theorem GridM.cells (h : GridM w g s) : w.cell? ⟨g.gb, 0, none⟩ = some (.int .i64 s.W) ∧ w.cell? ⟨g.gb, 1, none⟩ = some (.int .i64 s.H) ∧ w.cell? ⟨g.gb, 2, none⟩ = some (.slice (some ⟨g.mb, 0, none⟩) s.C.length g.cm) ∧ w.cell? ⟨g.gb, 3, none⟩ = some (.int .i64 s.ep) ∧ w.cell? ⟨g.gb, 4, none⟩ = some (.slice (some ⟨g.vb, 0, none⟩) s.V.length g.cv) :=
 ⟨cell_blk h.blk rfl, cell_blk h.blk rfl, cell_blk h.blk rfl, cell_blk h.blk rfl, cell_blk h.blk rfl⟩
set_option maxHeartbeats 2000000 in
theorem gSize_calls (h : GridM w g s) : Calls Tryz.prog 87 #[.pointer (some ⟨g.gb, 0, none⟩)] w fun e w' => e = .returned (.tuple #[.int .i64 s.W, .int .i64 s.H]) ∧ Drawn0 w w' := by
 obtain ⟨c0, c1, _⟩ := h.cells
 clear h
 go_enter Tryz.func87, Tryz.ntmps87
 go_wp2
 go_quiet (fail)
 go_wp2
 go_ret2
 exact ⟨rfl, ⟨_, rfl⟩⟩
set_option maxHeartbeats 2000000 in
theorem gEpoch_calls (h : GridM w g s) : Calls Tryz.prog 52 #[.pointer (some ⟨g.gb, 0, none⟩)] w fun e w' => e = .returned (.int .i64 s.ep) ∧ w' = w := by
 obtain ⟨_, _, _, c3, _⟩ := h.cells
 clear h
 go_enter Tryz.func52, Tryz.ntmps52
 go_wp2
 go_ret
 exact ⟨rfl, rfl⟩
def costF (C : List Int) (c : Int) : Int := if 0 ≤ c ∧ c < C.length then rd C c else 0
set_option maxHeartbeats 2000000 in
theorem gCost_calls (h : GridM w g s) (c : Int) : Calls Tryz.prog 89 #[.pointer (some ⟨g.gb, 0, none⟩), .int .i64 c] w fun e w' => e = .returned (.int .i64 (costF s.C c)) ∧ w' = w := by
 obtain ⟨_, _, c2, _, _⟩ := h.cells
 have hl := h.clen
 unfold costF
 by_cases h0 : c < 0
 ·have d0 : decide (c < 0) = true := decide_eq_true h0
  rw [if_neg (by omega)]
  clear h
  go_enter Tryz.func89, Tryz.ntmps89
  go_wp2
  go_ret
  exact ⟨rfl, rfl⟩
 ·have d0 : decide (c < 0) = false := decide_eq_false h0
  obtain ⟨n, rfl⟩ : ∃ n : Nat, c = n := ⟨c.toNat, by omega⟩
  by_cases h1 : n < s.C.length
  ·have d1 : (n : Int) < (s.C.length : Int) := by omega
   obtain ⟨cc, _⟩ := h.cost h1
   have hb := rd_cost h.ok (c := (n : Int)) (by omega) (by omega)
   rw [if_pos ⟨by omega, d1⟩]
   obtain ⟨v, hv⟩ : ∃ v, v = rd s.C (n : Int) := ⟨_, rfl⟩
   rw [← hv] at cc hb ⊢
   have iw : IntKind.i64.wrap v = v := by rw [IntKind.wrap_i64]; omega
   clear h hv
   go_enter Tryz.func89, Tryz.ntmps89
   go_wp2
   go_ret
   exact ⟨by first | rfl | rw [iw], rfl⟩
  ·have d1 : (s.C.length : Int) ≤ (n : Int) := by omega
   rw [if_neg (by omega)]
   clear h
   go_enter Tryz.func89, Tryz.ntmps89
   go_wp2
   go_ret
   exact ⟨rfl, rfl⟩
set_option maxHeartbeats 2000000 in
theorem gVersion_calls (h : GridM w g s) {i : Nat} (hi : i < s.V.length) : Calls Tryz.prog 72 #[.pointer (some ⟨g.gb, 0, none⟩), .int .i64 i] w fun e w' => e = .returned (.int .i64 (rd s.V (i : Int))) ∧ w' = w := by
 obtain ⟨_, _, _, _, c4⟩ := h.cells
 have hl := cnt_le h.ok.dim
 have hv := h.vlen
 have d1 : (i : Int) < (s.V.length : Int) := by omega
 obtain ⟨cc, _⟩ := h.ver hi
 clear h
 go_enter Tryz.func72, Tryz.ntmps72
 go_wp2
 go_ret
 exact ⟨rfl, rfl⟩
set_option maxHeartbeats 4000000 in
theorem gEdit_calls (h : GridM w g s) {c : Nat} (hc : c < s.C.length) {x : Int} (hx : 1 ≤ x ∧ x ≤ 255) (he : s.ep + 1 ≤ 1000000000) : Calls Tryz.prog 20 #[.pointer (some ⟨g.gb, 0, none⟩), .int .i64 c, .int .i64 x] w fun e w' => e = .returned (.int .i64 0) ∧ GridM w' g { s with C := s.C.set c x, ep := s.ep + 1, V := s.V.set (sec s.W (c : Int)).toNat (s.ep + 1) } ∧ Chg g.own w w' := by
 obtain ⟨c0, c1, c2, c3, c4⟩ := h.cells
 obtain ⟨n1, n2, n3⟩ := h.ne
 have hl := h.clen
 have hep := h.ep
 have hr := sec_rng h.ok.dim (c := (c : Int)) (by omega) (by omega)
 have hv := h.vlen
 obtain ⟨i, hi⟩ : ∃ i : Nat, (i : Int) = sec s.W (c : Int) := ⟨(sec s.W (c : Int)).toNat, by omega⟩
 have hw : where_Sector.f s.W s.H (c : Int) = some (i : Int) := by rw [wSector h.ok.dim, if_pos (by omega), hi]
 have hil : i < s.V.length := by omega
 have hfin : ∀ q, GridM (World.setCell ((((w.setCell ⟨g.mb, c, none⟩ (.int .u8 x)).setCell ⟨g.gb, 3, none⟩ (.int .i64 (s.ep + 1)))).drewN q) ⟨g.vb, i, none⟩ (.int .i64 (s.ep + 1))) g { s with C := s.C.set c x, ep := s.ep + 1, V := s.V.set (sec s.W (c : Int)).toNat (s.ep + 1) } ∧ Chg g.own w (World.setCell ((((w.setCell ⟨g.mb, c, none⟩ (.int .u8 x)).setCell ⟨g.gb, 3, none⟩ (.int .i64 (s.ep + 1)))).drewN q) ⟨g.vb, i, none⟩ (.int .i64 (s.ep + 1))) := fun q => by
  have e : World.setCell ((((w.setCell ⟨g.mb, c, none⟩ (.int .u8 x)).setCell ⟨g.gb, 3, none⟩ (.int .i64 (s.ep + 1)))).drewN q) ⟨g.vb, i, none⟩ (.int .i64 (s.ep + 1)) = ((((w.setCell ⟨g.mb, c, none⟩ (.int .u8 x)).setCell ⟨g.gb, 3, none⟩ (.int .i64 (s.ep + 1))).setCell ⟨g.vb, i, none⟩ (.int .i64 (s.ep + 1)))).drewN q := rfl
  rw [← hi, Int.toNat_natCast, e]
  exact ⟨(h.edit (c := c) (i := i) hx he).below (pw_below_drewN (Below.refl _ _) q), (edit_chg w _ _ _ c i).trans (Chg.of_below (pw_below_drewN (Below.refl _ _) q) g.own)⟩
 have HF := Aside0.mk hfin
 have HW := Aside0.mk hw
 have d0 : (c : Int) < (s.C.length : Int) := by omega
 have d1 : (i : Int) < (s.V.length : Int) := by omega
 have d1c : (i : Int) < cnt s.W s.H := by have := h.vlen; omega
 obtain ⟨cc, cf⟩ := h.cost hc
 obtain ⟨vc, vf⟩ := h.ver hil
 have iw : IntKind.u8.wrap x = x := by rw [IntKind.wrap_u8]; omega
 have b1 := blk_far h.blk (p := ⟨g.mb, c, none⟩) n1 (.int .u8 x)
 have b2 := set_blk b1 3 (.int .i64 (s.ep + 1))
 have v2 := (cfarN (w := w.setCell ⟨g.mb, c, none⟩ (.int .u8 x)) (p := ⟨g.gb, 3, none⟩) (a := ⟨g.vb, i, none⟩) (fun e => n2 e.symm) (.int .i64 (s.ep + 1))).trans ((cfarN (w := w) (p := ⟨g.mb, c, none⟩) (a := ⟨g.vb, i, none⟩) (fun e => n3 e.symm) (.int .u8 x)).trans vc)
 obtain ⟨vcs, hvb⟩ := h.typV
 have f2 := free_blk (blk_far (blk_far hvb (p := ⟨g.mb, c, none⟩) (fun e => n3 e.symm) (.int .u8 x)) (p := ⟨g.gb, 3, none⟩) (fun e => n2 e.symm) (.int .i64 (s.ep + 1))) i
 have B1 := Aside0.mk b1
 have B2 := Aside0.mk b2
 have V2 := Aside0.mk (And.intro v2 f2)
 clear h hfin hw hr hi vc vf b1 b2 v2 f2 hvb
 go_enter Tryz.func20, Tryz.ntmps20
 go_upto_region 8 with (fail)
 obtain ⟨w1, hw1⟩ : ∃ w1, w1 = w.setCell ⟨g.mb, c, none⟩ (.int .u8 x) := ⟨_, rfl⟩
 rw [← hw1] at B1 B2 V2 HF ⊢
 clear c0 c1 c2 c3 c4 cc cf hw1
 have c3 := cell_blk (j := 3) (u := .int .i64 s.ep) B1.out rfl
 have f3 := free_blk B1.out 3
 go_upto_region 9 with (fail)
 obtain ⟨w2, hw2⟩ : ∃ w2, w2 = w1.setCell ⟨g.gb, 3, none⟩ (.int .i64 (s.ep + 1)) := ⟨_, rfl⟩
 rw [← hw2] at B2 V2 HF ⊢
 clear c3 f3 hw2 B1
 have c0 := cell_blk (j := 0) (u := .int .i64 s.W) B2.out rfl
 have c1 := cell_blk (j := 1) (u := .int .i64 s.H) B2.out rfl
 have c3 := cell_blk (j := 3) (u := .int .i64 (s.ep + 1)) B2.out rfl
 have c4 := cell_blk (j := 4) (u := .slice (some ⟨g.vb, 0, none⟩) s.V.length g.cv) B2.out rfl
 obtain ⟨vc, vf⟩ := V2.out
 have e1 : (0 : Int) ≤ (i : Int) := by omega
 go_region_held3 (fun w' => w'.cell? ⟨g.gb, 0, none⟩ = some (.int .i64 s.W) ∧ w'.cell? ⟨g.gb, 1, none⟩ = some (.int .i64 s.H) ∧ w'.cell? ⟨g.gb, 3, none⟩ = some (.int .i64 (s.ep + 1)) ∧ w'.cell? ⟨g.gb, 4, none⟩ = some (.slice (some ⟨g.vb, 0, none⟩) s.V.length g.cv)) (first | exact ⟨c0, c1, c3, c4⟩ | exact ⟨(cfarN n2 _).trans c0, (cfarN n2 _).trans c1, (cfarN n2 _).trans c3, (cfarN n2 _).trans c4⟩ | go_keep) ((go_at_call 21; refine (where_Sector.calls _ _ _ _ _ HW.out).mono ?_; rintro e w3 ⟨rfl, ⟨q, rfl⟩⟩))
 go_wp2
 go_ret
 exact ⟨rfl, HF.out _⟩
end Go.Proofs.YthgehdembghdaaaGreat.P
