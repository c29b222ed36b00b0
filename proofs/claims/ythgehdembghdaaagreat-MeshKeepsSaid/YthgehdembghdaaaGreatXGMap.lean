/-
 WALKED BY HAND: the grid: Map.
-/
import Derived.Test.YthgehdembghdaaaGreatXGTile
import Derived.Test.YthgehdembghdaaaGreatXGrid2
namespace Go.Proofs.YthgehdembghdaaaGreat.P
open Go.RowKit Go.Proofs.YthgehdembghdaaaGreatW.PrintWords Go.Proofs.YthgehdembghdaaaGreatW.PrintLast Go.Proofs.YthgehdembghdaaaGreatW.PrintMore
open Go.Proofs.YthgehdembghdaaaGreat.Geo
set_option linter.unusedVariables false
set_option linter.unusedSimpArgs false
variable {w w' : World} {g : Gb} {s : GridS}
set_option maxRecDepth 100000 in
set_option maxHeartbeats 4000000 in
theorem gMap_calls (h : GridM w g s) : Calls Tryz.prog 33 #[.pointer (some ⟨g.gb, 0, none⟩)] w fun e w' => ∃ v, e = .returned (.agg #[.int .i64 s.W, .int .i64 s.H, v]) ∧ Kd.R (Kd.int .u8) 5 w' w.heap.size (fun _ => True) v s.C ∧ Below w.heap.size w w' := by
 have hu26 := Tryz.underlying26
 have HG := Aside0.mk h
 obtain ⟨k0, k1, k2, _, _⟩ := h.cells
 have HCL := Aside0.mk h.clen.1
 clear h
 go_enter Tryz.func33, Tryz.ntmps33
 go_upto_region 3 with ((with_reducible refine gate_dst (N := 2) rfl ?_); refine box_event ?hg (N := 2) ?hd (cs := #[.int .i64 0, .int .i64 0, .slice none 0 0]) (t := 26) ?hr ?_; (case hd => rfl); (case hg => rfl); (case hr => first | (go_simp; done) | (go_simp; rfl)); intro b2 hg w1 hbox hb; have HX1 := Aside0.mk hbox; have HB1 := Aside0.mk hb; have HG1 := Aside0.mk hg; clear hbox hb hg)
 have HM1 := Aside0.mk (HG.out.below HB1.out)
 have HMD := Aside0.mk (HM1.out.below (below_drew1 (Below.refl _ _)))
 have HNE : Aside0 (g.gb ≠ b2) := ⟨blk_ne HM1.out.blk HX1.out (by decide)⟩
 have HCN := Aside0.mk (cloneB_calls ⟨g.mb, 0, none⟩ g.cm s.C w1.drew (Kd.R_reads' HMD.out.map).2.2 HCL.out)
 clear k0 k1 k2
 obtain ⟨k0, k1, k2, _, _⟩ := HM1.out.cells
 have x0 := cell_blk (j := 0) (u := .int .i64 0) HX1.out rfl
 have x1 := cell_blk (j := 1) (u := .int .i64 0) HX1.out rfl
 have x2 := cell_blk (j := 2) (u := .slice none 0 0) HX1.out rfl
 go_region_held3 (fun w' => w'.cell? ⟨g.gb, 0, none⟩ = some (.int .i64 s.W) ∧ w'.cell? ⟨g.gb, 1, none⟩ = some (.int .i64 s.H) ∧ w'.cell? ⟨g.gb, 2, none⟩ = some (.slice (some ⟨g.mb, 0, none⟩) s.C.length g.cm)) (first | exact ⟨k0, k1, k2⟩ | exact ⟨q0, q1, q2⟩ | exact ⟨(cfarN HNE.out _).trans ((cfarN HNE.out _).trans ((cfarN HNE.out _).trans q0)), (cfarN HNE.out _).trans ((cfarN HNE.out _).trans ((cfarN HNE.out _).trans q1)), (cfarN HNE.out _).trans ((cfarN HNE.out _).trans ((cfarN HNE.out _).trans q2))⟩ | go_keep)
  ((go_at_call 86; refine HCN.out.mono ?_; rintro e w3 ⟨v3, rfl, ho, hb⟩; obtain ⟨A3, n3, rfl⟩ := Kd.R_slice ho; have q0 := pw_cell_below hb k0; have q1 := pw_cell_below hb k1; have q2 := pw_cell_below hb k2; have hx := blk_step (w := w1.drew) HX1.out hb; have y0 := cell_blk (j := 0) (u := .int .i64 0) hx rfl; have y1 := cell_blk (j := 1) (u := .int .i64 0) hx rfl; have y2 := cell_blk (j := 2) (u := .slice none 0 0) hx rfl; have f0 := free_blk hx 0; have f1 := free_blk hx 1; have f2 := free_blk hx 2; have HX3 := Aside0.mk hx; have HO3 := Aside0.mk ho; have HB3 := Aside0.mk (below_step (below_drew1 (Below.refl w1.heap.size w1)) hb); clear ho hb hx))
 go_wp2_with fail
 have x0 := set_blk HX3.out 0 (.int .i64 s.W)
 have x1 := set_blk x0 1 (.int .i64 s.H)
 have x2 := set_blk x1 2 (.slice A3 s.C.length n3)
 refine bodyPost_ret (results_cell_row rfl _ _ b2 26 #[.int .i64 s.W, .int .i64 s.H, .slice A3 s.C.length n3] (0, 0) _ rfl x2 Tryz.underlying26 rfl (by kernel_rfl)) rfl ?_
 have hl : w.heap.size ≤ b2 := by rw [HG1.out]; exact Nat.le_refl _
 exact ⟨_, rfl, R_setN (R_setN (R_setN (Kd.R_lower HO3.out HB1.out.size) HX3.out (by decide) 0 _) x0 (by decide) 1 _) x1 (by decide) 2 _, (((below_step HB1.out HB3.out).setCell hl _).setCell hl _).setCell hl _⟩
end Go.Proofs.YthgehdembghdaaaGreat.P
