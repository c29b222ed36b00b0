/-
 WALKED BY HAND: herdsmanlaw14.built.
-/
import Derived.Test.YthgehdembghdaaaGreatXMesh4
import Derived.Test.YthgehdembghdaaaGreatXMade
namespace Go.Proofs.YthgehdembghdaaaGreat.P
open Go.RowKit Go.Proofs.YthgehdembghdaaaGreatW.PrintWords Go.Proofs.YthgehdembghdaaaGreatW.PrintLast Go.Proofs.YthgehdembghdaaaGreatW.PrintMore
open Go.Proofs.YthgehdembghdaaaGreat.Geo Go.Proofs.YthgehdembghdaaaGreat.Dist
set_option linter.unusedVariables false
set_option linter.unusedSimpArgs false
variable {w w' : World} {g : Gb} {s : GridS} {m : Mb} {x : MeshS}
def grid0 (W H : Int) (C : List Int) : GridS := ⟨W, H, C, 1, List.replicate (cnt W H).toNat 1⟩
def mesh0 (W H : Int) : MeshS := ⟨List.replicate (cnt W H).toNat default, 0, 0⟩
abbrev mapV (W H : Int) (C : List Int) (mb cb : Nat) : Value := .agg #[.int .i64 W, .int .i64 H, .slice (some ⟨mb, 0, none⟩) C.length cb]
structure BuiltR (w w' : World) (W H : Int) (C : List Int) (mb cb : Nat) (g : Gb) (m : Mb) : Prop where
 net : Net w' g m (grid0 W H C) (mesh0 W H)
 row : Kd.R (Kd.int .u8) 5 w' w.heap.size (fun _ => True) (.slice (some ⟨mb, 0, none⟩) C.length cb) C
 le : C.length ≤ cb
 apart : ∀ b, own2 g m b → w.heap.size ≤ b ∧ b ≠ mb
 below : Below w.heap.size w w'
set_option maxRecDepth 100000 in
set_option maxHeartbeats 4000000 in
theorem built_calls (w0 h0 : Int) (A2 : Option Addr) (c2 : Nat) (l2 : List Int) (w : World) (hr : Kd.C (Kd.int .u8) w A2 l2.length l2) (hc2 : l2.length ≤ c2) {W H : Int} {C : List Int} (hm : herdsmanref1_Made.f 2000 w0 h0 l2 = some (W, H, C)) (hok : MapOk W H C) :
  Calls Tryz.prog 17 #[.int .i64 w0, .int .i64 h0, .slice A2 l2.length c2] w fun e w' => ∃ (mb cb : Nat) (g : Gb) (m : Mb), e = .returned (.tuple #[mapV W H C mb cb, .pointer (some ⟨g.gb, 0, none⟩), .pointer (some ⟨m.xb, 0, none⟩)]) ∧ BuiltR w w' W H C mb cb g m := by
 have HR := Aside0.mk hr
 have HC2 := Aside0.mk hc2
 have HMD := Aside0.mk hm
 have HOK := Aside0.mk hok
 have HPOS : Aside0 (0 < C.length) := ⟨by have := HOK.out.len; have := wh_le HOK.out.dim; omega⟩
 clear hr hc2 hm hok
 go_enter Tryz.func17, Tryz.ntmps17
 go_upto_region 2 with (first
  | ((with_reducible refine gate_dst (N := 6) rfl ?_); refine box_event ?hg (N := 6) ?hd (cs := #[.int .i64 0, .int .i64 0, .slice none 0 0]) (t := 26) ?hr ?_; (case hd => rfl); (case hg => rfl); (case hr => first | (go_simp; done) | (go_simp; rfl)); intro b6 hg w1 hbox hb; have HX1 := Aside0.mk hbox; have HB1 := Aside0.mk hb; have HG1 := Aside0.mk hg; clear hbox hb hg)
  | (go_at_call 38; refine (herdsmanref1_Made.calls 2000 w0 h0 A2 c2 l2 W H C _ (Kd.C_below HR.out HB1.out) HC2.out HMD.out).mono ?_; rintro e w2 ⟨v2, rfl, ho, hb⟩; obtain ⟨mb, cb, rfl, hmb, hml, hmt⟩ := Kd.R_form ho HPOS.out; have HO2 := Aside0.mk ho; have HMB := Aside0.mk (And.intro hmb hml); have HB2 := Aside0.mk (below_step HB1.out hb); have HX2 := Aside0.mk (blk_step HX1.out hb); have HS2 := Aside0.mk hb.size; clear ho hb hmb hml hmt)
  | ((with_reducible refine gate_dst (N := 9) rfl ?_); refine box_event ?hg (N := 9) ?hd (cs := #[.int .i64 0, .int .i64 0, .slice none 0 0]) (t := 26) ?hr ?_; (case hd => rfl); (case hg => rfl); (case hr => first | (go_simp; done) | (go_simp; rfl)); intro b9 hg w3 hbox hb; have z0 : w3.cell? ⟨b9, 0, none⟩ = _ := cell_blk hbox rfl; have z1 : w3.cell? ⟨b9, 1, none⟩ = _ := cell_blk hbox rfl; have z2 : w3.cell? ⟨b9, 2, none⟩ = _ := cell_blk hbox rfl; have f0 := free_blk hbox 0; have f1 := free_blk hbox 1; have f2 := free_blk hbox 2; have HX3 := Aside0.mk hbox; have HB3 := Aside0.mk hb; have HG3 := Aside0.mk hg; clear hbox hb hg))
 obtain ⟨w4, hw4⟩ : ∃ w4, w4 = (((w3.setCell ⟨b9, 0, none⟩ (.int .i64 W)).setCell ⟨b9, 1, none⟩ (.int .i64 H)).setCell ⟨b9, 2, none⟩ (.slice (some ⟨mb, 0, none⟩) C.length cb)) := ⟨_, rfl⟩
 rw [← hw4]
 have h9 : w2.heap.size = b9 := HG3.out.symm
 have h6 : w.heap.size = b6 := HG1.out.symm
 have hs1 := HB1.out.size
 have hs2 := HS2.out
 have hl9 : w.heap.size ≤ b9 := by omega
 have hX4 : w4.heap[b9]? = some (.cells #[.int .i64 W, .int .i64 H, .slice (some ⟨mb, 0, none⟩) C.length cb] 26 (0, 0)) := by rw [hw4]; exact set_blk (set_blk (set_blk HX3.out 0 _) 1 _) 2 _
 have hne : b6 ≠ b9 := by have := blk_lt HX2.out; omega
 have hX6 : w4.heap[b6]? = some (.cells #[.int .i64 0, .int .i64 0, .slice none 0 0] 26 (0, 0)) := by rw [hw4]; exact blk_far (blk_far (blk_far (blk_step HX2.out HB3.out) (p := ⟨b9, 0, none⟩) hne _) (p := ⟨b9, 1, none⟩) hne _) (p := ⟨b9, 2, none⟩) hne _
 have hO4 : Kd.R (Kd.int .u8) 5 w4 w.heap.size (fun _ => True) (.slice (some ⟨mb, 0, none⟩) C.length cb) C := by
  rw [hw4]
  have h3 := Kd.R_lower (Kd.R_below HO2.out HB3.out) hs1
  exact R_setN (R_setN (R_setN h3 HX3.out (by decide) 0 _) (set_blk HX3.out 0 _) (by decide) 1 _) (set_blk (set_blk HX3.out 0 _) 1 _) (by decide) 2 _
 have hB4 : Below w.heap.size w w4 := by
  rw [hw4]
  exact (((below_step HB2.out HB3.out).setCell hl9 _).setCell hl9 _).setCell hl9 _
 have hmlt : mb < w4.heap.size := by
  obtain ⟨cs, hcs⟩ := Kd.R_typed hO4 mb rfl
  exact blk_lt hcs
 have HX4 := Aside0.mk hX4
 have HX6b := Aside0.mk hX6
 have HX6 := Aside0.mk hX6
 have HO4 := Aside0.mk hO4
 have HB4 := Aside0.mk hB4
 have HLT := Aside0.mk (And.intro hmlt (show w.heap.size ≤ b6 by omega))
 have t0 := cell_blk (j := 0) (u := .int .i64 W) hX4 rfl
 have t1 := cell_blk (j := 1) (u := .int .i64 H) hX4 rfl
 have t2 := cell_blk (j := 2) (u := .slice (some ⟨mb, 0, none⟩) C.length cb) hX4 rfl
 clear hw4 h9 h6 hs1 hs2 hl9 hX4 hX6 hne hO4 hB4 hmlt z0 z1 z2 f0 f1 f2 HX3 HB3 HG3 HX2 HO2 HMB HB2 HS2 HX1 HB1 HG1
 go_upto_region 3 with (go_at_call 39; refine (gNew_calls HOK.out ⟨mb, 0, none⟩ cb _ (Kd.R_reads' HO4.out).2.2 (Kd.R_reads' HO4.out).2.1).mono ?_; rintro e w5 ⟨g, rfl, hg, hb, hlow⟩; have HG5 := Aside0.mk hg; have HB5 := Aside0.mk hb; have HLG := Aside0.mk hlow; have HX5 := Aside0.mk (blk_step HX4.out hb); have HX65 := Aside0.mk (blk_step HX6.out hb); have HO5 := Aside0.mk (Kd.R_below HO4.out hb); clear hg hb hlow t0 t1 t2)
 go_upto_region 4 with (go_at_call 37; refine (mNew_calls HG5.out).mono ?_; rintro e w6 ⟨m, rfl, hn, hb, hlow⟩; have HN6 := Aside0.mk hn; have HB6 := Aside0.mk hb; have HLM := Aside0.mk hlow; have HX7 := Aside0.mk (blk_step HX5.out hb); have HX67 := Aside0.mk (blk_step HX65.out hb); have HO6 := Aside0.mk (Kd.R_below HO5.out hb); clear hn hb hlow)
 clear HX4 HX6 HO4 HX5 HX65 HO5
 have t0 := cell_blk (j := 0) (u := .int .i64 W) HX7.out rfl
 have t1 := cell_blk (j := 1) (u := .int .i64 H) HX7.out rfl
 have t2 := cell_blk (j := 2) (u := .slice (some ⟨mb, 0, none⟩) C.length cb) HX7.out rfl
 have o0 := cell_blk (j := 0) (u := .int .i64 0) HX67.out rfl
 have o1 := cell_blk (j := 1) (u := .int .i64 0) HX67.out rfl
 have o2 := cell_blk (j := 2) (u := .slice none 0 0) HX67.out rfl
 have p0 := free_blk HX67.out 0
 have p1 := free_blk HX67.out 1
 have p2 := free_blk HX67.out 2
 go_wp2_with fail
 have x0 := set_blk HX67.out 0 (.int .i64 W)
 have x1 := set_blk x0 1 (.int .i64 H)
 have x2 := set_blk x1 2 (.slice (some ⟨mb, 0, none⟩) C.length cb)
 refine bodyPost_ret (results_ctt rfl _ _ b6 26 #[.int .i64 W, .int .i64 H, .slice (some ⟨mb, 0, none⟩) C.length cb] (0, 0) _ rfl x2 Tryz.underlying26 rfl (by kernel_rfl)) rfl ?_
 have hs5 := HB5.out.size
 have hs4 := HB4.out.size
 have hlt := HLT.out
 have hown : ∀ b, own2 g m b → w4.heap.size ≤ b := fun b hb => hb.elim (HLG.out b) (fun q => Nat.le_trans hs5 (HLM.out b q))
 have h6lt : b6 < w4.heap.size := blk_lt HX6b.out
 have hc : Chg (fun b => b = b6) w6 (((w6.setCell ⟨b6, 0, none⟩ (.int .i64 W)).setCell ⟨b6, 1, none⟩ (.int .i64 H)).setCell ⟨b6, 2, none⟩ (.slice (some ⟨mb, 0, none⟩) C.length cb)) := (((Chg.refl (fun b => b = b6) w6).set_ (.inl rfl) _).set_ (.inl rfl) _).set_ (.inl rfl) _
 have hod : OddN w6 (fun b => b = b6) := by
  rintro k rfl cs
  exact ⟨typ_ne HX67.out (by decide), typ_ne HX67.out (by decide)⟩
 refine ⟨mb, cb, g, m, rfl, ⟨HN6.out.chg hc (fun b hb e => by have := hown b hb; omega) hod, R_setN (R_setN (R_setN HO6.out HX67.out (by decide) 0 _) x0 (by decide) 1 _) x1 (by decide) 2 _, (Kd.R_reads' HO6.out).2.1, fun b hb => ⟨by have := hown b hb; omega, fun e => by have := hown b hb; omega⟩, ?_⟩⟩
 exact (((below_step (below_step HB4.out (HB5.out)) (HB6.out)).setCell hlt.2 _).setCell hlt.2 _).setCell hlt.2 _
end Go.Proofs.YthgehdembghdaaaGreat.P
