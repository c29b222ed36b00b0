/-
 WALKED BY HAND: herdsmanlaw14.told.
-/
import Derived.Test.YthgehdembghdaaaGreatXBuilt
import Derived.Test.YthgehdembghdaaaGreatXLawS
namespace Go.Proofs.YthgehdembghdaaaGreat.P
open Go.RowKit Go.Proofs.YthgehdembghdaaaGreatW.PrintWords Go.Proofs.YthgehdembghdaaaGreatW.PrintLast Go.Proofs.YthgehdembghdaaaGreatW.PrintMore
open Go.Proofs.YthgehdembghdaaaGreat.Geo Go.Proofs.YthgehdembghdaaaGreat.Dist
set_option linter.unusedVariables false
set_option linter.unusedSimpArgs false
variable {w w' : World} {g : Gb} {s : GridS} {m : Mb} {x : MeshS}
def ones17 : List Int := List.replicate 17 1
def s17 : GridS := grid0 17 1 ones17
def e17 : GridS := { s17 with C := s17.C.set 3 2, ep := s17.ep + 1, V := s17.V.set (sec s17.W ((3 : Nat) : Int)).toNat (s17.ep + 1) }
theorem ok17 : MapOk 17 1 ones17 := ⟨⟨by decide, by decide⟩, by decide, fun y hy => by rw [ones17, List.mem_replicate] at hy; omega⟩
theorem nodes17 : nodesL 17 1 ones17 1 = [16] := by decide
theorem dirty17 : dirtyL s17 (mesh0 17 1) (mesh0 17 1).ps.length = [0, 1] := by decide
theorem mesh17 : (mesh0 17 1).ps.length = 2 := by decide
theorem reb17 {x' : MeshS} (h : RebR s17 (mesh0 17 1) x') : x'.ps.length = 2 ∧ x'.clean = 1 ∧ dirtyL s17 x' 2 = [] ∧ x'.cnt = 2 ∧ (x'.ps.getD 1 default).nodes = [16] ∧ (x'.ps.getD 0 default).ver = 1 ∧ (x'.ps.getD 1 default).ver = 1 := by
 have hl := h.len.trans mesh17
 have a0 := h.new 0 (by rw [mesh17]; omega) (by decide)
 have a1 := h.new 1 (by rw [mesh17]; omega) (by decide)
 have h0 : (x'.ps.getD 0 default).ver = 1 := by rw [a0.1]; decide
 have h1 : (x'.ps.getD 1 default).ver = 1 := by rw [a1.1]; decide
 refine ⟨hl, h.clean, ?_, ?_, by rw [a1.2.nodes]; exact nodes17, h0, h1⟩
 ·apply List.eq_nil_iff_forall_not_mem.2
  intro c hc
  obtain ⟨i, hi, hd, _⟩ := mem_dirty.1 hc
  apply hd
  have : i = 0 ∨ i = 1 := by omega
  rcases this with rfl | rfl
  ·rw [h0]; decide
  ·rw [h1]; decide
 ·rw [h.cnt, dirty17]; decide
theorem reb17' {x' x2 : MeshS} (h : RebR s17 (mesh0 17 1) x') (h2 : RebR s17 x' x2) : x2.ps.length = 2 ∧ x2.clean = 1 ∧ dirtyL e17 x2 2 = [0] ∧ (x2.ps.getD 1 default).nodes = [16] := by
 obtain ⟨a, b, c, d, e, f, g⟩ := reb17 h
 have hn : ∀ i : Nat, i < 2 → ¬ dirtyI s17 x' i := fun i hi hd => by
  have := mem_dirty.2 ⟨i, hi, hd, rfl⟩
  rw [c] at this
  cases this
 have o0 := h2.old 0 (by omega) (hn 0 (by omega))
 have o1 := h2.old 1 (by omega) (hn 1 (by omega))
 refine ⟨h2.len.trans a, h2.clean, ?_, by rw [o1]; exact e⟩
 have q0 : dirtyI e17 x2 0 := by unfold dirtyI; rw [o0, f]; decide
 have q1 : ¬ dirtyI e17 x2 1 := by unfold dirtyI; rw [o1, g]; decide
 unfold dirtyL
 rw [show List.range 2 = [0, 1] from rfl]
 simp [q0, q1]
theorem lit1 (w : World) (v : Int) : RowN (w.alloc (.cells #[.int .i64 v] 3)) 0 (.slice (some ⟨w.heap.size, 0, none⟩) ([v] : List Int).length 1) [v] :=
 Kd.R_of_own (World.ownsRow_lit (base := 0) (e := 3) (size := 1) w #[.int .i64 v] 1 (Nat.zero_le _) (by decide) rfl) (fun _ _ => trivial)
theorem d17a : (if (mesh0 17 1).clean = s17.ep then [] else dirtyL s17 (mesh0 17 1) (mesh0 17 1).ps.length) = [0, 1] := by decide
abbrev mP (m : Mb) : Value := .pointer (some ⟨m.xb, 0, none⟩)
theorem dir17_calls (h : Net w g m s17 (mesh0 17 1)) : Calls Tryz.prog 22 #[mP m] w fun e w' => ∃ A n, e = .returned (.slice A 2 n) ∧ Below w.heap.size w w' := by
 have h1 := mDirty_calls h
 rw [d17a] at h1
 exact h1.mono fun e w' ⟨v, he, ho, hb⟩ => by
  obtain ⟨A, n, ev⟩ := Kd.R_slice ho
  exact ⟨A, n, by rw [he, ev]; rfl, hb⟩
theorem reb17_calls (h : Net w g m s17 (mesh0 17 1)) : Calls Tryz.prog 23 #[mP m] w fun e w' => ∃ x', e = .returned (.int .i64 2) ∧ Net w' g m s17 x' ∧ RebR s17 (mesh0 17 1) x' ∧ Chg m.own w w' := by
 have h1 := mRebuild_calls h (by decide) (fun q => absurd q (by decide))
 rw [dirty17] at h1
 exact h1
theorem reb17b_calls {x' : MeshS} (h : Net w g m s17 x') (hr : RebR s17 (mesh0 17 1) x') : Calls Tryz.prog 23 #[mP m] w fun e w' => ∃ x2, e = .returned (.int .i64 0) ∧ Net w' g m s17 x2 ∧ RebR s17 x' x2 ∧ Chg m.own w w' := by
 obtain ⟨a, b, c, d, _⟩ := reb17 hr
 have h1 := mRebuild_calls h (by rw [d]; decide) (fun _ => by rw [a]; exact c)
 rw [a, c] at h1
 exact h1
theorem edit17_calls {x' : MeshS} (h : Net w g m s17 x') : Calls Tryz.prog 20 #[.pointer (some ⟨g.gb, 0, none⟩), .int .i64 3, .int .i64 2] w fun e w' => e = .returned (.int .i64 0) ∧ Net w' g m e17 x' ∧ Chg g.own w w' :=
 (gEdit_calls h.grid (c := 3) (by decide) (x := 2) (by omega) (by decide)).mono fun e w' ⟨he, hg, hc⟩ => ⟨he, h.edit hg hc rfl, hc⟩
theorem dir17b_calls {x' x2 : MeshS} (h : Net w g m e17 x2) (hr : RebR s17 (mesh0 17 1) x') (hr2 : RebR s17 x' x2) : Calls Tryz.prog 22 #[mP m] w fun e w' => ∃ v, e = .returned v ∧ RowN w' w.heap.size v [0] ∧ Below w.heap.size w w' := by
 obtain ⟨a, b, c, d⟩ := reb17' hr hr2
 have h1 := mDirty_calls h
 rw [a, c, if_neg (by rw [b]; decide)] at h1
 exact h1
theorem nod17_calls {x' x2 : MeshS} (h : Net w g m e17 x2) (hr : RebR s17 (mesh0 17 1) x') (hr2 : RebR s17 x' x2) : Calls Tryz.prog 26 #[mP m, .int .i64 1] w fun e w' => ∃ v, e = .returned v ∧ RowN w' w.heap.size v [16] ∧ Below w.heap.size w w' := by
 obtain ⟨a, b, c, d⟩ := reb17' hr hr2
 have h1 := mNodes_calls h (i := 1) (by omega)
 rw [d] at h1
 exact h1
structure T14 (w wr : World) (gt mb : Nat) (D : List Int) : Prop where
 box : wr.heap[gt]? = some (.cells #[.int .i64 17, .int .i64 1, .slice (some ⟨mb, 0, none⟩) 17 17] 26 (0, 0))
 row : Kd.R (Kd.int .u8) 5 wr 0 (fun b => b = mb) (.slice (some ⟨mb, 0, none⟩) D.length 17) D
 len : D.length = 17
 low : w.heap.size ≤ gt ∧ w.heap.size ≤ mb
 below : Below w.heap.size w wr
theorem T14.ne {wr : World} {gt mb : Nat} {D : List Int} (h : T14 w wr gt mb D) : gt ≠ mb := by
 obtain ⟨c1, h1⟩ := Kd.R_typed h.row _ rfl
 exact blk_ne h.box h1 (by decide)
theorem T14.set {wr : World} {gt mb : Nat} {D : List Int} (h : T14 w wr gt mb D) (i : Nat) : T14 w (wr.setCell ⟨mb, i, none⟩ (.int .u8 1)) gt mb (D.set i 1) := by
 have hv := Kd.R_putn h.row (i : Int) 1
 rw [Int.toNat_natCast] at hv
 exact ⟨blk_far h.box (p := ⟨mb, i, none⟩) h.ne _, by rw [List.length_set]; exact hv, by rw [List.length_set]; exact h.len, h.low, h.below.setCell h.low.2 _⟩
theorem run_b17 : ∀ W : World, (Instr.makeSlice 22 (.int .i64 17) (.int .i64 17)).run Tryz.prog W = .ok (.slice (some ⟨W.heap.size, 0, none⟩) 17 17) (W.alloc (.cells (madeCells #[.int .u8 0] 17) 5)) :=
 print_make_of (P := Tryz.prog) 22 5 (.int .u8 0) 1 Tryz.underlying22 info5 rfl (by decide) 17 (by omega)
set_option maxRecDepth 100000 in
set_option maxHeartbeats 8000000 in
theorem told14_calls (w : World) : Calls Tryz.prog 25 #[] w fun e w' => e = .returned (.bool true) ∧ Below w.heap.size w w' := by
 have hmk := run_b17
 go_enter Tryz.func25, Tryz.ntmps25
 go_upto_region 2 with ((with_reducible refine gate_dst (N := 1) rfl ?_); refine box_event ?hg (N := 1) ?hd (cs := #[.int .i64 0, .int .i64 0, .slice none 0 0]) (t := 26) ?hr ?_; (case hd => rfl); (case hg => rfl); (case hr => first | (go_simp; done) | (go_simp; rfl)); intro gt hg w1 hbox hb; have z0 : w1.cell? ⟨gt, 0, none⟩ = _ := cell_blk hbox rfl; have z1 : w1.cell? ⟨gt, 1, none⟩ = _ := cell_blk hbox rfl; have z2 : w1.cell? ⟨gt, 2, none⟩ = _ := cell_blk hbox rfl; have f0 := free_blk hbox 0; have f1 := free_blk hbox 1; have f2 := free_blk hbox 2; have HX1 := Aside0.mk hbox; have HB1 := Aside0.mk hb; have HG1 := Aside0.mk hg; clear hbox hb hg)
 obtain ⟨w4, hw4⟩ : ∃ w4, w4 = (((w1.setCell ⟨gt, 0, none⟩ (.int .i64 17)).setCell ⟨gt, 1, none⟩ (.int .i64 1)).setCell ⟨gt, 2, none⟩ (.slice (some ⟨w.heap.size, 0, none⟩) 17 17)) := ⟨_, rfl⟩
 rw [← hw4]
 obtain ⟨mb, hmb⟩ : ∃ mb, mb = w.heap.size := ⟨_, rfl⟩
 have hst : T14 w w4 gt mb (List.replicate 17 0) := by
  have hb0 : Below w.heap.size w (w.alloc (.cells (madeCells #[.int .u8 0] 17) 5)) := below_alloc (Below.refl _ _) _
  have hlo : w.heap.size ≤ gt := by rw [HG1.out]; exact hb0.size
  have hr0 : Kd.R (Kd.int .u8) 5 (w.alloc (.cells (madeCells #[.int .u8 0] 17) 5)) 0 (fun b => b = mb) (.slice (some ⟨mb, 0, none⟩) (List.replicate 17 (0 : Int)).length 17) (List.replicate 17 0) := by
   rw [hmb]
   refine Kd.R_of_own ?_ (fun k hk => by simp [Value.ownBlock] at hk; exact hk.symm)
   rw [List.length_replicate]
   exact own_made_of w 0 5 17 (Nat.zero_le _) (by omega)
  have hne : ∀ k, k = mb → k ≠ gt := by
   intro k hk e
   rw [hk, hmb, HG1.out, World.size_alloc] at e
   omega
  have hr1 := Kd.R_below hr0 HB1.out
  refine ⟨?_, ?_, by simp, ⟨hlo, by omega⟩, ?_⟩
  ·rw [hw4, ← hmb]; exact set_blk (set_blk (set_blk HX1.out 0 _) 1 _) 2 _
  ·rw [hw4]; exact Kd.R_far (Kd.R_far (Kd.R_far hr1 (p := ⟨gt, 0, none⟩) hne _) (p := ⟨gt, 1, none⟩) hne _) (p := ⟨gt, 2, none⟩) hne _
  ·rw [hw4]; exact (((hb0.trans (Below.mono HB1.out hb0.size)).setCell hlo _).setCell hlo _).setCell hlo _
 rw [← hmb]
 have HST := Aside0.mk hst
 clear hst hw4 hmb z0 z1 z2 f0 f1 f2 HX1 HB1 HG1 hmk
 go_wp2_with fail
 go_loopg [2] 17 (fun gg v2 wr => ∃ (k : Nat) (D : List Int), v2 = .int .i64 k ∧ k ≤ 17 ∧ 17 - k ≤ gg ∧ Aside0 (∀ j : Nat, j < k → rd D (j : Int) = 1) ∧ Aside0 (T14 w wr gt mb D))
 case atStart => exact ⟨0, _, rfl, Nat.zero_le _, Nat.le_refl _, ⟨fun j hj => absurd hj (by omega)⟩, HST⟩
 case round =>
  clear HST
  obtain ⟨k, D, rfl, hk, hgg, HV, HT⟩ := hrel
  by_cases hlt : k < 17
  ·have d1 : (k : Int) < 17 := by omega
   have e1 : (0 : Int) ≤ (k : Int) := by omega
   have z2 := cell_blk (j := 2) (u := .slice (some ⟨mb, 0, none⟩) 17 17) HT.out.box rfl
   have hv := Kd.R_celln 0 HT.out.row (k : Int) e1 (by rw [HT.out.len]; exact d1)
   rw [Int.toNat_natCast] at hv
   obtain ⟨vc, vf⟩ := hv
   have HI := Aside0.mk (And.intro hk (And.intro hgg hlt))
   clear hk hgg hlt
   go_wp2_with fail
   go_roundg (17 - (k + 1))
   case measure => have := HI.out; omega
   case rel =>
    have hh := HI.out
    exact ⟨k + 1, D.set k 1, by first | rfl | (rw [w64 (n := (k : Int) + 1) (by omega) (by omega)]; rfl), by omega, Nat.le_refl _, ⟨fun j hj => by
     rw [rd_set' _ _ _ _ (by rw [HT.out.len]; omega)]
     by_cases q : k = j
     ·rw [if_pos q]
     ·rw [if_neg q]; exact HV.out j (by omega)⟩, ⟨HT.out.set k⟩⟩
  ·obtain rfl : k = 17 := by omega
   clear hk hgg hlt
   have hD : D = ones17 := rep_of HT.out.len HV.out
   subst hD
   have z0 := cell_blk (j := 0) (u := .int .i64 17) HT.out.box rfl
   have z1 := cell_blk (j := 1) (u := .int .i64 1) HT.out.box rfl
   have z2 := cell_blk (j := 2) (u := .slice (some ⟨mb, 0, none⟩) 17 17) HT.out.box rfl
   clear HV
   go_wp2_with (first
    | (go_at_call 39; refine (gNew_calls ok17 ⟨mb, 0, none⟩ 17 _ (Kd.R_reads' HT.out.row).2.2 (Kd.R_reads' HT.out.row).2.1).mono ?_; rintro e w5 ⟨g, rfl, hg, hb, hlow⟩; have HG5 := Aside0.mk hg; have HLG := Aside0.mk (fun b hb2 => Nat.le_trans HT.out.below.size (hlow b hb2)); have HBB := Aside0.mk (below_step HT.out.below hb); clear hg hb hlow z0 z1 z2)
    | (go_at_call 37; refine (mNew_calls HG5.out).mono ?_; rintro e w6 ⟨m, rfl, hn, hb, hlow⟩; have HN6 : Aside0 (Net w6 g m s17 (mesh0 17 1)) := ⟨hn⟩; have HLM := Aside0.mk (fun b hb2 => Nat.le_trans HBB.out.size (hlow b hb2)); have HB6 := Aside0.mk (below_step HBB.out hb); clear hn hb hlow HG5 HBB HT)
    | (go_at_call 22; refine (dir17_calls HN6.out).mono ?_; rintro e w7 ⟨A7, n7, rfl, hb⟩; have HN7 := Aside0.mk (HN6.out.below hb); have HB7 := Aside0.mk (below_step HB6.out hb); clear hb HN6 HB6)
    | (go_at_call 23; refine (reb17_calls HN7.out).mono ?_; rintro e w8 ⟨x8, rfl, hn, hr, hc⟩; have HN8 := Aside0.mk hn; have HR8 := Aside0.mk hr; have HB8 := Aside0.mk (HB7.out.trans (hc.below HLM.out HB7.out.size)); clear hn hr hc HN7 HB7)
    | (go_at_call 23; refine (reb17b_calls HN8.out HR8.out).mono ?_; rintro e w9 ⟨x9, rfl, hn, hr, hc⟩; have HN9 := Aside0.mk hn; have HR9 := Aside0.mk hr; have HB9 := Aside0.mk (HB8.out.trans (hc.below HLM.out HB8.out.size)); clear hn hr hc HN8 HB8)
    | (go_at_call 20; refine (edit17_calls HN9.out).mono ?_; rintro e w10 ⟨rfl, hn, hc⟩; have HN10 := Aside0.mk hn; have HB10 := Aside0.mk (HB9.out.trans (hc.below HLG.out HB9.out.size)); clear hn hc HN9 HB9)
    | (go_at_call 22; refine (dir17b_calls HN10.out HR8.out HR9.out).mono ?_; rintro e w11 ⟨v11, rfl, ho, hb⟩; obtain ⟨A11, n11, rfl⟩ := Kd.R_slice ho; have HO11 := Aside0.mk ho; have HN11 := Aside0.mk (HN10.out.below hb); have HB11 := Aside0.mk (below_step HB10.out hb); clear hb ho HN10 HB10)
    | (go_at_call 30; refine (herdsmanref1_Ints.calls 100 A11 n11 [0] (some ⟨w11.heap.size, 0, none⟩) 1 [0] true (w11.alloc (.cells #[.int .i64 0] 3)) (Kd.R_reads' (Kd.R_alloc HO11.out (.cells #[.int .i64 0] 3))).2.2 (Kd.R_reads' HO11.out).2.1 (Kd.R_reads' (lit1 w11 0)).2.2 (Nat.le_refl _) (ints_self [0] (by decide) 100 (by decide))).mono ?_; rintro e w' ⟨rfl, ⟨q, rfl⟩⟩; have HN13 := Aside0.mk (HN11.out.below (pw_below_drewN (below_alloc (Below.refl w11.heap.size w11) (.cells #[.int .i64 0] 3)) q)); have HB13 := Aside0.mk (pw_below_drewN (below_alloc HB11.out (.cells #[.int .i64 0] 3)) q); clear HN11 HB11 HO11)
    | (go_at_call 26; refine (nod17_calls HN13.out HR8.out HR9.out).mono ?_; rintro e w14 ⟨v14, rfl, ho, hb⟩; obtain ⟨A14, n14, rfl⟩ := Kd.R_slice ho; have HO14 := Aside0.mk ho; have HB14 := Aside0.mk (below_step HB13.out hb); clear hb ho HN13 HB13)
    | (go_at_call 30; refine (herdsmanref1_Ints.calls 100 A14 n14 [16] (some ⟨w14.heap.size, 0, none⟩) 1 [16] true (w14.alloc (.cells #[.int .i64 16] 3)) (Kd.R_reads' (Kd.R_alloc HO14.out (.cells #[.int .i64 16] 3))).2.2 (Kd.R_reads' HO14.out).2.1 (Kd.R_reads' (lit1 w14 16)).2.2 (Nat.le_refl _) (ints_self [16] (by decide) 100 (by decide))).mono ?_; rintro e w' ⟨rfl, ⟨q, rfl⟩⟩; have HB16 := Aside0.mk (pw_below_drewN (below_alloc HB14.out (.cells #[.int .i64 16] 3)) q); clear HB14 HO14))
   go_ret
   exact ⟨rfl, HB16.out⟩
end Go.Proofs.YthgehdembghdaaaGreat.P
