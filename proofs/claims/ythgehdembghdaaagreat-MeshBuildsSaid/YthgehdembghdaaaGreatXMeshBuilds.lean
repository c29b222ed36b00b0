/-
 WALKED BY HAND: herdsmanlaw14.MeshBuilds.
-/
import Derived.Test.YthgehdembghdaaaGreatXBuild1
import Derived.Test.YthgehdembghdaaaGreatXTold14
import Derived.Test.YthgehdembghdaaaGreatPx5
namespace Go.Proofs.YthgehdembghdaaaGreat.P
open Go.RowKit Go.Proofs.YthgehdembghdaaaGreatW.PrintWords Go.Proofs.YthgehdembghdaaaGreatW.PrintLast Go.Proofs.YthgehdembghdaaaGreatW.PrintMore
open Go.Proofs.YthgehdembghdaaaGreat.Geo Go.Proofs.YthgehdembghdaaaGreat.Dist
set_option linter.unusedVariables false
set_option linter.unusedSimpArgs false
variable {w w' wr w2 : World} {g : Gb} {s : GridS} {m : Mb} {x : MeshS}
set_option maxRecDepth 100000 in
set_option maxHeartbeats 8000000 in
theorem meshBuilds_calls (w0 h0 : Int) (A2 : Option Addr) (c2 : Nat) (l2 : List Int) (s0 a0 b0 : Int) (raw : Bool) (w : World)
  (hr : Kd.C (Kd.int .u8) w A2 l2.length l2) (hc2 : l2.length ≤ c2) (hb2 : ∀ y ∈ l2, 0 ≤ y ∧ y ≤ 255) (hl2 : l2.length ≤ 140737488355328) :
  Calls Tryz.prog 6 #[.int .i64 w0, .int .i64 h0, .slice A2 l2.length c2, .int .i64 s0, .int .i64 a0, .int .i64 b0, .bool raw] w fun e w' => e = .returned (.bool true) ∧ Below w.heap.size w w' := by
 obtain ⟨W, H, C, hmd, hW, hH, hok⟩ := made_some w0 h0 l2 hb2 hl2
 have hu26 := Tryz.underlying26
 have HR := Aside0.mk hr
 have HC2 := Aside0.mk hc2
 have HMD := Aside0.mk (hmd 2000 (Nat.le_refl _))
 have HOK := Aside0.mk hok
 clear hr hc2 hmd hok hb2 hl2 hW hH
 have hcnt := cnt_le HOK.out.dim
 have hcn := rCount HOK.out.dim
 obtain ⟨n, hn⟩ : ∃ n : Nat, (n : Int) = cnt W H := ⟨(cnt W H).toNat, by omega⟩
 rw [← hn] at hcnt hcn
 have HCN := Aside0.mk hcn
 have HN : Aside0 ((n : Int) = cnt W H ∧ 1 ≤ n ∧ n ≤ 4096) := ⟨by omega⟩
 have hcl : 1 ≤ C.length ∧ C.length ≤ 1048576 := by have := HOK.out.len; have := wh_le HOK.out.dim; omega
 have HCL := Aside0.mk hcl
 have HW3 := Aside0.mk (within_some s0 (lo := -1) (hi := (n : Int)) (by omega) (by omega) (by omega))
 have HW4 := Aside0.mk (within_some a0 (lo := -1) (hi := (C.length : Int)) (by omega) (by omega) (by omega))
 have HW5 := Aside0.mk (within_some b0 (lo := -1) (hi := (C.length : Int)) (by omega) (by omega) (by omega))
 clear hcnt hcn hn hcl
 go_enter Tryz.func6, Tryz.ntmps6
 go_upto_region 2 with (first
  | (go_at_call 17; refine (built_calls w0 h0 A2 c2 l2 _ HR.out HC2.out HMD.out HOK.out).mono ?_; rintro e w1 ⟨mb, cb, g, m, rfl, hbu⟩; have HBU := Aside0.mk hbu; clear hbu)
  | ((with_reducible refine gate_dst (N := 15) rfl ?_); refine box_event ?hg (N := 15) ?hd (cs := #[.int .i64 0, .int .i64 0, .slice none 0 0]) (t := 26) ?hr ?_; (case hd => rfl); (case hg => rfl); (case hr => first | (go_simp; done) | (go_simp; rfl)); intro gt hg w3 hbox hb; have z0 : w3.cell? ⟨gt, 0, none⟩ = _ := cell_blk hbox rfl; have z1 : w3.cell? ⟨gt, 1, none⟩ = _ := cell_blk hbox rfl; have z2 : w3.cell? ⟨gt, 2, none⟩ = _ := cell_blk hbox rfl; have f0 := free_blk hbox 0; have f1 := free_blk hbox 1; have f2 := free_blk hbox 2; have HX3 := Aside0.mk hbox; have HB3 := Aside0.mk hb; have HG3 := Aside0.mk hg; clear hbox hb hg))
 obtain ⟨w4, hw4⟩ : ∃ w4, w4 = (((w3.setCell ⟨gt, 0, none⟩ (.int .i64 W)).setCell ⟨gt, 1, none⟩ (.int .i64 H)).setCell ⟨gt, 2, none⟩ (.slice (some ⟨mb, 0, none⟩) C.length cb)) := ⟨_, rfl⟩
 rw [← hw4]
 have HY4 : Aside0 (WayM w w4 g m (grid0 W H C) (mesh0 W H) W H gt mb cb C) := ⟨by rw [hw4]; exact WayM.start HBU.out HB3.out HG3.out HX3.out⟩
 have t0 := cell_blk (j := 0) (u := .int .i64 W) HY4.out.box rfl
 have t1 := cell_blk (j := 1) (u := .int .i64 H) HY4.out.box rfl
 clear hw4 z0 z1 z2 f0 f1 f2 HX3 HB3 HG3 HBU HR HMD
 go_upto_region 5 with (go_at_call 18; refine (herdsmanref1_Count.calls W H (n : Int) _ HCN.out).mono ?_; rintro e w5 ⟨rfl, hd⟩; have HY5 := Aside0.mk (HY4.out.go (Drawn0.below hd)); clear hd)
 clear t0 t1 HY4 HCN
 have t2 := cell_blk (j := 2) (u := .slice (some ⟨mb, 0, none⟩) C.length cb) HY5.out.box rfl
 go_upto_if 38 with fail
 go_cut [3, 4, 5] (fun v3 v4 v5 wc => ∃ (sc a b : Int), v3 = .int .i64 sc ∧ v4 = .int .i64 a ∧ v5 = .int .i64 b ∧ Aside0 (WayM w wc g m (grid0 W H C) (mesh0 W H) W H gt mb cb C))
 case first =>
  cases raw with
  | true =>
   go_wp2_with fail
   go_meet
   exact ⟨_, _, _, rfl, rfl, rfl, HY5⟩
  | false =>
   go_upto_region 6 with fail
   repeat (go_quiet (first | (go_at_call 19; (with_reducible refine (herdsmanref1_Within.calls s0 (-1) (n : Int) _ _ HW3.out).mono ?_); rintro e w' ⟨rfl, ⟨nd, rfl⟩⟩; (try first | exact ⟨rfl, _, World.drewN_drewN _ _ _⟩ | exact ⟨rfl, _, rfl⟩)) | (go_at_call 19; (with_reducible refine (herdsmanref1_Within.calls a0 (-1) (C.length : Int) _ _ HW4.out).mono ?_); rintro e w' ⟨rfl, ⟨nd, rfl⟩⟩; (try first | exact ⟨rfl, _, World.drewN_drewN _ _ _⟩ | exact ⟨rfl, _, rfl⟩)) | (go_at_call 19; (with_reducible refine (herdsmanref1_Within.calls b0 (-1) (C.length : Int) _ _ HW5.out).mono ?_); rintro e w' ⟨rfl, ⟨nd, rfl⟩⟩; (try first | exact ⟨rfl, _, World.drewN_drewN _ _ _⟩ | exact ⟨rfl, _, rfl⟩))))
   go_wp2_with fail
   go_meet
   first | exact ⟨_, _, _, rfl, rfl, rfl, ⟨HY5.out.go (pw_below_drewN (Below.refl _ _) _)⟩⟩ | exact ⟨_, _, _, rfl, rfl, rfl, HY5⟩
 case rest =>
  obtain ⟨sc, a, b, rfl, rfl, rfl, HY6⟩ := hcut
  clear HY5 t2 HW3 HW4 HW5
  have iu : IntKind.u64.wrap (n : Int) = (n : Int) := by have := HN.out; rw [IntKind.wrap_u64]; omega
  have dn : ((n : Int) != (n : Int)) = false := by simp
  have HD0 := Aside0.mk (dist0 (s := grid0 W H C) W H a b)
  have HI0 := Aside0.mk (into0 (s := grid0 W H C) W H b)
  have HG0 := Aside0.mk (good0 W H)
  have HN0 := Aside0.mk (nodes0 W H sc)
  go_upto_region 9 with (first
   | (go_at_call 26; refine (mNodes_any HY6.out.net sc).mono ?_; rw [HN0.out]; rintro e w7 ⟨v7, rfl, ho, hb⟩; obtain ⟨A7, n7, rfl⟩ := Kd.R_slice ho; have HY7 := Aside0.mk (HY6.out.go hb); clear ho hb)
   | (go_at_call 34; refine (mInto_calls HY7.out.net HG0.out b).mono ?_; rw [HI0.out]; rintro e w8 ⟨v8, rfl, ho, hb⟩; obtain ⟨A8, n8, rfl⟩ := Kd.R_slice ho; have HY8 := Aside0.mk (HY7.out.go hb); clear ho hb)
   | (go_at_call 28; refine (mDist_calls HY8.out.net HG0.out a b).mono ?_; rw [HD0.out]; rintro e w9 ⟨rfl, hd⟩; have HY9 := Aside0.mk (HY8.out.go (Drawn0.below hd)); clear hd)
   | (go_at_call 23; refine (reb_first HN.out.1 HY9.out).mono ?_; rintro e w10 ⟨x, rfl, hy, hrb, hf⟩; have HY10 := Aside0.mk hy; have HRB := Aside0.mk hrb; have HF := Aside0.mk hf; have hcx : x.cnt = (n : Int) := (by have h1 := HRB.out.cnt; rw [mesh0_len HN.out.1, dirty_all HN.out.1] at h1; rw [h1]; show (0 : Int) + (n : Int) = (n : Int); omega); have HCX := Aside0.mk hcx; clear hy hrb hf hcx)
   | (go_at_call 24; refine (mCount_calls HY10.out.net).mono ?_; rw [HCX.out]; rintro e w' ⟨rfl, rfl⟩)
   | (go_at_call 24; refine (mCount_calls HY9.out.net).mono ?_; rintro e w' ⟨rfl, rfl⟩)
   | (go_at_call 22; refine (mDirty_calls HY10.out.net).mono ?_; rw [if_pos HRB.out.clean]; rintro e w11 ⟨v11, rfl, ho, hb⟩; obtain ⟨A11, n11, rfl⟩ := Kd.R_slice ho; have HY11 := Aside0.mk (HY10.out.go hb); clear ho hb))
  have HGX := Aside0.mk HF.out.good
  have hnx : nodesA x sc = nodesR W H C sc := fresh_nodes HF.out sc
  have hdx : distM (grid0 W H C) x a b = refD W H C a b := fresh_dist2 HF.out a b
  have hex : intoM (grid0 W H C) x b = intoR W H C b := fresh_into HF.out b
  have hel := into_len HF.out b
  have hrn := rNodes_any HOK.out sc
  have hrd := rDist HOK.out a b 2000 (Nat.le_refl _)
  have hnl := nodesR_len (C := C) HOK.out.dim sc
  obtain ⟨N, hN⟩ : ∃ N, N = nodesR W H C sc := ⟨_, rfl⟩
  obtain ⟨dv, hdv⟩ : ∃ dv, dv = refD W H C a b := ⟨_, rfl⟩
  obtain ⟨EL, hEL⟩ : ∃ EL, EL = intoR W H C b := ⟨_, rfl⟩
  rw [← hN] at hnx hrn hnl
  rw [← hdv] at hdx hrd
  rw [hex, ← hEL] at hel
  have HNX := Aside0.mk hnx
  have HDX := Aside0.mk hdx
  have HEX : Aside0 (intoM (grid0 W H C) x b = EL ∧ intoR W H C b = EL) := ⟨by rw [hex, hEL], hEL.symm⟩
  have HRN := Aside0.mk hrn
  have HRD := Aside0.mk hrd
  have HES := Aside0.mk (edges_some EL hel)
  have HRI := Aside0.mk (rInts N 300 (by omega) (by omega))
  have HNL := Aside0.mk hnl
  have dd : (dv != dv) = false := by simp
  obtain ⟨q0, q1, q2⟩ := way_cells HY11.out
  clear hnx hdx hex hel hrn hrd hnl hN hdv hEL iu dn HD0 HI0 HG0 HN0 HY6 HY7 HY8 HY9 HY10 HRB HCX
  go_upto_region 10 with (go_at_call 27; refine (herdsmanref11_Nodes.calls 1700 W H (some ⟨mb, 0, none⟩) cb C sc N w11 (Kd.R_reads' HY11.out.row).2.2 (Kd.R_reads' HY11.out.row).2.1 HRN.out).mono ?_; rintro e w12 ⟨v12, rfl, ho, hb⟩; obtain ⟨A12, n12, rfl⟩ := Kd.R_slice ho; have HO12 := Aside0.mk (Kd.R_lower ho (Nat.zero_le _)); have HY12 := Aside0.mk (HY11.out.go hb); clear ho hb q0 q1 q2)
  have c0 := way_cells HY12.out
  have HYD : Aside0 (WayM w w12.drew g m (grid0 W H C) x W H gt mb cb C) := ⟨HY12.out.go (below_drew1 (Below.refl _ _))⟩
  go_region_held3 (fun w' => w'.cell? ⟨gt, 0, none⟩ = some (.int .i64 W) ∧ w'.cell? ⟨gt, 1, none⟩ = some (.int .i64 H) ∧ w'.cell? ⟨gt, 2, none⟩ = some (.slice (some ⟨mb, 0, none⟩) C.length cb)) (first | (with_reducible first | exact c0 | exact way_cells HY13.out | exact way_cells HY14.out | exact way_cells HY15.out | exact way_cells HY16.out | exact way_cells HY17.out | exact way_cells HY18.out | exact way_cells HY19.out) | go_keep)
    (first
     | (go_at_call 26; refine (mNodes_any HYD.out.net sc).mono ?_; rw [HNX.out]; rintro e w13 ⟨v13, rfl, ho, hb⟩; obtain ⟨A13, n13, rfl⟩ := Kd.R_slice ho; have HO13 := Aside0.mk ho; have HP12 := Aside0.mk (Kd.R_below (Kd.R_drew HO12.out) hb); have HY13 := Aside0.mk (HYD.out.go hb); clear ho hb)
     | (go_at_call 30; refine (herdsmanref1_Ints.calls 300 A13 n13 N A12 n12 N true w13 (Kd.R_reads' HO13.out).2.2 (Kd.R_reads' HO13.out).2.1 (Kd.R_reads' HP12.out).2.2 (Kd.R_reads' HP12.out).2.1 HRI.out).mono ?_; rintro e w14 ⟨rfl, hd⟩; have HY14 := Aside0.mk (HY13.out.go (Drawn0.below hd)); have HQ14 := Aside0.mk (Kd.R_below HP12.out (Drawn0.below hd)); clear hd)
     | (go_at_call 28; refine (mDist_calls HY14.out.net HGX.out a b).mono ?_; rw [HDX.out]; rintro e w15 ⟨rfl, hd⟩; have HY15 := Aside0.mk (HY14.out.go (Drawn0.below hd)); have HQ15 := Aside0.mk (Kd.R_below HQ14.out (Drawn0.below hd)); clear hd)
     | (go_at_call 31; refine (herdsmanref11_Dist.calls 2000 W H (some ⟨mb, 0, none⟩) cb C a b _ w15 (Kd.R_reads' HY15.out.row).2.2 (Kd.R_reads' HY15.out.row).2.1 HRD.out).mono ?_; rintro e w16 ⟨rfl, hb⟩; have HY16 := Aside0.mk (HY15.out.go hb); have HQ16 := Aside0.mk (Kd.R_below HQ15.out hb); clear hb)
     | (go_at_call 34; refine (mInto_calls HY16.out.net HGX.out b).mono ?_; rw [HEX.out.1]; rintro e w17 ⟨v17, rfl, ho, hb⟩; obtain ⟨A17, n17, rfl⟩ := Kd.R_slice ho; have HO17 := Aside0.mk ho; have HY17 := Aside0.mk (HY16.out.go hb); have HQ17 := Aside0.mk (Kd.R_below HQ16.out hb); clear ho hb)
     | (go_at_call 36; refine (refInto_calls HOK.out (Kd.R_reads' HY17.out.row).2.2 (Kd.R_reads' HY17.out.row).2.1 b).mono ?_; rw [HEX.out.2]; rintro e w18 ⟨v18, rfl, ho, hb⟩; obtain ⟨A18, n18, rfl⟩ := Kd.R_slice ho; have HO18 := Aside0.mk ho; have HP17 := Aside0.mk (Kd.R_below HO17.out hb); have HY18 := Aside0.mk (HY17.out.go hb); have HQ18 := Aside0.mk (Kd.R_below HQ17.out hb); clear ho hb)
     | (go_at_call 35; refine (herdsmanref11_Edges.calls 300 A17 n17 _ A18 n18 _ true w18 (Kd.R_reads' HP17.out).2.2 (Kd.R_reads' HP17.out).2.1 (Kd.R_reads' HO18.out).2.2 (Kd.R_reads' HO18.out).2.1 HES.out).mono ?_; rintro e w19 ⟨rfl, hd⟩; have HY19 := Aside0.mk (HY18.out.go (Drawn0.below hd)); have HQ19 := Aside0.mk (Kd.R_below HQ18.out (Drawn0.below hd)); clear hd))
  by_cases he : N.length = 0
  ·have d1 : decide ((0 : Int) < (N.length : Int)) = false := decide_eq_false (by omega)
   have d1b : decide (0 < N.length) = false := decide_eq_false (by omega)
   go_wp2_with (go_at_call 25; refine (told14_calls _).mono ?_; rintro e w20 ⟨rfl, hb⟩; have HY20 := Aside0.mk (HY19.out.go hb); clear hb)
   go_ret
   exact ⟨rfl, HY20.out.below⟩
  ·have d1 : (0 : Int) < (N.length : Int) := by omega
   have d1b : 0 < N.length := by omega
   obtain ⟨pa, hpa, hwa⟩ := within_n a (n := N.length) (by omega) (by have := HNL.out; omega)
   obtain ⟨pb, hpb, hwb⟩ := within_n b (n := N.length) (by omega) (by have := HNL.out; omega)
   have HWA := Aside0.mk hwa
   have HWB := Aside0.mk hwb
   have iw : IntKind.i64.wrap ((N.length : Int) - 1) = (N.length : Int) - 1 := by have := HNL.out; rw [IntKind.wrap_i64]; omega
   obtain ⟨ad8, hA8, hxa⟩ := Kd.at_int (Kd.R_reads' HQ19.out).2.2 (pa : Int) (by omega) (by omega)
   obtain ⟨ad8', hA8', hxb⟩ := Kd.at_int (Kd.R_reads' HQ19.out).2.2 (pb : Int) (by omega) (by omega)
   obtain rfl : ad8 = ad8' := by rw [hA8] at hA8'; injection hA8'
   rw [Int.toNat_natCast] at hxa hxb
   subst hA8
   obtain ⟨p, hp⟩ : ∃ p, p = rd N (pa : Int) := ⟨_, rfl⟩
   obtain ⟨q, hq⟩ : ∃ q, q = rd N (pb : Int) := ⟨_, rfl⟩
   rw [← hp] at hxa
   rw [← hq] at hxb
   have e1 : (0 : Int) ≤ (pa : Int) := by omega
   have e2 : (pa : Int) < (N.length : Int) := by omega
   have e3 : (0 : Int) ≤ (pb : Int) := by omega
   have e4 : (pb : Int) < (N.length : Int) := by omega
   clear he hpa hpb hwa hwb hA8' hp hq HQ14 HQ15 HQ16 HQ17 HQ18 HO12 HP12 HO13 HY13 HY14 HY15 HY16 HY17 HY18 HYD c0
   go_upto_region 13 with fail
   repeat (go_quiet (first | (go_at_call 19; (with_reducible refine (herdsmanref1_Within.calls a 0 ((N.length : Int) - 1) (pa : Int) _ HWA.out).mono ?_); rintro e w' ⟨rfl, ⟨nd, rfl⟩⟩; (try first | exact ⟨rfl, _, World.drewN_drewN _ _ _⟩ | exact ⟨rfl, _, rfl⟩)) | (go_at_call 19; (with_reducible refine (herdsmanref1_Within.calls b 0 ((N.length : Int) - 1) (pb : Int) _ HWB.out).mono ?_); rintro e w' ⟨rfl, ⟨nd, rfl⟩⟩; (try first | exact ⟨rfl, _, World.drewN_drewN _ _ _⟩ | exact ⟨rfl, _, rfl⟩))))
   have HY20 := Aside0.mk (HY19.out.go (pw_below_drewN (Below.refl _ _) nq))
   generalize w19.drewN nq = w20 at *
   clear hxa hxb HQ19 HY19 HWA HWB HDX HEX HRD HES e1 e2 e3 e4 iw d1 d1b dd
   have hdx : distM (grid0 W H C) x p q = refD W H C p q := fresh_dist2 HF.out p q
   have hex : intoM (grid0 W H C) x q = intoR W H C q := fresh_into HF.out q
   have hel := into_len HF.out q
   have hrd := rDist HOK.out p q 2000 (Nat.le_refl _)
   obtain ⟨dw, hdw⟩ : ∃ dw, dw = refD W H C p q := ⟨_, rfl⟩
   obtain ⟨EM, hEM⟩ : ∃ EM, EM = intoR W H C q := ⟨_, rfl⟩
   rw [← hdw] at hdx hrd
   rw [hex, ← hEM] at hel
   have HDX := Aside0.mk hdx
   have HEX : Aside0 (intoM (grid0 W H C) x q = EM ∧ intoR W H C q = EM) := ⟨by rw [hex, hEM], hEM.symm⟩
   have HRD := Aside0.mk hrd
   have HES := Aside0.mk (edges_some EM hel)
   have HTD := Aside0.mk (told14_calls w20.drew)
   have HYD : Aside0 (WayM w w20.drew g m (grid0 W H C) x W H gt mb cb C) := ⟨HY20.out.go (below_drew1 (Below.refl _ _))⟩
   have c1 := way_cells HY20.out
   have dd2 : (dw == dw) = true := by simp
   clear hdx hex hel hrd hdw hEM
   go_upto_region 14 with fail
   go_region_held3 (fun w' => w'.cell? ⟨gt, 0, none⟩ = some (.int .i64 W) ∧ w'.cell? ⟨gt, 1, none⟩ = some (.int .i64 H) ∧ w'.cell? ⟨gt, 2, none⟩ = some (.slice (some ⟨mb, 0, none⟩) C.length cb)) (first | (with_reducible first | exact c1 | exact way_cells HY21.out | exact way_cells HY22.out | exact way_cells HY23.out | exact way_cells HY24.out | exact way_cells HY25.out | exact way_cells HY26.out) | go_keep)
     (first
      | (go_at_call 25; refine HTD.out.mono ?_; rintro e w21 ⟨rfl, hb⟩; have HY21 := Aside0.mk (HYD.out.go hb); clear hb)
      | (go_at_call 28; refine (mDist_calls HY21.out.net HGX.out p q).mono ?_; rw [HDX.out]; rintro e w22 ⟨rfl, hd⟩; have HY22 := Aside0.mk (HY21.out.go (Drawn0.below hd)); clear hd)
      | (go_at_call 31; refine (herdsmanref11_Dist.calls 2000 W H (some ⟨mb, 0, none⟩) cb C p q _ w22 (Kd.R_reads' HY22.out.row).2.2 (Kd.R_reads' HY22.out.row).2.1 HRD.out).mono ?_; rintro e w23 ⟨rfl, hb⟩; have HY23 := Aside0.mk (HY22.out.go hb); clear hb)
      | (go_at_call 34; refine (mInto_calls HY23.out.net HGX.out q).mono ?_; rw [HEX.out.1]; rintro e w24 ⟨v24, rfl, ho, hb⟩; obtain ⟨A24, n24, rfl⟩ := Kd.R_slice ho; have HO24 := Aside0.mk ho; have HY24 := Aside0.mk (HY23.out.go hb); clear ho hb)
      | (go_at_call 36; refine (refInto_calls HOK.out (Kd.R_reads' HY24.out.row).2.2 (Kd.R_reads' HY24.out.row).2.1 q).mono ?_; rw [HEX.out.2]; rintro e w25 ⟨v25, rfl, ho, hb⟩; obtain ⟨A25, n25, rfl⟩ := Kd.R_slice ho; have HO25 := Aside0.mk ho; have HP24 := Aside0.mk (Kd.R_below HO24.out hb); have HY25 := Aside0.mk (HY24.out.go hb); clear ho hb)
      | (go_at_call 35; refine (herdsmanref11_Edges.calls 300 A24 n24 _ A25 n25 _ true w25 (Kd.R_reads' HP24.out).2.2 (Kd.R_reads' HP24.out).2.1 (Kd.R_reads' HO25.out).2.2 (Kd.R_reads' HO25.out).2.1 HES.out).mono ?_; rintro e w26 ⟨rfl, hd⟩; have HY26 := Aside0.mk (HY25.out.go (Drawn0.below hd)); clear hd))
   go_wp2_with fail
   go_ret
   exact ⟨rfl, HY26.out.below⟩
end Go.Proofs.YthgehdembghdaaaGreat.P
