/-
  herdsmanlaw10.FieldFirst.
-/
import Derived.Test.YtgcfcemgeppkmaaXEnvF
import Derived.Deep.CutBlock
namespace Go.Proofs.Ytgcfcemgeppkmaa.P
open Go.RowKit Go.Proofs.YtgcfcemgeppkmaaW.PrintWords Go.Proofs.YtgcfcemgeppkmaaW.PrintLast Go.Proofs.YtgcfcemgeppkmaaW.PrintMore
open Go.Proofs.Ytgcfcemgeppkmaa.Dist
set_option linter.unusedVariables false
set_option linter.unusedSimpArgs false

set_option maxRecDepth 100000 in
set_option maxHeartbeats 4000000 in
theorem fieldFirst_calls (a0 a1 : Int) (A2 : Option Addr) (c2 : Nat) (l2 : List Int) (A3 : Option Addr) (c3 : Nat) (l3 : List Int) (a4 : Int) (w : World) (hr2 : Kd.C (Kd.int .u8) w A2 l2.length l2) (hc2 : l2.length ≤ c2) (hr3 : Kd.C (Kd.int .i64) w A3 l3.length l3) (hc3 : l3.length ≤ c3) (h2 : l2.length * 1 ≤ 140737488351232) (hb2 : ∀ x ∈ l2, (Lit.int .u8 x).wf = true) :
    Calls Try.prog 19 #[.int .i64 a0, .int .i64 a1, .slice A2 l2.length c2, .slice A3 l3.length c3, .int .i64 a4] w fun e w' => e = .returned (.bool true) ∧ Below w.heap.size w w' := by
  have HR2 := Aside0.mk hr2
  have HC2 := Aside0.mk hc2
  have HR3 := Aside0.mk hr3
  have HC3' := Aside0.mk hc3
  obtain ⟨W, H, C, s, hM, hF, hS, hs, hb, hsl, hC, hC1⟩ := begin10 a0 a1 l2 l3 h2 hb2
  have HMT := Aside0.mk (hM 2000 (by omega))
  obtain ⟨lf, hlf⟩ : ∃ lf, lf = l3.take (min l3.length 24) := ⟨_, rfl⟩
  rw [← hlf] at hS
  have HSE := Aside0.mk hS
  have HFW := Aside0.mk (fun (w1 : World) (h1 : Kd.C (Kd.int .i64) w1 A3 l3.length l3) => few10_calls A3 c3 l3 w1 h1 hc3)
  rw [← hlf] at HFW
  clear hlf
  have HSO := Aside0.mk hs
  have HBC := Aside0.mk hb
  have e1 := dist_len hb hs
  have e2 := dirs_len W H C s
  have HFD := Aside0.mk (show fieldF W H C s = some (distOf W C s, dirsOf W H C s, 0) from field_some hb hs (by omega))
  have HDS := Aside0.mk (fun (i : Nat) (hi : i < C.length) (d : Int) (hd : dirS W H C s (distOf W C s) i = d) => dir_spec hb hs hi hd)
  have HAT := Aside0.mk (fun (i : Nat) (hi : i < C.length) => dirs_at W H C s hi)
  have HDR := Aside0.mk (fun (i : Nat) (hi : i < C.length) => dist_range hb hs hi)
  obtain ⟨D, hD⟩ : ∃ D, D = distOf W C s := ⟨_, rfl⟩
  obtain ⟨E, hE⟩ : ∃ E, E = dirsOf W H C s := ⟨_, rfl⟩
  rw [← hD] at e1 HFD HDS HDR
  rw [← hE] at e2 HFD HAT
  rw [← hD] at HAT
  have HE1 := Aside0.mk e1
  have HE2 := Aside0.mk e2
  have HCC := Aside0.mk (And.intro hC hC1)
  have HSL : Aside0 (s.length ≤ 1000000) := ⟨by omega⟩
  have HSL2 : Aside0 (s.length < 2000) := ⟨by omega⟩
  clear hr2 hc2 hr3 hc3 h2 hb2 hM hF hS hs hb e1 e2 hD hE
  go_enter Try.func19, Try.ntmps19
  go_upto_region 2 with (first
    | (go_at_call 37; refine (herdsmanref1_MadeTile.calls 2000 a0 a1 A2 c2 l2 W H C _ HR2.out HC2.out HMT.out).mono ?_; rintro e w1 ⟨v1, rfl, ho, hb⟩; obtain ⟨At, ct, rfl⟩ := Kd.R_slice ho; have HB1 := Aside0.mk hb; have HO1 := Aside0.mk ho; clear hb ho)
    | ((with_reducible refine gate_dst (N := 11) rfl ?_); refine box_event ?hg (N := 11) ?hd (cs := #[.int .i64 0, .int .i64 0, .slice none 0 0]) (t := 35) ?hr ?_; (case hd => rfl); (case hg => rfl); (case hr => first | (go_simp; done) | (go_simp; rfl)); intro gt hg w2 hbox hb; have z0 : w2.cell? ⟨gt, 0, none⟩ = _ := cell_blk hbox rfl; have z1 : w2.cell? ⟨gt, 1, none⟩ = _ := cell_blk hbox rfl; have z2 : w2.cell? ⟨gt, 2, none⟩ = _ := cell_blk hbox rfl; have f0 := free_blk hbox 0; have f1 := free_blk hbox 1; have f2 := free_blk hbox 2; have HX2 := Aside0.mk hbox; have HG2 : Aside0 (w.heap.size ≤ gt) := ⟨by rw [hg]; exact HB1.out.size⟩; have HB2 := Aside0.mk (below_step HB1.out hb); have HO2 := Aside0.mk (Kd.R_below HO1.out hb); clear hb hbox hg))
  obtain ⟨w3, hw3⟩ : ∃ w3, w3 = (((w2.setCell ⟨gt, 0, none⟩ (.int .i64 W)).setCell ⟨gt, 1, none⟩ (.int .i64 H)).setCell ⟨gt, 2, none⟩ (.slice At C.length ct)) := ⟨_, rfl⟩
  rw [← hw3]
  have hX3 : w3.heap[gt]? = some (.cells #[.int .i64 W, .int .i64 H, .slice At C.length ct] 35 (0, 0)) := by rw [hw3]; exact set_blk (set_blk (set_blk HX2.out 0 _) 1 _) 2 _
  have hO3 : Kd.R (Kd.int .u8) 5 w3 w.heap.size (fun _ => True) (.slice At C.length ct) C := by
    rw [hw3]
    exact R_set (R_set (R_set HO2.out HX2.out (by decide) 0 _) (set_blk HX2.out 0 _) (by decide) 1 _) (set_blk (set_blk HX2.out 0 _) 1 _) (by decide) 2 _
  have hB3 : Below w.heap.size w w3 := by
    rw [hw3]
    exact ((((Chg.of_below HB2.out (fun k => w.heap.size ≤ k)).set_ (p := ⟨gt, 0, none⟩) (.inl HG2.out) _).set_ (p := ⟨gt, 1, none⟩) (.inl HG2.out) _).set_ (p := ⟨gt, 2, none⟩) (.inl HG2.out) _).below (fun k hk => hk) (Nat.le_refl _)
  have HC3 := Aside0.mk (R_C hO3)
  have HX3 := Aside0.mk hX3
  have HB3 := Aside0.mk hB3
  have t0 : w3.cell? ⟨gt, 0, none⟩ = some (.int .i64 W) := cell_blk hX3 rfl
  have t1 : w3.cell? ⟨gt, 1, none⟩ = some (.int .i64 H) := cell_blk hX3 rfl
  have t2 : w3.cell? ⟨gt, 2, none⟩ = some (.slice At C.length ct) := cell_blk hX3 rfl
  clear hX3 hO3 hB3 hw3 z0 z1 z2 f0 f1 f2 HX2 HB2 HO2 HB1 HO1 HG2
  go_region_held3 (fun w' => w'.cell? ⟨gt, 0, none⟩ = some (.int .i64 W) ∧ w'.cell? ⟨gt, 1, none⟩ = some (.int .i64 H) ∧ w'.cell? ⟨gt, 2, none⟩ = some (.slice At C.length ct))
    (first | exact ⟨t0, t1, t2⟩ | exact ⟨u0, u1, u2⟩ | exact ⟨x0, x1, x2⟩ | go_keep)
    (first
      | (go_at_call 57; refine (HFW.out _ (Kd.C_below HR3.out (below_drew1 HB3.out))).mono ?_; rintro e w4 ⟨A4, c4, rfl, hF, hF2, hb⟩; have u0 := pw_cell_below hb (a := ⟨gt, 0, none⟩) (v := .int .i64 W) t0; have u1 := pw_cell_below hb (a := ⟨gt, 1, none⟩) (v := .int .i64 H) t1; have u2 := pw_cell_below hb (a := ⟨gt, 2, none⟩) (v := .slice At C.length ct) t2; have HB4 := Aside0.mk (below_step (below_drew1 HB3.out) hb); have HX4 := Aside0.mk (blk_step (w := World.drew w3) HX3.out hb); have HT4 := Aside0.mk (Kd.C_below (w := World.drew w3) (Kd.C_drew HC3.out.1) hb); have HF4 := Aside0.mk (And.intro hF hF2); clear hF hF2 hb)
      | (go_at_call 38; refine (herdsmanref7_Seeds.calls W H At ct C A4 c4 lf s _ HT4.out HC3.out.2 HF4.out.1 HF4.out.2 HSE.out).mono ?_; rintro e w5 ⟨v5, rfl, ho, hb⟩; obtain ⟨As, cs, rfl⟩ := Kd.R_slice ho; have x0 := pw_cell_below hb (a := ⟨gt, 0, none⟩) (v := .int .i64 W) u0; have x1 := pw_cell_below hb (a := ⟨gt, 1, none⟩) (v := .int .i64 H) u1; have x2 := pw_cell_below hb (a := ⟨gt, 2, none⟩) (v := .slice At C.length ct) u2; have HB5 := Aside0.mk (below_step HB4.out hb); have HX5 := Aside0.mk (blk_step HX4.out hb); have HT5 := Aside0.mk (Kd.C_below HT4.out hb); have HS5 := Aside0.mk (R_C ho); clear ho hb))
  go_upto_region 4 with (first
    | (go_at_call 58; refine (field_calls W H At ct C As cs s D E 0 _ HT5.out HC3.out.2 HS5.out.1 HS5.out.2 HFD.out).mono ?_; rintro e w6 ⟨v0, v1, rfl, ho0, ho1, hb⟩; obtain ⟨Ad, cd, rfl⟩ := Kd.R_slice ho0; obtain ⟨Ae, ce, rfl⟩ := Kd.R_slice ho1; have HB6 := Aside0.mk (below_step HB5.out hb); have HX6 := Aside0.mk (blk_step HX5.out hb); have HT6 := Aside0.mk (Kd.C_below HT5.out hb); have HS6 := Aside0.mk (Kd.C_below HS5.out.1 hb); have HD6 := Aside0.mk (Kd.R_lower ho0 HB5.out.size); have HE6 := Aside0.mk (Kd.R_lower ho1 HB5.out.size); have HSZ := Aside0.mk hb.size; clear ho0 ho1 hb x0 x1 x2)
    | ((with_reducible refine gate_dst (N := 13) rfl ?_); refine box_event ?hg (N := 13) ?hd (cs := #[.slice none 0 0, .slice none 0 0]) (t := 60) ?hr ?_; (case hd => rfl); (case hg => rfl); (case hr => first | (go_simp; done) | (go_simp; rfl)); intro gf hg w7 hbox hb; have z0 : w7.cell? ⟨gf, 0, none⟩ = _ := cell_blk hbox rfl; have z1 : w7.cell? ⟨gf, 1, none⟩ = _ := cell_blk hbox rfl; have f0 := free_blk hbox 0; have f1 := free_blk hbox 1; have HF7 := Aside0.mk hbox; have HG7 : Aside0 (w.heap.size ≤ gf ∧ w6.heap.size ≤ gf) := ⟨⟨by rw [hg]; exact HB6.out.size, by rw [hg]; exact Nat.le_refl _⟩⟩; have HB7 := Aside0.mk (below_step HB6.out hb); have HK7 := Aside0.mk hb; have HX7 := Aside0.mk (blk_step HX6.out hb); have HD7 := Aside0.mk (Kd.R_below HD6.out hb); have HE7 := Aside0.mk (Kd.R_below HE6.out hb); clear hb hbox hg))
  obtain ⟨w8, hw8⟩ : ∃ w8, w8 = ((w7.setCell ⟨gf, 0, none⟩ (.slice Ad D.length cd)).setCell ⟨gf, 1, none⟩ (.slice Ae E.length ce)) := ⟨_, rfl⟩
  rw [← hw8]
  have hne : gt ≠ gf := by have h1 := blk_lt HX6.out; have h2 := HG7.out.2; omega
  have hEV : EnvF w8 gt gf W H At ct C As cs s Ad cd D Ae ce E := by
    have hD8 : Kd.R (Kd.int .i64) 3 w8 w.heap.size (fun _ => True) (.slice Ad D.length cd) D := by
      rw [hw8]
      exact R_set (R_set (Kd.R_mono (ok' := fun _ => True) HD7.out (fun _ _ => trivial)) HF7.out (by decide) 0 _) (set_blk HF7.out 0 _) (by decide) 1 _
    have hE8 : Kd.R (Kd.int .i64) 3 w8 w.heap.size (fun _ => True) (.slice Ae E.length ce) E := by
      rw [hw8]
      exact R_set (R_set (Kd.R_mono (ok' := fun _ => True) HE7.out (fun _ _ => trivial)) HF7.out (by decide) 0 _) (set_blk HF7.out 0 _) (by decide) 1 _
    refine ⟨?_, ?_, ⟨?_, HC3.out.2⟩, ⟨?_, HS5.out.2⟩, R_C hD8, R_C hE8⟩
    · rw [hw8]; exact blk_far (blk_far HX7.out hne _) hne _
    · rw [hw8]; exact set_blk (set_blk HF7.out 0 _) 1 _
    · refine Kd.C_below HT6.out ?_
      rw [hw8]
      exact (((Chg.of_below HK7.out (fun k => w6.heap.size ≤ k)).set_ (p := ⟨gf, 0, none⟩) (.inl HG7.out.2) _).set_ (p := ⟨gf, 1, none⟩) (.inl HG7.out.2) _).below (fun k hk => hk) (Nat.le_refl _)
    · refine Kd.C_below HS6.out ?_
      rw [hw8]
      exact (((Chg.of_below HK7.out (fun k => w6.heap.size ≤ k)).set_ (p := ⟨gf, 0, none⟩) (.inl HG7.out.2) _).set_ (p := ⟨gf, 1, none⟩) (.inl HG7.out.2) _).below (fun k hk => hk) (Nat.le_refl _)
  have hB8 : Below w.heap.size w w8 := by
    rw [hw8]
    exact (((Chg.of_below HB7.out (fun k => w.heap.size ≤ k)).set_ (p := ⟨gf, 0, none⟩) (.inl HG7.out.1) _).set_ (p := ⟨gf, 1, none⟩) (.inl HG7.out.1) _).below (fun k hk => hk) (Nat.le_refl _)
  have HEV := Aside0.mk hEV
  have HB8 := Aside0.mk hB8
  obtain ⟨t0, t1, t2, q0, q1⟩ := hEV.cells
  clear hw8 hne hEV hB8 z0 z1 f0 f1 HX3 HC3 HB3 HX4 HT4 HF4 HB4 HX5 HT5 HS5 HB5 HX6 HT6 HS6 HB6 HD6 HE6 HSZ HX7 HF7 HG7 HB7 HD7 HE7 HK7
  have k1 : ((D.length : Int) != (C.length : Int)) = false := by rw [HE1.out]; simp
  have k2 : ((E.length : Int) != (C.length : Int)) = false := by rw [HE2.out]; simp
  have hCl := HCC.out
  have hwl : IntKind.i64.wrap ((C.length : Int) - 1) = (C.length : Int) - 1 := by rw [IntKind.wrap_i64]; omega
  have hf0 := Int.emod_nonneg a4 (show (C.length : Int) - 1 + 1 ≠ 0 by omega)
  have hf1 := Int.emod_lt_of_pos a4 (show 0 < (C.length : Int) - 1 + 1 by omega)
  have hWI := within0 a4 (n := (C.length : Int) - 1) (by omega) (by omega)
  obtain ⟨i, hi⟩ : ∃ n : Nat, a4 % ((C.length : Int) - 1 + 1) = (n : Int) := ⟨(a4 % ((C.length : Int) - 1 + 1)).toNat, by omega⟩
  rw [hi] at hWI hf0 hf1
  have HWI := Aside0.mk hWI
  have hil : i < C.length := by omega
  have HIL := Aside0.mk hil
  clear hWI hi hf0 hf1 hCl
  go_upto_region 7 with (go_at_call 34; refine (herdsmanref1_Within.calls a4 0 ((C.length : Int) - 1) (i : Int) _ HWI.out).mono ?_; rintro e w9 ⟨rfl, hd⟩; have HE9 := Aside0.mk (HEV.out.below hd.below); have HB9 := Aside0.mk (below_step HB8.out hd.below); clear hd t0 t1 t2 q0 q1)
  obtain ⟨t0, t1, t2, q0, q1⟩ := HE9.out.cells
  obtain ⟨ad, hAd, di⟩ := HE9.out.distAt (i := i) (by rw [HE1.out]; exact hil)
  obtain ⟨ae, hAe, ei⟩ := HE9.out.dirsAt (i := i) (by rw [HE2.out]; exact hil)
  obtain ⟨dd, hdd⟩ : ∃ v, v = rd D i := ⟨_, rfl⟩
  obtain ⟨ee, hee⟩ : ∃ v, v = rd E i := ⟨_, rfl⟩
  rw [← hdd] at di
  rw [← hee] at ei
  have hil1 : (i : Int) < (D.length : Int) := by rw [HE1.out]; omega
  have hil2 : (i : Int) < (E.length : Int) := by rw [HE2.out]; omega
  have hspec := HDS.out i hil ee (by rw [hee, HAT.out i hil])
  rw [← hdd] at hspec
  have HDD := Aside0.mk hdd
  subst hAd
  subst hAe
  clear hdd hee hil k1 k2 hwl
  rcases hspec with ⟨rfl, hinf⟩ | ⟨hf, rfl, hbe⟩ | ⟨hf, hsd, h4, hby, hno⟩
  · subst hinf
    have z5 : ((5 : Int) == 5) = true := rfl
    have zi : ((INF : Int) == 1099511627776) = true := rfl
    unfold INF at *
    go_wp2_with (go_at_call 56; refine (told10_calls _).mono ?_; rintro e wt ⟨rfl, hb⟩; have p0 := pw_cell_below hb q0; have pd := pw_cell_below hb di; have HBt := Aside0.mk (below_step HB9.out hb); clear hb q0 di t0 t1 t2 q1 ei)
    go_ret
    exact ⟨rfl, HBt.out⟩
  · have z5 : ((4 : Int) == 5) = false := rfl
    have z4 : ((4 : Int) == 4) = true := rfl
    have HBS := Aside0.mk (refBest_some s (i : Int) 4 HSL.out 2000 HSL2.out)
    rw [hbe] at HBS
    have zb : (dd == dd) = true := by simp
    go_upto_region 9 with (fail)
    go_quiet ((go_at_call 41; refine (herdsmanref7_Best.calls 2000 As cs s i 4 dd _ (Kd.C_drewN HE9.out.seeds.1 _) HE9.out.seeds.2 HBS.out).mono ?_; rintro e w' ⟨rfl, ⟨nd, rfl⟩⟩; exact ⟨rfl, _, World.drewN_drewN _ _ _⟩))
    have HBq : Aside0 (Below w9.heap.size w9 (w9.drewN nq)) := ⟨pw_below_drewN (Below.refl _ _) _⟩
    generalize w9.drewN nq = wq at *
    have x1 := pw_cell_below HBq.out q1
    have xe := pw_cell_below HBq.out ei
    clear q0 q1 t0 t1 t2 di ei
    go_wp2_with (go_at_call 56; refine (told10_calls _).mono ?_; rintro e wt ⟨rfl, hb⟩; have p1 := pw_cell_below hb x1; have pe := pw_cell_below hb xe; have HBt := Aside0.mk (below_step (below_step HB9.out HBq.out) hb); clear hb x1 xe)
    go_ret
    exact ⟨rfl, HBt.out⟩
  · have z5 : (ee == 5) = false := beq_eq_false_iff_ne.2 (by omega)
    obtain ⟨b4, hb4⟩ : ∃ b4, b4 = bestS s i 4 := ⟨_, rfl⟩
    have HBS := Aside0.mk (refBest_some s (i : Int) 4 HSL.out 2000 HSL2.out)
    rw [← hb4] at HBS h4
    have zb : (b4 == dd) = false := beq_eq_false_iff_ne.2 h4
    have HNO := Aside0.mk hno
    have HSO2 := HSO.out.1
    have HTO := Aside0.mk HSO2
    have hee3 : ee ≤ 3 := hsd.2
    have hee0 : 0 ≤ ee := hsd.1
    clear hb4 h4 hno hf hby hsd HSO2
    go_upto_region 9 with (fail)
    go_quiet ((go_at_call 41; refine (herdsmanref7_Best.calls 2000 As cs s i 4 b4 _ (Kd.C_drewN HE9.out.seeds.1 _) HE9.out.seeds.2 HBS.out).mono ?_; rintro e w' ⟨rfl, ⟨nd, rfl⟩⟩; exact ⟨rfl, _, World.drewN_drewN _ _ _⟩))
    have HBq : Aside0 (Below w9.heap.size w9 (w9.drewN nq)) := ⟨pw_below_drewN (Below.refl _ _) _⟩
    generalize w9.drewN nq = wq at *
    have HT0 := Aside0.mk t0
    have HT1 := Aside0.mk t1
    have HT2 := Aside0.mk t2
    have HQ0 := Aside0.mk q0
    have HQ1 := Aside0.mk q1
    have HDI := Aside0.mk di
    have HEI := Aside0.mk ei
    clear t0 t1 t2 q0 q1 di ei
    go_wp2_with fail
    go_loopg [16] 4 (fun gg v16 wr => ∃ sd : Int, v16 = .int .i64 sd ∧ 0 ≤ sd ∧ sd ≤ ee ∧ ee - sd ≤ gg ∧ Aside0 (Below w9.heap.size w9 wr))
    case atStart => exact ⟨0, rfl, Int.le_refl _, hee0, by omega, HBq⟩
    case round =>
      obtain ⟨sd, rfl, hs0, hs1, hgg, HBr⟩ := hrel
      have t0 := pw_cell_below HBr.out HT0.out
      have t1 := pw_cell_below HBr.out HT1.out
      have t2 := pw_cell_below HBr.out HT2.out
      have q0 := pw_cell_below HBr.out HQ0.out
      have q1 := pw_cell_below HBr.out HQ1.out
      have di := pw_cell_below HBr.out HDI.out
      have ei := pw_cell_below HBr.out HEI.out
      by_cases hlt : sd < ee
      · have hnb := HNO.out sd hs0 hlt
        have HNB := Aside0.mk hnb
        have hnr := near_some HTO.out HIL.out (s := sd) (by omega) 2000 (by omega)
        by_cases ho : OutE W H i sd
        · rw [if_pos ho] at hnr
          have HNR := Aside0.mk hnr
          obtain ⟨bs, hbs⟩ : ∃ bs, bs = bestS s i sd := ⟨_, rfl⟩
          have HB2 := Aside0.mk (refBest_some s (i : Int) sd HSL.out 2000 HSL2.out)
          rw [← hbs] at HB2
          have zn : (bs == dd) = false := beq_eq_false_iff_ne.2 (fun e => hnb (.inl ⟨ho, by rw [← hbs, ← HDD.out]; exact e⟩))
          clear hnb hnr hbs ho
          go_upto_region 15 with (go_at_call 44; refine (herdsmanref1_Near.calls 2000 W H At ct C i sd (-1) _ (Kd.C_below HE9.out.tile.1 HBr.out) HE9.out.tile.2 HNR.out).mono ?_; rintro e wn ⟨rfl, hd⟩; have HBn := Aside0.mk (below_step HBr.out hd); have r0 := pw_cell_below hd q0; have rd0 := pw_cell_below hd di; clear hd t0 t1 t2 q0 q1 di ei)
          go_quiet ((go_at_call 41; refine (herdsmanref7_Best.calls 2000 As cs s i sd bs _ (Kd.C_drewN (Kd.C_below HE9.out.seeds.1 HBn.out) _) HE9.out.seeds.2 HB2.out).mono ?_; rintro e w' ⟨rfl, ⟨nd, rfl⟩⟩; exact ⟨rfl, _, World.drewN_drewN _ _ _⟩))
          have HBm : Aside0 (Below w9.heap.size w9 (wn.drewN nq)) := ⟨pw_below_drewN HBn.out _⟩
          generalize wn.drewN nq = wm at *
          go_wp2_with fail
          go_roundg (ee - (sd + 1)).toNat
          case measure => omega
          case rel => exact ⟨sd + 1, by go_num, by omega, by omega, by omega, HBm⟩
        · obtain ⟨g1, g2, g3, g4, g5, g6⟩ := HTO.out
          obtain ⟨b0, b1, _⟩ := nb_in ⟨g1, g2⟩ ⟨g3, g4⟩ g5 (show (0 : Int) ≤ (i : Int) by omega) (by have := HIL.out; omega) (show 0 ≤ sd ∧ sd ≤ 3 by omega) ho
          obtain ⟨j, hj⟩ : ∃ j : Nat, nbS W i sd = (j : Int) := ⟨(nbS W i sd).toNat, by omega⟩
          rw [if_neg ho, hj] at hnr
          rw [hj] at b0 b1
          have HNR := Aside0.mk hnr
          have hjl : j < C.length := by omega
          have hdr := HDR.out j hjl
          unfold INF at hdr
          have hcr := HBC.out (C[j]'hjl) (List.getElem_mem _)
          rw [← rd_get C hjl] at hcr
          obtain ⟨at_, hAt, tj⟩ := HE9.out.tileAt hjl
          obtain ⟨ad', hAd', dj⟩ := HE9.out.distAt (i := j) (by rw [HE1.out]; exact hjl)
          obtain rfl := Option.some.inj hAd'
          obtain ⟨dv, hdv⟩ : ∃ v, v = rd D j := ⟨_, rfl⟩
          obtain ⟨cv, hcv⟩ : ∃ v, v = rd C j := ⟨_, rfl⟩
          rw [← hdv] at dj hdr
          rw [← hcv] at tj hcr
          have hnn : cv ≠ 255 → dv + cv ≠ dd := fun hw e => hnb (.inr ⟨ho, by rw [hj, ← hcv]; exact hw, by rw [hj, ← hcv, ← hdv, ← HDD.out]; omega⟩)
          have hj1 : (j : Int) < (D.length : Int) := by rw [HE1.out]; omega
          have hj2 : (j : Int) < (C.length : Int) := by omega
          have hj0 : (0 : Int) ≤ (j : Int) := by omega
          have zj : decide ((j : Int) < 0) = false := decide_eq_false (by omega)
          have zj2 : ¬ ((j : Int) < 0) := by omega
          have TJ := pw_cell_below HBr.out tj
          have DJ := pw_cell_below HBr.out dj
          have HTL := Aside0.mk HE9.out.tile
          have HLO := Aside0.mk hlt
          have HGG := Aside0.mk hgg
          have HSS := Aside0.mk hs0
          clear hnb hnr hdv hcv hj b0 b1 ho g1 g2 g3 g4 g5 g6 hAd' tj dj hjl
          subst hAt
          by_cases hw : cv = 255
          · subst hw
            have hff : ((255 : Int) != 255) = false := rfl
            clear hnn hdr hcr
            go_upto_region 15 with (go_at_call 44; refine (herdsmanref1_Near.calls 2000 W H (some at_) ct C i sd j _ (Kd.C_below HTL.out.1 HBr.out) HTL.out.2 HNR.out).mono ?_; rintro e wn ⟨rfl, hd⟩; have HBn := Aside0.mk (below_step HBr.out hd); have r0 := pw_cell_below hd q0; have rd0 := pw_cell_below hd di; have r2 := pw_cell_below hd t2; have rt := pw_cell_below hd TJ; have rj := pw_cell_below hd DJ; clear hd t0 t1 t2 q0 q1 di ei TJ DJ)
            go_quiet (fail)
            have HBm : Aside0 (Below w9.heap.size w9 (wn.drewN nq)) := ⟨pw_below_drewN HBn.out _⟩
            generalize wn.drewN nq = wm at *
            go_wp2_with fail
            go_roundg (ee - (sd + 1)).toNat
            case measure => have := HLO.out; have := HGG.out; have := HSS.out; omega
            case rel => exact ⟨sd + 1, by go_num, by have := HSS.out; omega, by have := HLO.out; omega, by have := HLO.out; omega, HBm⟩
          · have b1 : (cv != 255) = true := by simp [hw]
            have hwr1 : IntKind.i64.wrap cv = cv := by rw [IntKind.wrap_i64]; omega
            have hwr : IntKind.i64.wrap (dv + cv) = dv + cv := by rw [IntKind.wrap_i64]; omega
            have zs : (dv + cv == dd) = false := beq_eq_false_iff_ne.2 (hnn hw)
            clear hnn hdr hcr hw
            go_upto_region 15 with (go_at_call 44; refine (herdsmanref1_Near.calls 2000 W H (some at_) ct C i sd j _ (Kd.C_below HTL.out.1 HBr.out) HTL.out.2 HNR.out).mono ?_; rintro e wn ⟨rfl, hd⟩; have HBn := Aside0.mk (below_step HBr.out hd); have r0 := pw_cell_below hd q0; have rd0 := pw_cell_below hd di; have r2 := pw_cell_below hd t2; have rt := pw_cell_below hd TJ; have rj := pw_cell_below hd DJ; clear hd t0 t1 t2 q0 q1 di ei TJ DJ)
            go_quiet (fail)
            have HBm : Aside0 (Below w9.heap.size w9 (wn.drewN nq)) := ⟨pw_below_drewN HBn.out _⟩
            generalize wn.drewN nq = wm at *
            clear hwr1 hwr zs
            go_wp2_with fail
            go_roundg (ee - (sd + 1)).toNat
            case measure => have := HLO.out; have := HGG.out; have := HSS.out; omega
            case rel => exact ⟨sd + 1, by go_num, by have := HSS.out; omega, by have := HLO.out; omega, by have := HLO.out; omega, HBm⟩
      · have : sd = ee := by omega
        subst this
        have z3 : decide (sd ≤ 3) = true := decide_eq_true hee3
        go_wp2_with (go_at_call 56; refine (told10_calls _).mono ?_; rintro e wt ⟨rfl, hb⟩; have p1 := pw_cell_below hb q1; have pe := pw_cell_below hb ei; have HBt := Aside0.mk (below_step (below_step HB9.out HBr.out) hb); clear hb t0 t1 t2 q0 q1 di ei)
        go_ret
        exact ⟨rfl, HBt.out⟩

/-- The law's plain statement: its walk knows the law. -/
def herdsmanlaw10_FieldFirst.Pure : Prop := True
theorem herdsmanlaw10_FieldFirst.walk (P : herdsmanlaw10_FieldFirst.Pure) (a0 : Int) (a1 : Int) (a2 : Option Addr) (len2 cap2 : Nat) (z2 : List Int) (a3 : Option Addr) (len3 cap3 : Nat) (z3 : List Int) (a4 : Int) (w : World) (w0 : (Lit.int .i64 a0).wf = true) (w1 : (Lit.int .i64 a1).wf = true) (w2 : (a2 = none ∧ len2 = 0 ∧ cap2 = 0 ∧ z2 = []) ∨ ∃ x, a2 = some x ∧ len2 ≤ cap2 ∧ cap2 ≤ maxLen ∧ z2.length = cap2 ∧ (∀ i, i < z2.length → w.cell? (x.add i) = some (.int .u8 (z2.getD i 0))) ∧ ∀ n ∈ z2, (Lit.int .u8 n).wf = true) (y2 : len2 * 1 ≤ 140737488351232) (w3 : (a3 = none ∧ len3 = 0 ∧ cap3 = 0 ∧ z3 = []) ∨ ∃ x, a3 = some x ∧ len3 ≤ cap3 ∧ cap3 ≤ maxLen ∧ z3.length = cap3 ∧ (∀ i, i < z3.length → w.cell? (x.add i) = some (.int .i64 (z3.getD i 0))) ∧ ∀ n ∈ z3, (Lit.int .i64 n).wf = true) (y3 : len3 * 8 ≤ 140737488351232) (w4 : (Lit.int .i64 a4).wf = true) :
    Calls Try.prog 19 #[.int .i64 a0, .int .i64 a1, .slice a2 len2 cap2, .slice a3 len3 cap3, .int .i64 a4] w fun e w' => e = .returned (.bool true) ∧ Below w.heap.size w w' := by
  obtain ⟨l2, rfl, hr2, hm2, hw2, hc2⟩ := ReadsInt.ofRowC w2
  obtain ⟨l3, rfl, hr3, hm3, hw3, hc3⟩ := ReadsInt.ofRowC w3
  exact fieldFirst_calls a0 a1 _ _ l2 _ _ l3 a4 w (Kd.C_of_reads (d := (0 : Int)) (h1 := fun _ => rfl) hr2) hc2 (Kd.C_of_reads (d := (0 : Int)) (h1 := fun _ => rfl) hr3) hc3 y2 hw2
end Go.Proofs.Ytgcfcemgeppkmaa.P
