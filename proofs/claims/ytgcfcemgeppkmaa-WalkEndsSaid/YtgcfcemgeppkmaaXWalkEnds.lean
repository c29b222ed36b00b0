/-
  herdsmanlaw10.WalkEnds.
-/
import Derived.Test.YtgcfcemgeppkmaaXWalkP
import Derived.Deep.CutBlock
namespace Go.Proofs.Ytgcfcemgeppkmaa.P
open Go.RowKit Go.Proofs.YtgcfcemgeppkmaaW.PrintWords Go.Proofs.YtgcfcemgeppkmaaW.PrintLast Go.Proofs.YtgcfcemgeppkmaaW.PrintMore
open Go.Proofs.Ytgcfcemgeppkmaa.Dist
set_option linter.unusedVariables false
set_option linter.unusedSimpArgs false

set_option maxRecDepth 100000 in
set_option maxHeartbeats 4000000 in
theorem walkEnds_calls (a0 a1 : Int) (A2 : Option Addr) (c2 : Nat) (l2 : List Int) (A3 : Option Addr) (c3 : Nat) (l3 : List Int) (a4 : Int) (w : World) (hr2 : Kd.C (Kd.int .u8) w A2 l2.length l2) (hc2 : l2.length ≤ c2) (hr3 : Kd.C (Kd.int .i64) w A3 l3.length l3) (hc3 : l3.length ≤ c3) (h2 : l2.length * 1 ≤ 140737488351232) (hb2 : ∀ x ∈ l2, (Lit.int .u8 x).wf = true) :
    Calls Try.prog 21 #[.int .i64 a0, .int .i64 a1, .slice A2 l2.length c2, .slice A3 l3.length c3, .int .i64 a4] w fun e w' => e = .returned (.bool true) ∧ Below w.heap.size w w' := by
  have HR2 := Aside0.mk hr2
  have HC2 := Aside0.mk hc2
  have HR3 := Aside0.mk hr3
  have HC3' := Aside0.mk hc3
  obtain ⟨W, H, C, s, hM, hF, hS, hs, hb, hsl, hC, hC1⟩ := begin10 a0 a1 l2 l3 h2 hb2
  have HMT := Aside0.mk (hM 2000 (by omega))
  obtain ⟨lf, hlf⟩ : ∃ lf, lf = l3.take (min l3.length 24) := ⟨_, rfl⟩
  rw [← hlf] at hS
  have HSE := Aside0.mk hS
  have HFW := Aside0.mk (fun (w1 : World) (h1 : Kd.C (Kd.int .i64) w1 A3 l3.length l3) => few10_calls A3 c3 l3 w1 h1 hc3)
  rw [← hlf] at HFW
  clear hlf
  have HSO := Aside0.mk hs
  have HBC := Aside0.mk hb
  have e1 := dist_len hb hs
  have e2 := dirs_len W H C s
  have HFD := Aside0.mk (show fieldF W H C s = some (distOf W C s, dirsOf W H C s, 0) from field_some hb hs (by omega))
  have HDS := Aside0.mk (fun (i : Nat) (hi : i < C.length) (d : Int) (hd : dirS W H C s (distOf W C s) i = d) => dir_spec hb hs hi hd)
  have HAT := Aside0.mk (fun (i : Nat) (hi : i < C.length) => dirs_at W H C s hi)
  have HDR := Aside0.mk (fun (i : Nat) (hi : i < C.length) => dist_range hb hs hi)
  obtain ⟨D, hD⟩ : ∃ D, D = distOf W C s := ⟨_, rfl⟩
  obtain ⟨E, hE⟩ : ∃ E, E = dirsOf W H C s := ⟨_, rfl⟩
  rw [← hD] at e1 HFD HDS HDR
  rw [← hE] at e2 HFD HAT
  rw [← hD] at HAT
  have HGW := Aside0.mk (goS_way hb hs hD hE)
  have HE1 := Aside0.mk e1
  have HE2 := Aside0.mk e2
  have HCC := Aside0.mk (And.intro hC hC1)
  have HSL : Aside0 (s.length ≤ 1000000) := ⟨by omega⟩
  have HSL2 : Aside0 (s.length < 2000) := ⟨by omega⟩
  clear hr2 hc2 hr3 hc3 h2 hb2 hM hF hS hs hb e1 e2 hD hE
  go_enter Try.func21, Try.ntmps21
  go_upto_region 2 with (first
    | (go_at_call 37; refine (herdsmanref1_MadeTile.calls 2000 a0 a1 A2 c2 l2 W H C _ HR2.out HC2.out HMT.out).mono ?_; rintro e w1 ⟨v1, rfl, ho, hb⟩; obtain ⟨At, ct, rfl⟩ := Kd.R_slice ho; have HB1 := Aside0.mk hb; have HO1 := Aside0.mk ho; clear hb ho)
    | ((with_reducible refine gate_dst (N := 11) rfl ?_); refine box_event ?hg (N := 11) ?hd (cs := #[.int .i64 0, .int .i64 0, .slice none 0 0]) (t := 35) ?hr ?_; (case hd => rfl); (case hg => rfl); (case hr => first | (go_simp; done) | (go_simp; rfl)); intro gt hg w2 hbox hb; have z0 : w2.cell? ⟨gt, 0, none⟩ = _ := cell_blk hbox rfl; have z1 : w2.cell? ⟨gt, 1, none⟩ = _ := cell_blk hbox rfl; have z2 : w2.cell? ⟨gt, 2, none⟩ = _ := cell_blk hbox rfl; have f0 := free_blk hbox 0; have f1 := free_blk hbox 1; have f2 := free_blk hbox 2; have HX2 := Aside0.mk hbox; have HG2 : Aside0 (w.heap.size ≤ gt) := ⟨by rw [hg]; exact HB1.out.size⟩; have HB2 := Aside0.mk (below_step HB1.out hb); have HO2 := Aside0.mk (Kd.R_below HO1.out hb); clear hb hbox hg))
  obtain ⟨w3, hw3⟩ : ∃ w3, w3 = (((w2.setCell ⟨gt, 0, none⟩ (.int .i64 W)).setCell ⟨gt, 1, none⟩ (.int .i64 H)).setCell ⟨gt, 2, none⟩ (.slice At C.length ct)) := ⟨_, rfl⟩
  rw [← hw3]
  have hX3 : w3.heap[gt]? = some (.cells #[.int .i64 W, .int .i64 H, .slice At C.length ct] 35 (0, 0)) := by rw [hw3]; exact set_blk (set_blk (set_blk HX2.out 0 _) 1 _) 2 _
  have hO3 : Kd.R (Kd.int .u8) 5 w3 w.heap.size (fun _ => True) (.slice At C.length ct) C := by
    rw [hw3]
    exact R_set (R_set (R_set HO2.out HX2.out (by decide) 0 _) (set_blk HX2.out 0 _) (by decide) 1 _) (set_blk (set_blk HX2.out 0 _) 1 _) (by decide) 2 _
  have hB3 : Below w.heap.size w w3 := by
    rw [hw3]
    exact ((((Chg.of_below HB2.out (fun k => w.heap.size ≤ k)).set_ (p := ⟨gt, 0, none⟩) (.inl HG2.out) _).set_ (p := ⟨gt, 1, none⟩) (.inl HG2.out) _).set_ (p := ⟨gt, 2, none⟩) (.inl HG2.out) _).below (fun k hk => hk) (Nat.le_refl _)
  have HC3 := Aside0.mk (R_C hO3)
  have HX3 := Aside0.mk hX3
  have HB3 := Aside0.mk hB3
  have t0 : w3.cell? ⟨gt, 0, none⟩ = some (.int .i64 W) := cell_blk hX3 rfl
  have t1 : w3.cell? ⟨gt, 1, none⟩ = some (.int .i64 H) := cell_blk hX3 rfl
  have t2 : w3.cell? ⟨gt, 2, none⟩ = some (.slice At C.length ct) := cell_blk hX3 rfl
  clear hX3 hO3 hB3 hw3 z0 z1 z2 f0 f1 f2 HX2 HB2 HO2 HB1 HO1 HG2
  go_region_held3 (fun w' => w'.cell? ⟨gt, 0, none⟩ = some (.int .i64 W) ∧ w'.cell? ⟨gt, 1, none⟩ = some (.int .i64 H) ∧ w'.cell? ⟨gt, 2, none⟩ = some (.slice At C.length ct))
    (first | exact ⟨t0, t1, t2⟩ | exact ⟨u0, u1, u2⟩ | exact ⟨x0, x1, x2⟩ | go_keep)
    (first
      | (go_at_call 57; refine (HFW.out _ (Kd.C_below HR3.out (below_drew1 HB3.out))).mono ?_; rintro e w4 ⟨A4, c4, rfl, hF, hF2, hb⟩; have u0 := pw_cell_below hb (a := ⟨gt, 0, none⟩) (v := .int .i64 W) t0; have u1 := pw_cell_below hb (a := ⟨gt, 1, none⟩) (v := .int .i64 H) t1; have u2 := pw_cell_below hb (a := ⟨gt, 2, none⟩) (v := .slice At C.length ct) t2; have HB4 := Aside0.mk (below_step (below_drew1 HB3.out) hb); have HX4 := Aside0.mk (blk_step (w := World.drew w3) HX3.out hb); have HT4 := Aside0.mk (Kd.C_below (w := World.drew w3) (Kd.C_drew HC3.out.1) hb); have HF4 := Aside0.mk (And.intro hF hF2); clear hF hF2 hb)
      | (go_at_call 38; refine (herdsmanref7_Seeds.calls W H At ct C A4 c4 lf s _ HT4.out HC3.out.2 HF4.out.1 HF4.out.2 HSE.out).mono ?_; rintro e w5 ⟨v5, rfl, ho, hb⟩; obtain ⟨As, cs, rfl⟩ := Kd.R_slice ho; have x0 := pw_cell_below hb (a := ⟨gt, 0, none⟩) (v := .int .i64 W) u0; have x1 := pw_cell_below hb (a := ⟨gt, 1, none⟩) (v := .int .i64 H) u1; have x2 := pw_cell_below hb (a := ⟨gt, 2, none⟩) (v := .slice At C.length ct) u2; have HB5 := Aside0.mk (below_step HB4.out hb); have HX5 := Aside0.mk (blk_step HX4.out hb); have HT5 := Aside0.mk (Kd.C_below HT4.out hb); have HS5 := Aside0.mk (R_C ho); clear ho hb))
  go_upto_region 4 with (first
    | (go_at_call 58; refine (field_calls W H At ct C As cs s D E 0 _ HT5.out HC3.out.2 HS5.out.1 HS5.out.2 HFD.out).mono ?_; rintro e w6 ⟨v0, v1, rfl, ho0, ho1, hb⟩; obtain ⟨Ad, cd, rfl⟩ := Kd.R_slice ho0; obtain ⟨Ae, ce, rfl⟩ := Kd.R_slice ho1; have HB6 := Aside0.mk (below_step HB5.out hb); have HX6 := Aside0.mk (blk_step HX5.out hb); have HT6 := Aside0.mk (Kd.C_below HT5.out hb); have HS6 := Aside0.mk (Kd.C_below HS5.out.1 hb); have HD6 := Aside0.mk (Kd.R_lower ho0 HB5.out.size); have HE6 := Aside0.mk (Kd.R_lower ho1 HB5.out.size); have HSZ := Aside0.mk hb.size; clear ho0 ho1 hb x0 x1 x2)
    | ((with_reducible refine gate_dst (N := 13) rfl ?_); refine box_event ?hg (N := 13) ?hd (cs := #[.slice none 0 0, .slice none 0 0]) (t := 60) ?hr ?_; (case hd => rfl); (case hg => rfl); (case hr => first | (go_simp; done) | (go_simp; rfl)); intro gf hg w7 hbox hb; have z0 : w7.cell? ⟨gf, 0, none⟩ = _ := cell_blk hbox rfl; have z1 : w7.cell? ⟨gf, 1, none⟩ = _ := cell_blk hbox rfl; have f0 := free_blk hbox 0; have f1 := free_blk hbox 1; have HF7 := Aside0.mk hbox; have HG7 : Aside0 (w.heap.size ≤ gf ∧ w6.heap.size ≤ gf) := ⟨⟨by rw [hg]; exact HB6.out.size, by rw [hg]; exact Nat.le_refl _⟩⟩; have HB7 := Aside0.mk (below_step HB6.out hb); have HK7 := Aside0.mk hb; have HX7 := Aside0.mk (blk_step HX6.out hb); have HD7 := Aside0.mk (Kd.R_below HD6.out hb); have HE7 := Aside0.mk (Kd.R_below HE6.out hb); clear hb hbox hg))
  obtain ⟨w8, hw8⟩ : ∃ w8, w8 = ((w7.setCell ⟨gf, 0, none⟩ (.slice Ad D.length cd)).setCell ⟨gf, 1, none⟩ (.slice Ae E.length ce)) := ⟨_, rfl⟩
  rw [← hw8]
  have hne : gt ≠ gf := by have h1 := blk_lt HX6.out; have h2 := HG7.out.2; omega
  have hEV : EnvF w8 gt gf W H At ct C As cs s Ad cd D Ae ce E := by
    have hD8 : Kd.R (Kd.int .i64) 3 w8 w.heap.size (fun _ => True) (.slice Ad D.length cd) D := by
      rw [hw8]
      exact R_set (R_set (Kd.R_mono (ok' := fun _ => True) HD7.out (fun _ _ => trivial)) HF7.out (by decide) 0 _) (set_blk HF7.out 0 _) (by decide) 1 _
    have hE8 : Kd.R (Kd.int .i64) 3 w8 w.heap.size (fun _ => True) (.slice Ae E.length ce) E := by
      rw [hw8]
      exact R_set (R_set (Kd.R_mono (ok' := fun _ => True) HE7.out (fun _ _ => trivial)) HF7.out (by decide) 0 _) (set_blk HF7.out 0 _) (by decide) 1 _
    refine ⟨?_, ?_, ⟨?_, HC3.out.2⟩, ⟨?_, HS5.out.2⟩, R_C hD8, R_C hE8⟩
    · rw [hw8]; exact blk_far (blk_far HX7.out hne _) hne _
    · rw [hw8]; exact set_blk (set_blk HF7.out 0 _) 1 _
    · refine Kd.C_below HT6.out ?_
      rw [hw8]
      exact (((Chg.of_below HK7.out (fun k => w6.heap.size ≤ k)).set_ (p := ⟨gf, 0, none⟩) (.inl HG7.out.2) _).set_ (p := ⟨gf, 1, none⟩) (.inl HG7.out.2) _).below (fun k hk => hk) (Nat.le_refl _)
    · refine Kd.C_below HS6.out ?_
      rw [hw8]
      exact (((Chg.of_below HK7.out (fun k => w6.heap.size ≤ k)).set_ (p := ⟨gf, 0, none⟩) (.inl HG7.out.2) _).set_ (p := ⟨gf, 1, none⟩) (.inl HG7.out.2) _).below (fun k hk => hk) (Nat.le_refl _)
  have hB8 : Below w.heap.size w w8 := by
    rw [hw8]
    exact (((Chg.of_below HB7.out (fun k => w.heap.size ≤ k)).set_ (p := ⟨gf, 0, none⟩) (.inl HG7.out.1) _).set_ (p := ⟨gf, 1, none⟩) (.inl HG7.out.1) _).below (fun k hk => hk) (Nat.le_refl _)
  have HEV := Aside0.mk hEV
  have HB8 := Aside0.mk hB8
  obtain ⟨t0, t1, t2, q0, q1⟩ := hEV.cells
  clear hw8 hne hEV hB8 z0 z1 f0 f1 HX3 HC3 HB3 HX4 HT4 HF4 HB4 HX5 HT5 HS5 HB5 HX6 HT6 HS6 HB6 HD6 HE6 HSZ HX7 HF7 HG7 HB7 HD7 HE7 HK7
  have k1 : ((D.length : Int) != (C.length : Int)) = false := by rw [HE1.out]; simp
  have k2 : ((E.length : Int) != (C.length : Int)) = false := by rw [HE2.out]; simp
  have hCl := HCC.out
  have hwl : IntKind.i64.wrap ((C.length : Int) - 1) = (C.length : Int) - 1 := by rw [IntKind.wrap_i64]; omega
  have hf0 := Int.emod_nonneg a4 (show (C.length : Int) - 1 + 1 ≠ 0 by omega)
  have hf1 := Int.emod_lt_of_pos a4 (show 0 < (C.length : Int) - 1 + 1 by omega)
  have hWI := within0 a4 (n := (C.length : Int) - 1) (by omega) (by omega)
  obtain ⟨i, hi⟩ : ∃ n : Nat, a4 % ((C.length : Int) - 1 + 1) = (n : Int) := ⟨(a4 % ((C.length : Int) - 1 + 1)).toNat, by omega⟩
  rw [hi] at hWI hf0 hf1
  have HWI := Aside0.mk hWI
  have hil : i < C.length := by omega
  have HIL := Aside0.mk hil
  clear hWI hi hf0 hf1 hCl
  go_upto_region 7 with (go_at_call 34; refine (herdsmanref1_Within.calls a4 0 ((C.length : Int) - 1) (i : Int) _ HWI.out).mono ?_; rintro e w9 ⟨rfl, hd⟩; have HE9 := Aside0.mk (HEV.out.below hd.below); have HB9 := Aside0.mk (below_step HB8.out hd.below); clear hd t0 t1 t2 q0 q1)
  obtain ⟨t0, t1, t2, q0, q1⟩ := HE9.out.cells
  obtain ⟨ad, hAd, di⟩ := HE9.out.distAt (i := i) (by rw [HE1.out]; exact hil)
  obtain ⟨dd, hdd⟩ : ∃ v, v = rd D i := ⟨_, rfl⟩
  rw [← hdd] at di
  have HDD := Aside0.mk hdd
  have hil1 : (i : Int) < (D.length : Int) := by rw [HE1.out]; omega
  obtain ⟨L, hL⟩ : ∃ L, L = goS W H E (C.length - 1) (i : Int) := ⟨_, rfl⟩
  obtain ⟨ld, hld⟩ : ∃ ld, ld = rd E (lastS L) := ⟨_, rfl⟩
  have hWK : walkF W H C D E i = some (L, ld) := by
    unfold walkF
    rw [if_pos ⟨HSO.out.1, HE1.out, HE2.out, by omega, by omega⟩, ← hL, ← hld]
  have HWK := Aside0.mk hWK
  have HLE := Aside0.mk hL
  have HLD := Aside0.mk hld
  have hLl : L.length ≤ 256 := by
    have h1 := goS_len W H E (C.length - 1) (i : Int)
    have h2 := HCC.out
    rw [← hL] at h1
    omega
  subst hAd
  clear hWK hL hld hdd k1 k2 hwl
  go_upto_region 8 with (go_at_call 61; refine (walk_calls W H At ct C (some ad) cd D Ae ce E (i : Int) L ld _ HE9.out.tile.1 HE9.out.tile.2 HE9.out.dist.1 HE9.out.dist.2 HE9.out.dirs.1 HE9.out.dirs.2 HWK.out).mono ?_; rintro e w10 ⟨v0, rfl, ho, hb⟩; obtain ⟨Al, cl, rfl⟩ := Kd.R_slice ho; have HB10 := Aside0.mk (below_step HB9.out hb); have HE10 := Aside0.mk (HE9.out.below hb); have HL10 := Aside0.mk (R_C ho); have di10 := pw_cell_below hb di; clear hb ho t0 t1 t2 q0 q1 di)
  obtain ⟨t0, t1, t2, q0, q1⟩ := HE10.out.cells
  by_cases hinf : dd = INF
  · have hspec := HDS.out i hil (rd E i) (HAT.out i hil).symm
    rw [← HDD.out, hinf] at hspec
    have hE5 : rd E (i : Int) = 5 := by
      rcases hspec with ⟨h, _⟩ | ⟨h, _⟩ | ⟨h, _⟩
      · exact h
      · exact absurd rfl h
      · exact absurd rfl h
    have hL1 : L = [(i : Int)] := by
      rw [HLE.out]
      exact goS_stop (by rw [hE5, nearS_out (.inr (.inr (by omega)))]; omega) _
    have hl5 : ld = 5 := by rw [HLD.out, hL1]; exact hE5
    have hln : L.length = 1 := by rw [hL1]; rfl
    obtain ⟨al, hAl, c0⟩ : ∃ al, Al = some al ∧ w10.cell? al = some (.int .i64 i) := by
      obtain ⟨al, h1, h2⟩ := Kd.at_int HL10.out.1 0 (by omega) (by omega)
      refine ⟨al, h1, ?_⟩
      rw [hL1] at h2
      simpa [rd, Addr.add_zero'] using h2
    subst hAl
    subst hl5
    subst hinf
    obtain ⟨ln, hln2⟩ : ∃ ln, ln = L.length := ⟨_, rfl⟩
    rw [← hln2] at hln ⊢
    subst hln
    clear hspec hE5 hL1 hln2
    unfold INF at *
    go_wp2_with (go_at_call 56; refine (told10_calls _).mono ?_; rintro e wt ⟨rfl, hb⟩; have HBt := Aside0.mk (below_step HB10.out hb); clear hb)
    go_ret
    exact ⟨rfl, HBt.out⟩
  · have hcl : countLt (fun i => rd D (i : Int)) (rd D i) C.length ≤ C.length - 1 := by
      have h1 := countLt_lt (fun i => rd D (i : Int)) (show rd D (i : Int) < rd D (i : Int) + 1 by omega) C.length hil rfl
      have h2 := countLt_le (fun i => rd D (i : Int)) (rd D (i : Int) + 1) C.length
      omega
    have hway := HGW.out (C.length - 1) i hil (by rw [← HDD.out]; exact hinf) hcl
    rw [← HLE.out] at hway
    obtain ⟨hl0, hl1, hst, hfin⟩ := hway
    have hdr := HDR.out i hil
    rw [← HDD.out] at hdr
    have zfin : decide (dd ≥ 1099511627776) = false := decide_eq_false (by unfold INF at hinf hdr; omega)
    have zfin2 : ¬ (1099511627776 ≤ dd) := by unfold INF at hinf hdr; omega
    have hd0 : 0 ≤ dd ∧ dd ≤ 1099511627776 := hdr
    have zl : ((L.length : Int) == 0) = false := beq_eq_false_iff_ne.2 (by omega)
    have hlL : (0 : Int) < (L.length : Int) := by omega
    obtain ⟨al, hAl, c0⟩ : ∃ al, Al = some al ∧ w10.cell? al = some (.int .i64 i) := by
      obtain ⟨al, h1, h2⟩ := Kd.at_int HL10.out.1 0 (by omega) (by omega)
      refine ⟨al, h1, ?_⟩
      rw [hl1] at h2
      simpa [Addr.add_zero'] using h2
    have hsp := World.cell?_spot c0
    obtain ⟨ab, ao, asp⟩ := al
    obtain rfl : asp = none := hsp
    subst hAl
    have HST := Aside0.mk hst
    have HFI := Aside0.mk hfin
    have HL1 := Aside0.mk hl1
    have HT2 := Aside0.mk t2
    have HQ0 := Aside0.mk q0
    have HDI := Aside0.mk di10
    have HLP := Aside0.mk hl0
    clear hcl hst hfin hdr hinf hl1
    go_wp2_with fail
    clear zl zfin zfin2 c0 t0 t1 t2 q0 q1 di10
    go_loopg [18, 19] L.length (fun gg v18 v19 wr => ∃ (p : Nat) (paid : Int), v18 = .int .i64 paid ∧ v19 = .int .i64 ((p + 1 : Nat) : Int) ∧ p + 1 ≤ L.length ∧ L.length - (p + 1) ≤ gg ∧ 0 ≤ paid ∧ Aside0 (paid + rd D (rd L (p : Int)) = dd) ∧ Aside0 (Below w10.heap.size w10 wr))
    case atStart => exact ⟨0, 0, rfl, rfl, by have := HLP.out; omega, by omega, by omega, ⟨by rw [show ((0 : Nat) : Int) = 0 from rfl, HL1.out, Int.zero_add, HDD.out]⟩, ⟨Below.refl _ _⟩⟩
    case round =>
      obtain ⟨p, paid, rfl, rfl, hp, hgg, hpd, HPD, HBr⟩ := hrel
      by_cases hlt : p + 1 < L.length
      · obtain ⟨a, b, ha, hbb, hal, hbl, hnear, hsum⟩ := HST.out p hlt
        have cp : w10.cell? ⟨ab, ao + p, none⟩ = some (.int .i64 (rd L (p : Int))) := by
          obtain ⟨al', h1, h2⟩ := Kd.at_int HL10.out.1 (p : Int) (by omega) (by omega)
          obtain rfl := Option.some.inj h1
          rw [show ((p : Int)).toNat = p by omega, add_noneW] at h2
          exact h2
        have cn : w10.cell? ⟨ab, ao + (p + 1), none⟩ = some (.int .i64 (rd L ((p + 1 : Nat) : Int))) := by
          obtain ⟨al', h1, h2⟩ := Kd.at_int HL10.out.1 ((p + 1 : Nat) : Int) (by omega) (by omega)
          obtain rfl := Option.some.inj h1
          rw [show (((p + 1 : Nat) : Int)).toNat = p + 1 by omega] at h2
          simpa [Addr.add] using h2
        rw [ha] at cp hnear hsum
        rw [hbb] at cn hnear hsum
        have hpd2 := HPD.out
        rw [ha] at hpd2
        obtain ⟨ad', hAd', da⟩ := HE10.out.distAt (i := a) (by rw [HE1.out]; exact hal)
        obtain rfl := Option.some.inj hAd'
        obtain ⟨ad', hAd', db⟩ := HE10.out.distAt (i := b) (by rw [HE1.out]; exact hbl)
        obtain rfl := Option.some.inj hAd'
        obtain ⟨at_, hAt, tb⟩ := HE10.out.tileAt hbl
        have hcr := HBC.out (C[b]'hbl) (List.getElem_mem _)
        rw [← rd_get C hbl] at hcr
        have hra := HDR.out a hal
        have hrb := HDR.out b hbl
        unfold INF at hra hrb
        obtain ⟨va, hva⟩ : ∃ v, v = rd D a := ⟨_, rfl⟩
        obtain ⟨vb, hvb⟩ : ∃ v, v = rd D b := ⟨_, rfl⟩
        obtain ⟨cb, hcb⟩ : ∃ v, v = rd C b := ⟨_, rfl⟩
        rw [← hva] at da hnear hsum hpd2 hra
        rw [← hvb] at db hnear hsum hrb
        rw [← hcb] at tb hsum hcr
        have HNX : Aside0 (paid + cb + rd D (rd L ((p + 1 : Nat) : Int)) = dd) := ⟨by rw [hbb, ← hvb]; omega⟩
        subst hAt
        have HTB := Aside0.mk tb
        have HCN := Aside0.mk cn
        have z1 : decide ((b : Int) < 0) = false := decide_eq_false (by omega)
        have z1' : ¬ ((b : Int) < 0) := by omega
        have z2 : decide ((b : Int) ≥ (C.length : Int)) = false := decide_eq_false (by omega)
        have z2' : ¬ ((C.length : Int) ≤ (b : Int)) := by omega
        have z3 : decide (vb ≥ va) = false := decide_eq_false (by omega)
        have z3' : ¬ (va ≤ vb) := by omega
        have hb0 : (0 : Int) ≤ (b : Int) := by omega
        have ha0 : (0 : Int) ≤ (a : Int) := by omega
        have hbC : (b : Int) < (C.length : Int) := by omega
        have hbD : (b : Int) < (D.length : Int) := by rw [HE1.out]; omega
        have haD : (a : Int) < (D.length : Int) := by rw [HE1.out]; omega
        have hwr : IntKind.i64.wrap ((p : Int) + 1 - 1) = (p : Int) := by rw [IntKind.wrap_i64]; omega
        have hp0 : (0 : Int) ≤ (p : Int) := by omega
        have hp1 : (p : Int) < (L.length : Int) := by omega
        have hp2 : (p : Int) + 1 < (L.length : Int) := by omega
        have hp3 : (0 : Int) ≤ (p : Int) + 1 := by omega
        have hp4 : ((p : Int) + 1).toNat = p + 1 := by omega
        have hp5 : (p : Int) + 1 - 1 = (p : Int) := by omega
        have HW1 : Aside0 (IntKind.i64.wrap cb = cb) := ⟨by rw [IntKind.wrap_i64]; omega⟩
        have HW2 : Aside0 (IntKind.i64.wrap (paid + cb) = paid + cb) := ⟨by rw [IntKind.wrap_i64]; omega⟩
        have HPC : Aside0 (0 ≤ paid + cb) := ⟨by omega⟩
        have x2 := pw_cell_below HBr.out HT2.out
        have x0 := pw_cell_below HBr.out HQ0.out
        have xp := pw_cell_below HBr.out cp
        have xn := pw_cell_below HBr.out cn
        have xa := pw_cell_below HBr.out da
        have xb := pw_cell_below HBr.out db
        clear hva hvb hcb hnear hsum hpd2 hra hrb hcr ha hbb hal hbl cp cn da db tb hAd'
        go_upto_region 16 with fail
        go_quiet (fail)
        have HBq : Aside0 (Below w10.heap.size w10 (wr.drewN nq)) := ⟨pw_below_drewN HBr.out _⟩
        generalize wr.drewN nq = wq at *
        clear x2 x0 xp xn xa xb hwr z1 z1' z2 z2' z3 z3'
        have y2 := pw_cell_below HBq.out HT2.out
        have yn := pw_cell_below HBq.out HCN.out
        have yb := pw_cell_below HBq.out HTB.out
        go_upto_region 18 with fail
        have hw1 := HW1.out
        have hw2 := HW2.out
        go_quiet (fail)
        have HBm : Aside0 (Below w10.heap.size w10 (wq.drewN nq)) := ⟨pw_below_drewN HBq.out _⟩
        generalize wq.drewN nq = wm at *
        clear hw1 hw2 y2 yn yb
        go_wp2_with fail
        go_roundg (L.length - (p + 1 + 1))
        case measure => omega
        case rel => exact ⟨p + 1, paid + cb, rfl, by go_num, by omega, Nat.le_refl _, HPC.out, HNX, HBm⟩
      · have hpe : p + 1 = L.length := by omega
        obtain ⟨z, hz, hzl, hE5, hbe⟩ := HFI.out
        have hpl : L.length - 1 = p := by omega
        rw [hpl] at hz hE5 hbe
        have hld : ld = rd E (z : Int) := by rw [HLD.out, lastS_rd L HLP.out, hpl, hz]
        have hpd2 := HPD.out
        rw [hz] at hE5 hbe hpd2
        rw [← hld] at hE5 hbe
        have cp : w10.cell? ⟨ab, ao + p, none⟩ = some (.int .i64 (rd L (p : Int))) := by
          obtain ⟨al', h1, h2⟩ := Kd.at_int HL10.out.1 (p : Int) (by omega) (by omega)
          obtain rfl := Option.some.inj h1
          rw [show ((p : Int)).toNat = p by omega, add_noneW] at h2
          exact h2
        rw [hz] at cp
        obtain ⟨ad', hAd', dz⟩ := HE10.out.distAt (i := z) (by rw [HE1.out]; exact hzl)
        obtain rfl := Option.some.inj hAd'
        have hrz := HDR.out z hzl
        unfold INF at hrz
        obtain ⟨vz, hvz⟩ : ∃ v, v = rd D z := ⟨_, rfl⟩
        rw [← hvz] at dz hpd2 hrz hbe
        have HBS := Aside0.mk (refBest_some s (z : Int) ld HSL.out 2000 HSL2.out)
        rw [hbe] at HBS
        have z5 : (ld != 5) = true := by simp [hE5]
        have hws : IntKind.i64.wrap (vz + paid) = vz + paid := by rw [IntKind.wrap_i64]; omega
        have zs : (vz + paid == dd) = true := beq_iff_eq.2 (by omega)
        have zz : (vz == vz) = true := by simp
        have hz0 : (0 : Int) ≤ (z : Int) := by omega
        have hzD : (z : Int) < (D.length : Int) := by rw [HE1.out]; omega
        have hwl : IntKind.i64.wrap ((L.length : Int) - 1) = (p : Int) := by rw [IntKind.wrap_i64]; omega
        have hwl2 : (L.length : Int) - 1 = (p : Int) := by omega
        have hp0 : (0 : Int) ≤ (p : Int) := by omega
        have hp1 : (p : Int) < (L.length : Int) := by omega
        have hni : ¬ (((p + 1 : Nat) : Int) < (L.length : Int)) := by omega
        have xp := pw_cell_below HBr.out cp
        have x0 := pw_cell_below HBr.out HQ0.out
        have xi := pw_cell_below HBr.out HDI.out
        have xz := pw_cell_below HBr.out dz
        clear hz hzl hE5 hbe hpl hld hpd2 hrz hvz cp dz hAd' hpe hlt
        go_upto_region 20 with fail
        go_region_held3 (fun w' => w'.cell? ⟨gf, 0, none⟩ = some (.slice (some ad) D.length cd) ∧ w'.cell? (ad.add z) = some (.int .i64 vz) ∧ w'.cell? (ad.add i) = some (.int .i64 dd))
          (first | exact ⟨x0, xz, xi⟩ | exact ⟨y0, yz, yi⟩ | exact ⟨v0, v1, v2⟩ | go_keep)
          (first
            | (go_at_call 56; refine (told10_calls _).mono ?_; rintro e wt ⟨rfl, hb⟩; have y0 := pw_cell_below hb (a := ⟨gf, 0, none⟩) (v := .slice (some ad) D.length cd) x0; have yz := pw_cell_below hb (a := ad.add z) (v := .int .i64 vz) xz; have yi := pw_cell_below hb (a := ad.add i) (v := .int .i64 dd) xi; have HBt := Aside0.mk (below_step (below_drew1 HBr.out) hb); clear hb)
            | (go_at_call 41; refine (herdsmanref7_Best.calls 2000 As cs s z ld vz _ (Kd.C_below HE10.out.seeds.1 HBt.out) HE10.out.seeds.2 HBS.out).mono ?_; rintro e wb ⟨rfl, hd⟩; have v0 := pw_cell_below hd.below (a := ⟨gf, 0, none⟩) (v := .slice (some ad) D.length cd) y0; have v1 := pw_cell_below hd.below (a := ad.add z) (v := .int .i64 vz) yz; have v2 := pw_cell_below hd.below (a := ad.add i) (v := .int .i64 dd) yi; have HBb := Aside0.mk (below_step HBt.out hd.below); clear hd))
        all_goals
          go_wp2
          go_ret
          exact ⟨rfl, below_step HB10.out HBb.out⟩

/-- The law's plain statement: its walk knows the law. -/
def herdsmanlaw10_WalkEnds.Pure : Prop := True
theorem herdsmanlaw10_WalkEnds.walk (P : herdsmanlaw10_WalkEnds.Pure) (a0 : Int) (a1 : Int) (a2 : Option Addr) (len2 cap2 : Nat) (z2 : List Int) (a3 : Option Addr) (len3 cap3 : Nat) (z3 : List Int) (a4 : Int) (w : World) (w0 : (Lit.int .i64 a0).wf = true) (w1 : (Lit.int .i64 a1).wf = true) (w2 : (a2 = none ∧ len2 = 0 ∧ cap2 = 0 ∧ z2 = []) ∨ ∃ x, a2 = some x ∧ len2 ≤ cap2 ∧ cap2 ≤ maxLen ∧ z2.length = cap2 ∧ (∀ i, i < z2.length → w.cell? (x.add i) = some (.int .u8 (z2.getD i 0))) ∧ ∀ n ∈ z2, (Lit.int .u8 n).wf = true) (y2 : len2 * 1 ≤ 140737488351232) (w3 : (a3 = none ∧ len3 = 0 ∧ cap3 = 0 ∧ z3 = []) ∨ ∃ x, a3 = some x ∧ len3 ≤ cap3 ∧ cap3 ≤ maxLen ∧ z3.length = cap3 ∧ (∀ i, i < z3.length → w.cell? (x.add i) = some (.int .i64 (z3.getD i 0))) ∧ ∀ n ∈ z3, (Lit.int .i64 n).wf = true) (y3 : len3 * 8 ≤ 140737488351232) (w4 : (Lit.int .i64 a4).wf = true) :
    Calls Try.prog 21 #[.int .i64 a0, .int .i64 a1, .slice a2 len2 cap2, .slice a3 len3 cap3, .int .i64 a4] w fun e w' => e = .returned (.bool true) ∧ Below w.heap.size w w' := by
  obtain ⟨l2, rfl, hr2, hm2, hw2, hc2⟩ := ReadsInt.ofRowC w2
  obtain ⟨l3, rfl, hr3, hm3, hw3, hc3⟩ := ReadsInt.ofRowC w3
  exact walkEnds_calls a0 a1 _ _ l2 _ _ l3 a4 w (Kd.C_of_reads (d := (0 : Int)) (h1 := fun _ => rfl) hr2) hc2 (Kd.C_of_reads (d := (0 : Int)) (h1 := fun _ => rfl) hr3) hc3 y2 hw2
end Go.Proofs.Ytgcfcemgeppkmaa.P
