/-
  WALKED BY HAND: herdsmanlaw14.MeshKeeps.
-/
import Derived.Test.YthgehdembghdaaaGreatXKeep1
import Derived.Test.YthgehdembghdaaaGreatXGMap
import Derived.Test.YthgehdembghdaaaGreatXTold14
import Derived.Test.YthgehdembghdaaaGreatPx5
import Derived.Test.YthgehdembghdaaaGreatPx5
namespace Go.Proofs.YthgehdembghdaaaGreat.P
open Go.RowKit Go.Proofs.YthgehdembghdaaaGreatW.PrintWords Go.Proofs.YthgehdembghdaaaGreatW.PrintLast Go.Proofs.YthgehdembghdaaaGreatW.PrintMore
open Go.Proofs.YthgehdembghdaaaGreat.Geo Go.Proofs.YthgehdembghdaaaGreat.Dist
set_option linter.unusedVariables false
set_option linter.unusedSimpArgs false
variable {w w' wr w2 : World} {g : Gb} {s : GridS} {m : Mb} {x : MeshS}
structure KL (w wr : World) (g : Gb) (m : Mb) (s : GridS) (x : MeshS) (W H : Int) (gt mb cb cl n i : Nat) (C : List Int) : Prop where
  way : WayM w wr g m s x W H gt mb cb C
  same : s.C = C
  inv : DInv s x W H cl n (i + 1)
  kp : KP s x
set_option maxRecDepth 100000 in
set_option maxHeartbeats 8000000 in
theorem meshKeeps_calls (w0 h0 : Int) (A2 : Option Addr) (c2 : Nat) (l2 : List Int) (Al : Option Addr) (cL : Nat) (l : List S53) (sct ia ib : Int) (w : World)
    (hr : Kd.C (Kd.int .u8) w A2 l2.length l2) (hc2 : l2.length ≤ c2) (hb2 : ∀ y ∈ l2, 0 ≤ y ∧ y ≤ 255) (hl2 : l2.length ≤ 140737488355328) (hl : Kd.C k53 w Al l.length l) :
    Calls Tryz.prog 4 #[.int .i64 w0, .int .i64 h0, .slice A2 l2.length c2, .slice Al l.length cL, .int .i64 sct, .int .i64 ia, .int .i64 ib] w fun e w' => e = .returned (.bool true) ∧ Below w.heap.size w w' := by
  obtain ⟨W, H, C, hmd, hW, hH, hok⟩ := made_some w0 h0 l2 hb2 hl2
  have hu26 := Tryz.underlying26
  have HR := Aside0.mk hr
  have HC2 := Aside0.mk hc2
  have HMD := Aside0.mk (hmd 2000 (Nat.le_refl _))
  have HOK := Aside0.mk hok
  have HL := Aside0.mk hl
  clear hr hc2 hmd hok hl hb2 hl2 hW hH
  have hcnt := cnt_le HOK.out.dim
  have hcn := rCount HOK.out.dim
  obtain ⟨n, hn⟩ : ∃ n : Nat, (n : Int) = cnt W H := ⟨(cnt W H).toNat, by omega⟩
  rw [← hn] at hcnt hcn
  have HCN := Aside0.mk hcn
  have HN := Aside0.mk hn
  have hcl : 1 ≤ C.length ∧ C.length ≤ 1048576 := by have := HOK.out.len; have := wh_le HOK.out.dim; omega
  have HCL := Aside0.mk hcl
  obtain ⟨sc, hsc, hws⟩ := within_nat sct (n := n) (by omega) (by omega)
  have HWS := Aside0.mk hws
  have HSC : Aside0 (sc < n ∧ 1 ≤ n ∧ n ≤ 4096 ∧ inS W H (sc : Int)) := ⟨hsc, by omega, by omega, ⟨by omega, by omega⟩⟩
  have iw : IntKind.i64.wrap ((n : Int) - 1) = (n : Int) - 1 := by rw [IntKind.wrap_i64]; omega
  clear hcnt hcn hn hcl hws hsc
  go_enter Tryz.func4, Tryz.ntmps4
  go_upto_region 2 with (first
    | (go_at_call 17; refine (built_calls w0 h0 A2 c2 l2 _ HR.out HC2.out HMD.out HOK.out).mono ?_; rintro e w1 ⟨mb, cb, g, m, rfl, hbu⟩; have HBU := Aside0.mk hbu; clear hbu)
    | ((with_reducible refine gate_dst (N := 15) rfl ?_); refine box_event ?hg (N := 15) ?hd (cs := #[.int .i64 0, .int .i64 0, .slice none 0 0]) (t := 26) ?hr ?_; (case hd => rfl); (case hg => rfl); (case hr => first | (go_simp; done) | (go_simp; rfl)); intro gt hg w3 hbox hb; have z0 : w3.cell? ⟨gt, 0, none⟩ = _ := cell_blk hbox rfl; have z1 : w3.cell? ⟨gt, 1, none⟩ = _ := cell_blk hbox rfl; have z2 : w3.cell? ⟨gt, 2, none⟩ = _ := cell_blk hbox rfl; have f0 := free_blk hbox 0; have f1 := free_blk hbox 1; have f2 := free_blk hbox 2; have HX3 := Aside0.mk hbox; have HB3 := Aside0.mk hb; have HG3 := Aside0.mk hg; clear hbox hb hg))
  obtain ⟨w4, hw4⟩ : ∃ w4, w4 = (((w3.setCell ⟨gt, 0, none⟩ (.int .i64 W)).setCell ⟨gt, 1, none⟩ (.int .i64 H)).setCell ⟨gt, 2, none⟩ (.slice (some ⟨mb, 0, none⟩) C.length cb)) := ⟨_, rfl⟩
  rw [← hw4]
  have HY4 : Aside0 (WayM w w4 g m (grid0 W H C) (mesh0 W H) W H gt mb cb C) := ⟨by rw [hw4]; exact WayM.start HBU.out HB3.out HG3.out HX3.out⟩
  clear hw4 z0 z1 z2 f0 f1 f2 HX3 HB3 HG3 HBU HR HMD
  go_upto_region 5 with (go_at_call 23; refine (reb_first HN.out HY4.out).mono ?_; rintro e w5 ⟨x, rfl, hy, hrb, hf⟩; have HY5 := Aside0.mk hy; have HF := Aside0.mk hf; have HRB := Aside0.mk hrb; clear hy hf hrb)
  have HKI : Aside0 (DInv (grid0 W H C) x W H C.length n 1) := ⟨(kinv0 HOK.out HN.out rfl).weak.reb (by show (0 : Int) ≤ _; omega) HSC.out.2.2.1 HRB.out⟩
  have t0 := cell_blk (j := 0) (u := .int .i64 W) HY5.out.box rfl
  have t1 := cell_blk (j := 1) (u := .int .i64 H) HY5.out.box rfl
  clear HY4 HRB
  go_upto_region 6 with (first
    | (go_at_call 18; refine (herdsmanref1_Count.calls W H (n : Int) _ HCN.out).mono ?_; rintro e w6 ⟨rfl, hd⟩; have HY6 := Aside0.mk (HY5.out.go (Drawn0.below hd)); clear hd)
    | (go_at_call 19; refine (herdsmanref1_Within.calls sct 0 ((n : Int) - 1) (sc : Int) _ HWS.out).mono ?_; rintro e w7 ⟨rfl, hd⟩; have HY7 := Aside0.mk (HY6.out.go (Drawn0.below hd)); clear hd))
  clear t0 t1 HY5 HY6 HWS HCN iw
  have HXL : Aside0 (x.ps.length = n) := ⟨HKI.out.len⟩
  have hpo := HF.out.part sc (by rw [HXL.out]; exact HSC.out.1)
  obtain ⟨N, hN⟩ : ∃ N, N = (x.ps.getD sc default).nodes := ⟨_, rfl⟩
  have HNN := Aside0.mk hN
  have hNl : N = nodesL W H C (sc : Int) := hN.trans hpo.nodes
  have HNL : Aside0 (N = nodesL W H C (sc : Int) ∧ N.length ≤ 256) := ⟨hNl, by rw [hNl]; exact nodes_len HOK.out.dim HSC.out.2.2.2⟩
  clear hpo hN hNl
  go_upto_region 7 with (go_at_call 26; refine (mNodes_calls HY7.out.net (i := sc) (by rw [HXL.out]; exact HSC.out.1)).mono ?_; rw [← HNN.out]; rintro e w8 ⟨v8, rfl, ho, hb⟩; obtain ⟨A8, n8, rfl⟩ := Kd.R_slice ho; have HO8 := Aside0.mk (Kd.R_lower ho (Nat.zero_le _)); have HY8 := Aside0.mk (HY7.out.go hb); clear ho hb)
  clear HY7
  by_cases he : N.length = 0
  · have d1 : (((N.length : Nat) : Int) == 0) = true := by rw [he]; rfl
    have HE : Aside0 (nodesL W H C (sc : Int) = []) := ⟨by rw [← HNL.out.1]; exact List.eq_nil_of_length_eq_zero he⟩
    have HRN := Aside0.mk (rNodes HOK.out HSC.out.2.2.2 1700 (Nat.le_refl _))
    clear he
    go_wp2_with (first
      | (go_at_call 25; refine (told14_calls _).mono ?_; rintro e w9 ⟨rfl, hb⟩; have HY9 := Aside0.mk (HY8.out.go hb); have t0 := cell_blk (j := 0) (u := .int .i64 W) HY9.out.box rfl; have t1 := cell_blk (j := 1) (u := .int .i64 H) HY9.out.box rfl; have t2 := cell_blk (j := 2) (u := .slice (some ⟨mb, 0, none⟩) C.length cb) HY9.out.box rfl; clear hb)
      | (go_at_call 27; refine (herdsmanref11_Nodes.calls 1700 W H (some ⟨mb, 0, none⟩) cb C (sc : Int) (nodesL W H C (sc : Int)) _ (Kd.R_reads' HY9.out.row).2.2 (Kd.R_reads' HY9.out.row).2.1 HRN.out).mono ?_; rw [HE.out]; rintro e w10 ⟨v10, rfl, ho, hb⟩; obtain ⟨A10, n10, rfl⟩ := Kd.R_slice ho; have HY10 := Aside0.mk (HY9.out.go hb); clear ho hb))
    go_ret
    exact ⟨rfl, HY10.out.below⟩
  · have d1 : (((N.length : Nat) : Int) == 0) = false := by rw [beq_eq_false_iff_ne]; omega
    have d1b : decide (N.length = 0) = false := decide_eq_false he
    obtain ⟨pa, hpa, hwa⟩ := within_nat ia (n := N.length) (by omega) (by have := HNL.out.2; omega)
    obtain ⟨pb, hpb, hwb⟩ := within_nat ib (n := N.length) (by omega) (by have := HNL.out.2; omega)
    have HWA := Aside0.mk hwa
    have HWB := Aside0.mk hwb
    have iw : IntKind.i64.wrap ((N.length : Int) - 1) = (N.length : Int) - 1 := by have := HNL.out.2; rw [IntKind.wrap_i64]; omega
    obtain ⟨ad8, hA8, hxa⟩ := Kd.at_int (Kd.R_reads' HO8.out).2.2 (pa : Int) (by omega) (by omega)
    obtain ⟨ad8', hA8', hxb⟩ := Kd.at_int (Kd.R_reads' HO8.out).2.2 (pb : Int) (by omega) (by omega)
    obtain rfl : ad8 = ad8' := by rw [hA8] at hA8'; injection hA8'
    rw [Int.toNat_natCast] at hxa hxb
    subst hA8
    obtain ⟨p, hp⟩ : ∃ p, p = rd N (pa : Int) := ⟨_, rfl⟩
    obtain ⟨q, hq⟩ : ∃ q, q = rd N (pb : Int) := ⟨_, rfl⟩
    rw [← hp] at hxa
    rw [← hq] at hxb
    have e1 : (0 : Int) ≤ (pa : Int) := by omega
    have e2 : (pa : Int) < (N.length : Int) := by omega
    have e3 : (0 : Int) ≤ (pb : Int) := by omega
    have e4 : (pb : Int) < (N.length : Int) := by omega
    clear he hpa hpb hwa hwb hA8' hp hq
    go_upto_region 9 with fail
    repeat (go_quiet (first | (go_at_call 19; (with_reducible refine (herdsmanref1_Within.calls ia 0 ((N.length : Int) - 1) (pa : Int) _ HWA.out).mono ?_); rintro e w' ⟨rfl, ⟨nd, rfl⟩⟩; (try first | exact ⟨rfl, _, World.drewN_drewN _ _ _⟩ | exact ⟨rfl, _, rfl⟩)) | (go_at_call 19; (with_reducible refine (herdsmanref1_Within.calls ib 0 ((N.length : Int) - 1) (pb : Int) _ HWB.out).mono ?_); rintro e w' ⟨rfl, ⟨nd, rfl⟩⟩; (try first | exact ⟨rfl, _, World.drewN_drewN _ _ _⟩ | exact ⟨rfl, _, rfl⟩))))
    have HY9 := Aside0.mk (HY8.out.go (pw_below_drewN (Below.refl _ _) nq))
    have HO9 := Aside0.mk (Kd.R_drewN HO8.out nq)
    generalize w8.drewN nq = w9 at *
    clear hxa hxb HY8 HO8
    obtain ⟨d, hd⟩ : ∃ d, d = distM (grid0 W H C) x p q := ⟨_, rfl⟩
    have HD := Aside0.mk hd
    have HGO := Aside0.mk HF.out.good
    clear hd
    go_upto_region 11 with (go_at_call 28; refine (mDist_calls HY9.out.net HGO.out p q).mono ?_; rw [← HD.out]; rintro e w10 ⟨rfl, hdr⟩; have HY10 := Aside0.mk (HY9.out.go (Drawn0.below hdr)); have HO10 := Aside0.mk (Kd.R_below HO9.out (Drawn0.below hdr)); clear hdr)
    have HK0 : Aside0 (KL w w10 g m (grid0 W H C) x W H gt mb cb C.length n 0 C) := ⟨⟨HY10.out, rfl, HKI.out, HF.out.kp⟩⟩
    clear HY9 HO9 HY10 HKI HF HWA HWB iw e1 e2 e3 e4 d1 d1b
    go_wp2_with fail
    go_loopg [23] 20 (fun gg v23 wr => ∃ (i : Nat) (s : GridS) (mb cb : Nat) (C' : List Int), v23 = .int .i64 (i : Int) ∧ i ≤ 20 ∧ 20 - i ≤ gg ∧ Aside0 (KL w wr g m s x W H gt mb cb C.length n i C') ∧ Aside0 (RowN wr 0 (.slice (some ad8) N.length n8) N))
    case atStart => exact ⟨0, _, mb, cb, C, rfl, by omega, by omega, HK0, HO10⟩
    case round =>
      clear HK0 HO10
      obtain ⟨i, s, mb, cb, C', rfl, hi, hgg, HK, HOr⟩ := hrel
      by_cases hlt : i < l.length ∧ i < 20
      · have d1 : (i : Int) < (l.length : Int) := by omega
        have d2 : (i : Int) < 20 := by omega
        have d0 : (0 : Int) ≤ (i : Int) := by omega
        obtain ⟨adl, hAl, q0, q1⟩ := at_T53 (Kd.C_below HL.out HK.out.way.below) (i : Int) (by omega) d1
        subst hAl
        rw [Int.toNat_natCast] at q0 q1
        obtain ⟨a0, ha⟩ : ∃ a, a = (rd_T53 l (i : Int)).f0 := ⟨_, rfl⟩
        obtain ⟨b0, hb⟩ : ∃ b, b = (rd_T53 l (i : Int)).f1 := ⟨_, rfl⟩
        rw [← ha] at q0
        rw [← hb] at q1
        have hcl := HCL.out
        have hdm := HK.out.inv.dims
        have hsm := HK.out.same
        have hCl : C'.length = C.length := by rw [← hsm]; exact hdm.2.2
        obtain ⟨c, hc, hwc⟩ := within_nat a0 (n := C'.length) (by omega) (by omega)
        have hwy := within_some b0 (lo := 1) (hi := 255) (by omega) (by omega) (by omega)
        have rb0 := Int.emod_nonneg b0 (show (255 : Int) - 1 + 1 ≠ 0 by omega)
        have rb1 := Int.emod_lt_of_pos b0 (show (0 : Int) < 255 - 1 + 1 by omega)
        obtain ⟨y, hy⟩ : ∃ y : Int, y = 1 + b0 % (255 - 1 + 1) := ⟨_, rfl⟩
        rw [← hy] at hwy
        have HWC := Aside0.mk hwc
        have HWY := Aside0.mk hwy
        have HCY : Aside0 (c < C'.length ∧ c < s.C.length ∧ 1 ≤ y ∧ y ≤ 255 ∧ C'.length ≤ 1048576 ∧ 1 ≤ C'.length) := ⟨by rw [hsm]; omega⟩
        have iw : IntKind.i64.wrap ((C'.length : Int) - 1) = (C'.length : Int) - 1 := by rw [IntKind.wrap_i64]; omega
        have iu : IntKind.u8.wrap y = y := by rw [IntKind.wrap_u8]; omega
        have t2 := cell_blk (j := 2) (u := .slice (some ⟨mb, 0, none⟩) C'.length cb) HK.out.way.box rfl
        have HI := Aside0.mk (And.intro hi (And.intro hgg hlt))
        clear ha hb hcl hdm hsm hCl hc hwc hwy rb0 rb1 hy hi hgg hlt
        go_upto_region 14 with fail
        repeat (go_quiet (first | (go_at_call 19; (with_reducible refine (herdsmanref1_Within.calls a0 0 ((C'.length : Int) - 1) (c : Int) _ HWC.out).mono ?_); rintro e w' ⟨rfl, ⟨nd, rfl⟩⟩; (try first | exact ⟨rfl, _, World.drewN_drewN _ _ _⟩ | exact ⟨rfl, _, rfl⟩)) | (go_at_call 19; (with_reducible refine (herdsmanref1_Within.calls b0 1 255 y _ HWY.out).mono ?_); rintro e w' ⟨rfl, ⟨nd, rfl⟩⟩; (try first | exact ⟨rfl, _, World.drewN_drewN _ _ _⟩ | exact ⟨rfl, _, rfl⟩))))
        have HW1 := Aside0.mk (HK.out.way.go (pw_below_drewN (Below.refl _ _) nq))
        have HO1 := Aside0.mk (Kd.R_drewN HOr.out nq)
        generalize wr.drewN nq = wx at *
        clear q0 q1 t2 iw
        go_upto_region 17 with (go_at_call 20; refine (gEdit_calls HW1.out.net.grid (c := c) HCY.out.2.1 (x := y) ⟨HCY.out.2.2.1, HCY.out.2.2.2.1⟩ (by have := HK.out.inv.ep; have := HI.out; omega)).mono ?_; rintro e w2 ⟨rfl, hg2, hc2⟩; have HN2 : Aside0 (Net w2 g m (gEd s c y) x) := ⟨HW1.out.net.edit hg2 hc2 rfl⟩; have HW2 : Aside0 (WayM w w2 g m (gEd s c y) x W H gt mb cb C') := ⟨HW1.out.step HN2.out (hc2.mono (fun b hb => .inl hb))⟩; have HO2 : Aside0 (RowN w2 0 (.slice (some ad8) N.length n8) N) := ⟨hc2.odd rfl HO1.out (fun k hk cs => (HW1.out.net.grid.oddN k hk cs).1)⟩; clear hg2 hc2)
        have hx2 := HW2.out.box
        have t0 := cell_blk (j := 0) (u := .int .i64 W) hx2 rfl
        have t1 := cell_blk (j := 1) (u := .int .i64 H) hx2 rfl
        have t2 := cell_blk (j := 2) (u := .slice (some ⟨mb, 0, none⟩) C'.length cb) hx2 rfl
        have HED := Aside0.mk (edited_some (W := W) (H := H) (C := C') (c := c) (y := y) HCY.out.1 HCY.out.2.2.2.2.1)
        have HCP : Aside0 (0 < (C'.set c y).length) := ⟨by rw [List.length_set]; have := HCY.out.2.2.2.2.2; omega⟩
        clear hx2 HW1 HO1 HN2
        go_wp2_with (go_at_call 29; refine (herdsmanref11_Edited.calls W H (some ⟨mb, 0, none⟩) cb C' (c : Int) y W H (C'.set c y) _ (Kd.R_reads' HW2.out.row).2.2 (Kd.R_reads' HW2.out.row).2.1 HED.out).mono ?_; rintro e w4 ⟨v4, rfl, ho, hb⟩; obtain ⟨mb2, cb2, rfl, _, _, _⟩ := Kd.R_form ho HCP.out; have HO4 := Aside0.mk ho; have HB4 := Aside0.mk hb; have HW4 := Aside0.mk (HW2.out.go hb); have hx4 := HW4.out.box; have z0 := cell_blk (j := 0) (u := .int .i64 W) hx4 rfl; have z1 := cell_blk (j := 1) (u := .int .i64 H) hx4 rfl; have z2 := cell_blk (j := 2) (u := .slice (some ⟨mb, 0, none⟩) C'.length cb) hx4 rfl; have f0 := free_blk hx4 0; have f1 := free_blk hx4 1; have f2 := free_blk hx4 2; clear ho hb hx4)
        go_roundg (20 - (i + 1))
        case measure => have := HI.out; omega
        case rel =>
          have hh := HI.out
          have hws := HW2.out.store HB4.out HO4.out
          rw [List.length_set] at hws
          have hgr := HK.out.way.net.grid
          have hdm := HK.out.inv.dims
          have hxl := HK.out.way.net.len
          have hvl := hgr.vlen
          have hil := HK.out.inv.len
          have hkp := HK.out.kp.edit HK.out.inv hgr.ok.dim (by omega) hxl (c := c) (by have := hgr.ok.len; have := HCY.out.2.1; omega) y
          have hin := HK.out.inv.edit (by omega) c y
          have hor := R_setN (R_setN (R_setN (Kd.R_below HO2.out HB4.out) HW4.out.box (by decide) 0 (.int .i64 W)) (set_blk HW4.out.box 0 _) (by decide) 1 (.int .i64 H)) (set_blk (set_blk HW4.out.box 0 _) 1 _) (by decide) 2 (.slice (some ⟨mb2, 0, none⟩) C'.length cb2)
          exact ⟨i + 1, gEd s c y, mb2, cb2, C'.set c y, by first | rfl | (rw [w64 (n := (i : Int) + 1) (by omega) (by omega)]; rfl), by omega, Nat.le_refl _, ⟨⟨hws, by show s.C.set c y = _; rw [HK.out.same], hin, hkp⟩⟩, ⟨hor⟩⟩
      · have hte : (i < l.length → decide ((i : Int) < 20) = false) := fun q => decide_eq_false (by omega)
        have HI20 := Aside0.mk hi
        clear hi hgg
        rcases Nat.lt_or_ge i l.length with h1 | h1
        all_goals (first
          | (have d1 : (i : Int) < (l.length : Int) := by omega
             have d2 := hte h1
             clear hte hlt h1
             go_upto_region 18 with fail)
          | (have d1 : decide ((i : Int) < (l.length : Int)) = false := decide_eq_false (by omega)
             have d1b : decide (i < l.length) = false := decide_eq_false (by omega)
             clear hte hlt h1
             go_upto_region 18 with fail))
        all_goals (
          have hdm := HK.out.inv.dims
          have hok := HK.out.way.net.grid.ok
          have hsm := HK.out.same
          have hds := dist_same (s := s) (s' := grid0 W H C) hdm.1 hdm.2.1 x p q
          rw [hdm.1, hdm.2.1, hsm] at hok
          have HMO := Aside0.mk hok
          have HDM := Aside0.mk (And.intro hdm.1 (And.intro hdm.2.1 hsm))
          have HDS : Aside0 (distM s x p q = d) := ⟨hds.trans HD.out.symm⟩
          have HRI := Aside0.mk (rInts N 300 (by have := HNL.out.2; omega) (by have := HNL.out.2; omega))
          have dd0 : (d != d) = false := by simp
          clear hdm hok hsm hds
          go_upto_region 20 with (first
            | (go_at_call 26; refine (mNodes_calls HK.out.way.net (i := sc) (by rw [HXL.out]; exact HSC.out.1)).mono ?_; rw [← HNN.out]; rintro e w11 ⟨v11, rfl, ho, hb⟩; obtain ⟨A11, n11, rfl⟩ := Kd.R_slice ho; have HO11 := Aside0.mk ho; have HW11 := Aside0.mk (HK.out.way.go hb); have HOb := Aside0.mk (Kd.R_below HOr.out hb); clear ho hb)
            | (go_at_call 30; refine (herdsmanref1_Ints.calls 300 A11 n11 N (some ad8) n8 N true w11 (Kd.R_reads' HO11.out).2.2 (Kd.R_reads' HO11.out).2.1 (Kd.R_reads' HOb.out).2.2 (Kd.R_reads' HOb.out).2.1 HRI.out).mono ?_; rintro e w12 ⟨rfl, hdr⟩; have HW12 := Aside0.mk (HW11.out.go (Drawn0.below hdr)); clear hdr)
            | (go_at_call 28; refine (mDist_calls HW12.out.net HGO.out p q).mono ?_; rw [HDS.out]; rintro e w13 ⟨rfl, hdr⟩; have HW13 := Aside0.mk (HW12.out.go (Drawn0.below hdr)); clear hdr))
          go_upto_region 21 with (go_at_call 23; refine (mRebuild_calls HW13.out.net (by have := HK.out.inv.cnt; have := HI20.out; omega) (fun e => by rw [HXL.out]; exact HK.out.inv.clq e)).mono ?_; rintro e w14 ⟨x2, rfl, hn, hrb, hc⟩; have HW14 : Aside0 (WayM w w14 g m s x2 W H gt mb cb C') := ⟨HW13.out.step hn (hc.mono (fun b hb => .inr hb))⟩; have HRB := Aside0.mk hrb; clear hn hrb hc)
          have hf2 := HK.out.kp.reb HW14.out.net.grid.ok HW14.out.net.len HRB.out
          have HXL2 : Aside0 (sc < x2.ps.length) := ⟨by rw [HRB.out.len, HXL.out]; exact HSC.out.1⟩
          have hn2 := (hf2.part sc HXL2.out).nodes
          have hd2 := fresh_dist hf2 p q
          rw [HDM.out.1, HDM.out.2.1, HDM.out.2.2] at hn2 hd2
          have HG2 := Aside0.mk hf2.good
          have hrn := rNodes HMO.out HSC.out.2.2.2 1700 (Nat.le_refl _)
          have hrd := rDist HMO.out p q 2000 (Nat.le_refl _)
          have hnl := nodes_len (C := C') HMO.out.dim HSC.out.2.2.2
          obtain ⟨N2, hN2⟩ : ∃ N2, N2 = nodesL W H C' (sc : Int) := ⟨_, rfl⟩
          obtain ⟨dv, hdv⟩ : ∃ dv, dv = refD W H C' p q := ⟨_, rfl⟩
          rw [← hN2] at hn2 hrn hnl
          rw [← hdv] at hd2 hrd
          have HN2 := Aside0.mk hn2
          have HD2 := Aside0.mk hd2
          have HRN := Aside0.mk hrn
          have HRD := Aside0.mk hrd
          have HRI2 := Aside0.mk (rInts N2 300 (by omega) (by omega))
          have HTD := Aside0.mk (told14_calls w14.drew)
          have HWD : Aside0 (WayM w w14.drew g m s x2 W H gt mb cb C') := ⟨HW14.out.go (below_drew1 (Below.refl _ _))⟩
          have HSM := Aside0.mk (sameMap_some W H C')
          have t0 := HW14.out.cells
          have dd1 : (dv == dv) = true := by simp
          clear hf2 hn2 hd2 hrn hrd hnl hN2 hdv dd0
          go_region_held3 (fun w' => w'.cell? ⟨gt, 0, none⟩ = some (.int .i64 W) ∧ w'.cell? ⟨gt, 1, none⟩ = some (.int .i64 H) ∧ w'.cell? ⟨gt, 2, none⟩ = some (.slice (some ⟨mb, 0, none⟩) C'.length cb)) (first | exact t0 | exact HW15.out.cells | exact HW16.out.cells | exact HW17.out.cells | exact HW18.out.cells | exact HW19.out.cells | exact HW20.out.cells | exact HW21.out.cells | exact HW22.out.cells | go_keep)
            (first
              | (go_at_call 25; refine HTD.out.mono ?_; rintro e w15 ⟨rfl, hb⟩; have HW15 := Aside0.mk (HWD.out.go hb); clear hb)
              | (go_at_call 26; refine (mNodes_calls HW15.out.net HXL2.out).mono ?_; rw [HN2.out]; rintro e w16 ⟨v16, rfl, ho, hb⟩; obtain ⟨A16, n16, rfl⟩ := Kd.R_slice ho; have HO16 := Aside0.mk ho; have HW16 := Aside0.mk (HW15.out.go hb); clear ho hb)
              | (go_at_call 27; refine (herdsmanref11_Nodes.calls 1700 W H (some ⟨mb, 0, none⟩) cb C' (sc : Int) N2 w16 (Kd.R_reads' HW16.out.row).2.2 (Kd.R_reads' HW16.out.row).2.1 HRN.out).mono ?_; rintro e w17 ⟨v17, rfl, ho, hb⟩; obtain ⟨A17, n17, rfl⟩ := Kd.R_slice ho; have HO17 := Aside0.mk ho; have HO16b := Aside0.mk (Kd.R_below HO16.out hb); have HW17 := Aside0.mk (HW16.out.go hb); clear ho hb)
              | (go_at_call 30; refine (herdsmanref1_Ints.calls 300 A16 n16 N2 A17 n17 N2 true w17 (Kd.R_reads' HO16b.out).2.2 (Kd.R_reads' HO16b.out).2.1 (Kd.R_reads' HO17.out).2.2 (Kd.R_reads' HO17.out).2.1 HRI2.out).mono ?_; rintro e w18 ⟨rfl, hdr⟩; have HW18 := Aside0.mk (HW17.out.go (Drawn0.below hdr)); clear hdr)
              | (go_at_call 28; refine (mDist_calls HW18.out.net HG2.out p q).mono ?_; rw [HD2.out]; rintro e w19 ⟨rfl, hdr⟩; have HW19 := Aside0.mk (HW18.out.go (Drawn0.below hdr)); clear hdr)
              | (go_at_call 31; refine (herdsmanref11_Dist.calls 2000 W H (some ⟨mb, 0, none⟩) cb C' p q dv w19 (Kd.R_reads' HW19.out.row).2.2 (Kd.R_reads' HW19.out.row).2.1 HRD.out).mono ?_; rintro e w20 ⟨rfl, hb⟩; have HW20 := Aside0.mk (HW19.out.go hb); clear hb)
              | (go_at_call 33; refine (gMap_calls HW20.out.net.grid).mono ?_; rw [HDM.out.1, HDM.out.2.1, HDM.out.2.2]; rintro e w21 ⟨v21, rfl, ho, hb⟩; obtain ⟨A21, n21, rfl⟩ := Kd.R_slice ho; have HO21 := Aside0.mk ho; have HW21 := Aside0.mk (HW20.out.go hb); clear ho hb)
              | (go_at_call 32; refine (herdsmanref1_SameMap.calls W H A21 n21 C' W H (some ⟨mb, 0, none⟩) cb C' true w21 (Kd.R_reads' HO21.out).2.2 (Kd.R_reads' HO21.out).2.1 (Kd.R_reads' HW21.out.row).2.2 (Kd.R_reads' HW21.out.row).2.1 HSM.out).mono ?_; rintro e w22 ⟨rfl, hb⟩; have HW22 := Aside0.mk (HW21.out.go hb); clear hb))
          go_wp2_with fail
          go_ret
          exact ⟨rfl, HW22.out.below⟩)
end Go.Proofs.YthgehdembghdaaaGreat.P
