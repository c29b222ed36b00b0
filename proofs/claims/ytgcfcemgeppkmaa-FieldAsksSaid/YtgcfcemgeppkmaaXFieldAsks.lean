/-
 herdsmanlaw10.FieldAsks: who asks a field is told that it is the document's.
-/
import Derived.Test.YtgcfcemgeppkmaaXEnvF
import Derived.Test.YtgcfcemgeppkmaaXRefField
import Derived.Deep.CutBlock
namespace Go.Proofs.Ytgcfcemgeppkmaa.P
open Go.RowKit Go.Proofs.YtgcfcemgeppkmaaW.PrintWords Go.Proofs.YtgcfcemgeppkmaaW.PrintLast Go.Proofs.YtgcfcemgeppkmaaW.PrintMore
open Go.Proofs.Ytgcfcemgeppkmaa.Dist
set_option linter.unusedVariables false
set_option linter.unusedSimpArgs false
set_option maxRecDepth 100000 in
set_option maxHeartbeats 4000000 in
theorem fieldAsks_calls (W0 H0 : Int) (A0 : Option Addr) (c0 : Nat) (l0 : List Int) (a1 a2 : Int) (A3 : Option Addr) (c3 : Nat) (l3 : List Int) (A4 : Option Addr) (c4 : Nat) (l4 : List Seed) (a5 : Bool) (w : World) (hr0 : Kd.C (Kd.int .u8) w A0 l0.length l0) (hc0 : l0.length ≤ c0) (hr3 : Kd.C (Kd.int .i64) w A3 l3.length l3) (hc3 : l3.length ≤ c3) (hr4 : Kd.C k25 w A4 l4.length l4) (hc4 : l4.length ≤ c4) (hb0 : ∀ x ∈ l0, 0 ≤ x ∧ x ≤ 255) :
  Calls Try.prog 17 #[.agg #[.int .i64 W0, .int .i64 H0, .slice A0 l0.length c0], .int .i64 a1, .int .i64 a2, .slice A3 l3.length c3, .slice A4 l4.length c4, .bool a5] w fun e w' => e = .returned (.bool true) ∧ Below w.heap.size w w' := by
 have HR0 := Aside0.mk hr0
 have HC0 := Aside0.mk hc0
 have HR3 := Aside0.mk hr3
 have HC3 := Aside0.mk hc3
 have HR4 := Aside0.mk hr4
 have HC4 := Aside0.mk hc4
 have HB0 := Aside0.mk hb0
 clear hr0 hc0 hr3 hc3 hr4 hc4 hb0
 by_cases h6 : l0.length ≤ 600 ∧ l4.length ≤ 40
 ·obtain ⟨h600, h40⟩ := h6
  have d1 : decide (600 < (l0.length : Int)) = false := decide_eq_false (by omega)
  have d2 : decide (600 < l0.length) = false := decide_eq_false (by omega)
  have d3 : decide (40 < (l4.length : Int)) = false := decide_eq_false (by omega)
  have d4 : decide (40 < l4.length) = false := decide_eq_false (by omega)
  have H600 := Aside0.mk h600
  have H40 := Aside0.mk h40
  have hown : herdsmanref1_OwnTile.f W0 H0 l0 = some (W0, H0, l0) := by
   unfold herdsmanref1_OwnTile.f
   rw [Option.bind_some, if_pos (by simp only [List.length_nil]; omega), List.nil_append]
  have HOW := Aside0.mk hown
  clear h600 h40 hown
  go_enter Try.func17, Try.ntmps17
  go_upto_if 33 with (first
   | ((with_reducible refine gate_dst (N := 6) rfl ?_); refine box_event ?hg (N := 6) ?hd (cs := #[.int .i64 W0, .int .i64 H0, .slice A0 l0.length c0]) (t := 35) ?hr ?_; (case hd => rfl); (case hg => rfl); (case hr => first | (go_simp; done) | (go_simp; rfl)); intro gp hg w1 hbox hb; have p0 : w1.cell? ⟨gp, 0, none⟩ = _ := cell_blk hbox rfl; have p1 : w1.cell? ⟨gp, 1, none⟩ = _ := cell_blk hbox rfl; have p2 : w1.cell? ⟨gp, 2, none⟩ = _ := cell_blk hbox rfl; have HP1 := Aside0.mk hbox; have HB1 := Aside0.mk hb; clear hbox hb hg)
   | (go_at_call 36; refine (herdsmanref1_OwnTile.calls W0 H0 A0 c0 l0 W0 H0 l0 _ (Kd.C_below HR0.out HB1.out) HC0.out HOW.out).mono ?_; rintro e w2 ⟨v2, rfl, ho, hb⟩; obtain ⟨A2, c2, rfl⟩ := Kd.R_slice ho; have HO2 := Aside0.mk (R_C ho); have HP2 := Aside0.mk (blk_step HP1.out hb); have HB2 := Aside0.mk (below_step HB1.out hb); have hz2 := hb.size; have HZ2 := Aside0.mk hz2; clear hz2 ho hb p0 p1 p2)
   | ((with_reducible refine gate_dst (N := 29) rfl ?_); refine Kd.R_lit k25 w2.heap.size 25 ?hg (N := 29) ?hd (xs := ([] : List Seed)) (inner := []) (ok := fun _ => True) (okp := fun _ => True) ?hr ?hp (fun _ hk => hk) trivial (Below.refl _ _) (Nat.le_refl _) (by simp) ?_; (case hd => rfl); (case hg => rfl); (case hr => first | (go_simp; done) | (go_simp; rfl)); (case hp => exact (Reps.none _ _)); intro v3 w3 ho hb hg_ hnew_; have HO3 := Aside0.mk ho; have HB3 := Aside0.mk hb; clear ho hb hg_ hnew_)
   | ((with_reducible refine gate_builtin (b := .append) (xs := #[.tmp 29, .tmp 30]) rfl ?_); at_builtin; refine Kd.R_append_rows k25 (w0 := w2) w2.heap.size rfl (.tmp 29) (.tmp 30) 22 25 (.agg #[(.int .i64 0), (.int .i64 0), (.int .i64 0)]) 24 rfl Try.underlying22 info25 rfl (by decide) (by omega) v3 [] l4 _ _ _ (fun _ => True) (fun _ => False) rfl rfl HO3.out (Kd.C_below HR4.out (below_step HB2.out HB3.out)) (fun _ _ h => h) (fun _ h => h.elim) (fun _ _ => trivial) HB3.out HB3.out.size (by have := H40.out; simp only [List.length_nil]; omega) ?_; intro v4 w4 ho hb hg hat; rw [List.nil_append] at ho; obtain ⟨A5, c5, rfl⟩ := Kd.R_slice ho; have HB4 := Aside0.mk hb; have HO4 := Aside0.mk (R_C ho); clear ho hb hg hat)
   | ((with_reducible refine gate_dst (N := 13) rfl ?_); refine box_event ?hg (N := 13) ?hd (cs := #[.int .i64 0, .int .i64 0, .slice none 0 0]) (t := 35) ?hr ?_; (case hd => rfl); (case hg => rfl); (case hr => first | (go_simp; done) | (go_simp; rfl)); intro gt hg w5 hbox hb; have z0 : w5.cell? ⟨gt, 0, none⟩ = _ := cell_blk hbox rfl; have z1 : w5.cell? ⟨gt, 1, none⟩ = _ := cell_blk hbox rfl; have z2 : w5.cell? ⟨gt, 2, none⟩ = _ := cell_blk hbox rfl; have f0 := free_blk hbox 0; have f1 := free_blk hbox 1; have f2 := free_blk hbox 2; have HX5 := Aside0.mk hbox; have HG5 : Aside0 (w4.heap.size ≤ gt) := ⟨by rw [hg]; exact Nat.le_refl _⟩; have HB5 := Aside0.mk hb; clear hbox hb hg))
  obtain ⟨w6, hw6⟩ : ∃ w6, w6 = (((w5.setCell ⟨gt, 0, none⟩ (.int .i64 W0)).setCell ⟨gt, 1, none⟩ (.int .i64 H0)).setCell ⟨gt, 2, none⟩ (.slice A2 l0.length c2)) := ⟨_, rfl⟩
  rw [← hw6]
  have hX6 : w6.heap[gt]? = some (.cells #[.int .i64 W0, .int .i64 H0, .slice A2 l0.length c2] 35 (0, 0)) := by rw [hw6]; exact set_blk (set_blk (set_blk HX5.out 0 _) 1 _) 2 _
  have hB46 : Below w4.heap.size w4 w6 := by
   rw [hw6]
   exact ((((Chg.of_below HB5.out (fun k => w4.heap.size ≤ k)).set_ (p := ⟨gt, 0, none⟩) (.inl HG5.out) _).set_ (p := ⟨gt, 1, none⟩) (.inl HG5.out) _).set_ (p := ⟨gt, 2, none⟩) (.inl HG5.out) _).below (fun k hk => hk) (Nat.le_refl _)
  have HX6 := Aside0.mk hX6
  have HB26 := Aside0.mk (below_step HB4.out hB46)
  have HB6 := Aside0.mk (below_step HB2.out HB26.out)
  have HT6 := Aside0.mk (And.intro (Kd.C_below HO2.out.1 HB26.out) HO2.out.2)
  have HS6 := Aside0.mk (And.intro (Kd.C_below HO4.out.1 hB46) HO4.out.2)
  have HP6 := Aside0.mk (blk_step HP2.out HB26.out)
  have HGT := Aside0.mk (show w.heap.size ≤ gt from by have h1 := HB2.out.size; have h2 := HB4.out.size; have h3 := HG5.out; omega)
  clear hX6 hB46 hw6 z0 z1 z2 f0 f1 f2 HX5 HB5 HG5 HB1 HP1 HB3 HO3 HB4 HO4 HO2 HP2 HZ2
  go_cut [14] (fun v14 wc => ∃ (W H : Int) (At : Option Addr) (ct : Nat) (C : List Int) (As : Option Addr) (cs : Nat) (s : List Seed), v14 = .slice As s.length cs ∧ Aside0 (wc.heap[gt]? = some (.cells #[.int .i64 W, .int .i64 H, .slice At C.length ct] 35 (0, 0))) ∧ Aside0 (Kd.C (Kd.int .u8) wc At C.length C ∧ C.length ≤ ct) ∧ Aside0 (Kd.C k25 wc As s.length s ∧ s.length ≤ cs) ∧ Aside0 (Below w.heap.size w wc) ∧ Aside0 (C.length ≤ 1000 ∧ s.length ≤ 1000) ∧ Aside0 (∀ x ∈ C, 0 ≤ x ∧ x ≤ 255))
  case first =>
   cases a5 with
   | true =>
    go_wp2
    go_meet
    exact ⟨W0, H0, A2, c2, l0, A5, c5, l4, rfl, HX6, HT6, HS6, HB6, ⟨by have := H600.out; have := H40.out; omega⟩, HB0⟩
   | false =>
    obtain ⟨V, G, D, hM, ht, hd⟩ := madeTile_some a1 a2 l0 HB0.out (by have := H600.out; omega)
    have HMT := Aside0.mk (hM 2000 (by omega))
    have HTT := Aside0.mk ht
    have HDD := Aside0.mk hd
    obtain ⟨t1, t2, t3, t4, t5, t6⟩ := id ht
    have hm := mul_small ⟨t1, t2⟩ ⟨t3, t4⟩
    have HDL : Aside0 (D.length ≤ 256) := ⟨by omega⟩
    have hlf : (l3.take (min l3.length 24)).length ≤ 24 := by rw [List.length_take]; omega
    have HSE := Aside0.mk (seeds_some ht (l3.take (min l3.length 24)) (by omega))
    have HSL := Aside0.mk (Nat.le_trans (seedsOf_len V G D (l3.take (min l3.length 24))) hlf)
    have HFW := Aside0.mk (fun (w1 : World) (h1 : Kd.C (Kd.int .i64) w1 A3 l3.length l3) => few10_calls A3 c3 l3 w1 h1 HC3.out)
    obtain ⟨lf, hlf'⟩ : ∃ lf, lf = l3.take (min l3.length 24) := ⟨_, rfl⟩
    rw [← hlf'] at HSE HSL HFW
    obtain ⟨s, hs⟩ : ∃ s, s = seedsOf V G D lf := ⟨_, rfl⟩
    rw [← hs] at HSE HSL
    clear hM ht hd t1 t2 t3 t4 t5 t6 hm hlf hlf' hs
    have x0 : w6.cell? ⟨gp, 0, none⟩ = some (.int .i64 W0) := cell_blk HP6.out rfl
    have x1 : w6.cell? ⟨gp, 1, none⟩ = some (.int .i64 H0) := cell_blk HP6.out rfl
    have x2 : w6.cell? ⟨gp, 2, none⟩ = some (.slice A0 l0.length c0) := cell_blk HP6.out rfl
    go_upto_region 6 with (go_at_call 37; refine (herdsmanref1_MadeTile.calls 2000 a1 a2 A0 c0 l0 V G D _ (Kd.C_below HR0.out HB6.out) HC0.out HMT.out).mono ?_; rintro e w7 ⟨v7, rfl, ho, hb⟩; obtain ⟨At, ct, rfl⟩ := Kd.R_slice ho; have HO7 := Aside0.mk ho; have HX7 := Aside0.mk (blk_step HX6.out hb); have HB7 := Aside0.mk hb; have z0 : w7.cell? ⟨gt, 0, none⟩ = _ := cell_blk HX7.out rfl; have z1 : w7.cell? ⟨gt, 1, none⟩ = _ := cell_blk HX7.out rfl; have z2 : w7.cell? ⟨gt, 2, none⟩ = _ := cell_blk HX7.out rfl; have f0 := free_blk HX7.out 0; have f1 := free_blk HX7.out 1; have f2 := free_blk HX7.out 2; clear ho hb x0 x1 x2)
    obtain ⟨w8, hw8⟩ : ∃ w8, w8 = (((w7.setCell ⟨gt, 0, none⟩ (.int .i64 V)).setCell ⟨gt, 1, none⟩ (.int .i64 G)).setCell ⟨gt, 2, none⟩ (.slice At D.length ct)) := ⟨_, rfl⟩
    rw [← hw8]
    have hX8 : w8.heap[gt]? = some (.cells #[.int .i64 V, .int .i64 G, .slice At D.length ct] 35 (0, 0)) := by rw [hw8]; exact set_blk (set_blk (set_blk HX7.out 0 _) 1 _) 2 _
    have hO8 : Kd.R (Kd.int .u8) 5 w8 w6.heap.size (fun _ => True) (.slice At D.length ct) D := by
     rw [hw8]
     exact R_set (R_set (R_set HO7.out HX7.out (by decide) 0 _) (set_blk HX7.out 0 _) (by decide) 1 _) (set_blk (set_blk HX7.out 0 _) 1 _) (by decide) 2 _
    have hB8 : Below w.heap.size w w8 := by
     rw [hw8]
     exact ((((Chg.of_below (below_step HB6.out HB7.out) (fun k => w.heap.size ≤ k)).set_ (p := ⟨gt, 0, none⟩) (.inl HGT.out) _).set_ (p := ⟨gt, 1, none⟩) (.inl HGT.out) _).set_ (p := ⟨gt, 2, none⟩) (.inl HGT.out) _).below (fun k hk => hk) (Nat.le_refl _)
    have HC8 := Aside0.mk (R_C hO8)
    have HX8 := Aside0.mk hX8
    have HB8 := Aside0.mk hB8
    have t0 : w8.cell? ⟨gt, 0, none⟩ = some (.int .i64 V) := cell_blk hX8 rfl
    have t1 : w8.cell? ⟨gt, 1, none⟩ = some (.int .i64 G) := cell_blk hX8 rfl
    have t2 : w8.cell? ⟨gt, 2, none⟩ = some (.slice At D.length ct) := cell_blk hX8 rfl
    clear hX8 hO8 hB8 hw8 z0 z1 z2 f0 f1 f2 HX7 HB7 HO7
    go_region_held3 (fun w' => w'.cell? ⟨gt, 0, none⟩ = some (.int .i64 V) ∧ w'.cell? ⟨gt, 1, none⟩ = some (.int .i64 G) ∧ w'.cell? ⟨gt, 2, none⟩ = some (.slice At D.length ct))
     (first | exact ⟨t0, t1, t2⟩ | exact ⟨u0, u1, u2⟩ | exact ⟨y0, y1, y2⟩ | go_keep)
     (first
      | (go_at_call 57; refine (HFW.out _ (Kd.C_below HR3.out (below_drew1 HB8.out))).mono ?_; rintro e w9 ⟨A9, c9, rfl, hF, hF2, hb⟩; have u0 := pw_cell_below hb (a := ⟨gt, 0, none⟩) (v := .int .i64 V) t0; have u1 := pw_cell_below hb (a := ⟨gt, 1, none⟩) (v := .int .i64 G) t1; have u2 := pw_cell_below hb (a := ⟨gt, 2, none⟩) (v := .slice At D.length ct) t2; have HB9 := Aside0.mk (below_step (below_drew1 HB8.out) hb); have HX9 := Aside0.mk (blk_step (w := World.drew w8) HX8.out hb); have HT9 := Aside0.mk (Kd.C_below (w := World.drew w8) (Kd.C_drew HC8.out.1) hb); have HF9 := Aside0.mk (And.intro hF hF2); clear hF hF2 hb)
      | (go_at_call 38; refine (herdsmanref7_Seeds.calls V G At ct D A9 c9 lf s _ HT9.out HC8.out.2 HF9.out.1 HF9.out.2 HSE.out).mono ?_; rintro e w10 ⟨v10, rfl, ho, hb⟩; obtain ⟨As, cs, rfl⟩ := Kd.R_slice ho; have y0 := pw_cell_below hb (a := ⟨gt, 0, none⟩) (v := .int .i64 V) u0; have y1 := pw_cell_below hb (a := ⟨gt, 1, none⟩) (v := .int .i64 G) u1; have y2 := pw_cell_below hb (a := ⟨gt, 2, none⟩) (v := .slice At D.length ct) u2; have HB10 := Aside0.mk (below_step HB9.out hb); have HX10 := Aside0.mk (blk_step HX9.out hb); have HT10 := Aside0.mk (Kd.C_below HT9.out hb); have HS10 := Aside0.mk (R_C ho); clear ho hb))
    go_wp2
    go_meet
    exact ⟨V, G, At, ct, D, As, cs, s, rfl, HX10, ⟨HT10.out, HC8.out.2⟩, HS10, HB10, ⟨by have h1 := HDL.out; have h2 := HSL.out; omega⟩, HDD⟩
  case rest =>
   obtain ⟨W, H, At, ct, C, As, cs, s, rfl, HX, HT, HS, HB, HL, HBY⟩ := hcut
   clear HX6 HB26 HB6 HT6 HS6 HP6 HGT HR0 HR3 HR4 HC0 HC3 HC4 HOW HB0 H600 H40 d1 d2 d3 d4
   classical
   obtain ⟨D, E, ec, hfd, hde⟩ : ∃ D E ec, fieldF W H C s = some (D, E, ec) ∧ (SeedsOk W H C s ∧ D = distOf W C s ∧ E = dirsOf W H C s ∧ ec = 0 ∨ ¬ SeedsOk W H C s ∧ D = [] ∧ E = [] ∧ ec = 1) := by
    rw [field_any HBY.out HL.out.2]
    by_cases hs : SeedsOk W H C s
    ·exact ⟨_, _, _, if_pos hs, .inl ⟨hs, rfl, rfl, rfl⟩⟩
    ·exact ⟨_, _, _, if_neg hs, .inr ⟨hs, rfl, rfl, rfl⟩⟩
   have HFD := Aside0.mk hfd
   have HDE := Aside0.mk hde
   have HMY := Aside0.mk (maySeedsA W H C HL.out.1 s HL.out.2 5000 (by omega))
   clear hfd hde
   have x0 := cell_blk (j := 0) (u := .int .i64 W) HX.out rfl
   have x1 := cell_blk (j := 1) (u := .int .i64 H) HX.out rfl
   have x2 := cell_blk (j := 2) (u := .slice At C.length ct) HX.out rfl
   go_upto_region 8 with (first
    | (go_at_call 58; refine (field_calls W H At ct C As cs s D E ec _ HT.out.1 HT.out.2 HS.out.1 HS.out.2 HFD.out).mono ?_; rintro e w6 ⟨v0, v1, rfl, ho0, ho1, hb⟩; obtain ⟨Ad, cd, rfl⟩ := Kd.R_slice ho0; obtain ⟨Ae, ce, rfl⟩ := Kd.R_slice ho1; have HB6 := Aside0.mk (below_step HB.out hb); have HX6 := Aside0.mk (blk_step HX.out hb); have HT6 := Aside0.mk (Kd.C_below HT.out.1 hb); have HS6 := Aside0.mk (Kd.C_below HS.out.1 hb); have HD6 := Aside0.mk (R_C ho0); have HE6 := Aside0.mk (R_C ho1); have HSZ := Aside0.mk hb.size; clear ho0 ho1 hb x0 x1 x2)
    | ((with_reducible refine gate_dst (N := 15) rfl ?_); refine box_event ?hg (N := 15) ?hd (cs := #[.slice none 0 0, .slice none 0 0]) (t := 60) ?hr ?_; (case hd => rfl); (case hg => rfl); (case hr => first | (go_simp; done) | (go_simp; rfl)); intro gf hg w7 hbox hb; have z0 : w7.cell? ⟨gf, 0, none⟩ = _ := cell_blk hbox rfl; have z1 : w7.cell? ⟨gf, 1, none⟩ = _ := cell_blk hbox rfl; have f0 := free_blk hbox 0; have f1 := free_blk hbox 1; have HF7 := Aside0.mk hbox; have HG7 : Aside0 (w6.heap.size ≤ gf) := ⟨by rw [hg]; exact Nat.le_refl _⟩; have HK7 := Aside0.mk hb; clear hb hbox hg))
   obtain ⟨w8, hw8⟩ : ∃ w8, w8 = ((w7.setCell ⟨gf, 0, none⟩ (.slice Ad D.length cd)).setCell ⟨gf, 1, none⟩ (.slice Ae E.length ce)) := ⟨_, rfl⟩
   rw [← hw8]
   have hB68 : Below w6.heap.size w6 w8 := by
    rw [hw8]
    exact (((Chg.of_below HK7.out (fun k => w6.heap.size ≤ k)).set_ (p := ⟨gf, 0, none⟩) (.inl HG7.out) _).set_ (p := ⟨gf, 1, none⟩) (.inl HG7.out) _).below (fun k hk => hk) (Nat.le_refl _)
   have hEV : EnvF w8 gt gf W H At ct C As cs s Ad cd D Ae ce E :=
    ⟨blk_step HX6.out hB68, by rw [hw8]; exact set_blk (set_blk HF7.out 0 _) 1 _, ⟨Kd.C_below HT6.out hB68, HT.out.2⟩, ⟨Kd.C_below HS6.out hB68, HS.out.2⟩, ⟨Kd.C_below HD6.out.1 hB68, HD6.out.2⟩, ⟨Kd.C_below HE6.out.1 hB68, HE6.out.2⟩⟩
   have HEV := Aside0.mk hEV
   have HB8 := Aside0.mk (below_step HB6.out hB68)
   obtain ⟨t0, t1, t2, q0, q1⟩ := hEV.cells
   clear hw8 hEV hB68 z0 z1 f0 f1 HX6 HT6 HS6 HD6 HE6 HSZ HF7 HG7 HK7 HB6 HX HT HS HB
   obtain ⟨b, hb⟩ : ∃ b, b = decide (SeedsOk W H C s) := ⟨_, rfl⟩
   rw [← hb] at HMY
   have HBB := Aside0.mk hb
   clear hb
   go_upto_if 52 with (go_at_call 40; refine (herdsmanref7_MaySeeds.calls 5000 W H At ct C As cs s b _ HEV.out.tile.1 HEV.out.tile.2 HEV.out.seeds.1 HEV.out.seeds.2 HMY.out).mono ?_; rintro e w9 ⟨rfl, hb9⟩; have HEV9 := Aside0.mk (HEV.out.below hb9); have HB9 := Aside0.mk (below_step HB8.out hb9); clear hb9 t0 t1 t2 q0 q1)
   obtain ⟨t0, t1, t2, q0, q1⟩ := HEV9.out.cells
   rcases HDE.out with ⟨hs, rfl, rfl, rfl⟩ | ⟨hs, rfl, rfl, rfl⟩
   ·obtain rfl : b = true := HBB.out.trans (decide_eq_true hs)
    obtain ⟨n, hn⟩ := rfield_some HBY.out hs (by have := HL.out.2; omega)
    have HRF := Aside0.mk (hn n (Nat.le_refl _))
    have e1 := dist_len HBY.out hs
    have e2 := dirs_len W H C s
    have HSF := Aside0.mk (sameField_self (distOf W C s) (dirsOf W H C s) (by have := HL.out.1; omega) (by have := HL.out.1; omega) 5000 (by have := HL.out.1; omega))
    generalize distOf W C s = D at *
    generalize dirsOf W H C s = E at *
    clear hn e1 e2 hs HDE HFD
    go_wp2_with fail
    go_region_held3 (fun w' => w'.cell? ⟨gt, 0, none⟩ = some (.int .i64 W) ∧ w'.cell? ⟨gt, 1, none⟩ = some (.int .i64 H) ∧ w'.cell? ⟨gt, 2, none⟩ = some (.slice At C.length ct) ∧ w'.cell? ⟨gf, 0, none⟩ = some (.slice Ad D.length cd) ∧ w'.cell? ⟨gf, 1, none⟩ = some (.slice Ae E.length ce))
     (first | exact ⟨t0, t1, t2, q0, q1⟩ | exact HEV10.out.cells | exact HEV11.out.cells | exact HEV12.out.cells | go_keep)
     (first
      | (go_at_call 56; refine (told10_calls _).mono ?_; rintro e w10 ⟨rfl, hb⟩; have HEV10 := Aside0.mk ((HEV9.out.below (below_drew1 (Below.refl _ _))).below hb); have HB10 := Aside0.mk (below_step (below_drew1 HB9.out) hb); clear hb)
      | (go_at_call 60; refine (herdsmanref7_Field.calls n W H At ct C As cs s D E _ HEV10.out.tile.1 HEV10.out.tile.2 HEV10.out.seeds.1 HEV10.out.seeds.2 HRF.out).mono ?_; rintro e w11 ⟨v0, v1, rfl, ho0, ho1, hb⟩; obtain ⟨Ax, cx, rfl⟩ := Kd.R_slice ho0; obtain ⟨Ay, cy, rfl⟩ := Kd.R_slice ho1; have HEV11 := Aside0.mk (HEV10.out.below hb); have HB11 := Aside0.mk (below_step HB10.out hb); have HD11 := Aside0.mk (R_C ho0); have HE11 := Aside0.mk (R_C ho1); clear ho0 ho1 hb)
      | (go_at_call 59; refine (herdsmanref7_SameField.calls 5000 Ad cd D Ae ce E Ax cx D Ay cy E true _ HEV11.out.dist.1 HEV11.out.dist.2 HEV11.out.dirs.1 HEV11.out.dirs.2 HD11.out.1 HD11.out.2 HE11.out.1 HE11.out.2 HSF.out).mono ?_; rintro e w12 ⟨rfl, hb⟩; have HEV12 := Aside0.mk (HEV11.out.below hb); have HB12 := Aside0.mk (below_step HB11.out hb); clear hb))
    go_wp2
    go_ret
    exact ⟨rfl, HB12.out⟩
   ·obtain rfl : b = false := HBB.out.trans (decide_eq_false hs)
    go_wp2_with (go_at_call 56; refine (told10_calls _).mono ?_; rintro e w10 ⟨rfl, hb⟩; have HB10 := Aside0.mk (below_step HB9.out hb); have r0 := pw_cell_below hb q0; have r1 := pw_cell_below hb q1; clear hb)
    go_ret
    exact ⟨rfl, HB10.out⟩
 ·have told : ∀ (h : 600 < l0.length ∨ 600 ≥ l0.length ∧ 40 < l4.length), Calls Try.prog 17 #[.agg #[.int .i64 W0, .int .i64 H0, .slice A0 l0.length c0], .int .i64 a1, .int .i64 a2, .slice A3 l3.length c3, .slice A4 l4.length c4, .bool a5] w fun e w' => e = .returned (.bool true) ∧ Below w.heap.size w w' := by
   intro h
   rcases h with h | ⟨h0, h⟩
   case' inl =>
    have d1 : decide (600 < (l0.length : Int)) = true := decide_eq_true (by omega)
    have d2 : decide (600 < l0.length) = true := decide_eq_true (by omega)
   case' inr =>
    have d1 : decide (600 < (l0.length : Int)) = false := decide_eq_false (by omega)
    have d2 : decide (600 < l0.length) = false := decide_eq_false (by omega)
    have d3 : decide (40 < (l4.length : Int)) = true := decide_eq_true (by omega)
    have d4 : decide (40 < l4.length) = true := decide_eq_true (by omega)
   all_goals
    go_enter Try.func17, Try.ntmps17
    go_wp2_with (first
     | ((with_reducible refine gate_dst (N := 6) rfl ?_); refine box_event ?hg (N := 6) ?hd (cs := #[.int .i64 W0, .int .i64 H0, .slice A0 l0.length c0]) (t := 35) ?hr ?_; (case hd => rfl); (case hg => rfl); (case hr => first | (go_simp; done) | (go_simp; rfl)); intro gp hg w1 hbox hb; have p0 : w1.cell? ⟨gp, 0, none⟩ = _ := cell_blk hbox rfl; have p1 : w1.cell? ⟨gp, 1, none⟩ = _ := cell_blk hbox rfl; have p2 : w1.cell? ⟨gp, 2, none⟩ = _ := cell_blk hbox rfl; have HB1 := Aside0.mk hb; clear hbox hb hg)
     | (go_at_call 56; refine (told10_calls _).mono ?_; rintro e w10 ⟨rfl, hb⟩; have HB10 := Aside0.mk (below_step HB1.out hb); clear hb))
    go_ret
    exact ⟨rfl, HB10.out⟩
  exact told (by omega)
/-- As the row's form wants it. -/
noncomputable def fieldAsksH.f (k : Nat) (W0 H0 : Int) (l0 : List Int) (a1 a2 : Int) (l3 : List Int) (l4 : List Seed) (a5 : Bool) : Option Bool := open Classical in if ∀ x ∈ l0, 0 ≤ x ∧ x ≤ 255 then some true else none
theorem fieldAsksH.calls (k : Nat) (W0 H0 : Int) (A0 : Option Addr) (c0 : Nat) (l0 : List Int) (a1 a2 : Int) (A3 : Option Addr) (c3 : Nat) (l3 : List Int) (A4 : Option Addr) (c4 : Nat) (l4 : List Seed) (a5 : Bool) (r : Bool) (w : World) (hr0 : Kd.C (Kd.int .u8) w A0 l0.length l0) (hc0 : l0.length ≤ c0) (hr3 : Kd.C (Kd.int .i64) w A3 l3.length l3) (hc3 : l3.length ≤ c3) (hr4 : Kd.C k25 w A4 l4.length l4) (hc4 : l4.length ≤ c4) (h : fieldAsksH.f k W0 H0 l0 a1 a2 l3 l4 a5 = some r) :
  Calls Try.prog 17 #[.agg #[.int .i64 W0, .int .i64 H0, .slice A0 l0.length c0], .int .i64 a1, .int .i64 a2, .slice A3 l3.length c3, .slice A4 l4.length c4, .bool a5] w fun e w' => e = .returned (.bool r) ∧ Below w.heap.size w w' := by
 unfold fieldAsksH.f at h
 split at h
 ·rename_i hb
  obtain rfl := Option.some.inj h
  exact fieldAsks_calls W0 H0 A0 c0 l0 a1 a2 A3 c3 l3 A4 c4 l4 a5 w hr0 hc0 hr3 hc3 hr4 hc4 hb
 ·exact absurd h (by simp)
end Go.Proofs.Ytgcfcemgeppkmaa.P
