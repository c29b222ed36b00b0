/-
  WALKED BY HAND: herdsmanlaw14.MeshDirty.
-/
import Derived.Test.YthgehdembghdaaaGreatXMDirty
namespace Go.Proofs.YthgehdembghdaaaGreat.P
open Go.RowKit Go.Proofs.YthgehdembghdaaaGreatW.PrintWords Go.Proofs.YthgehdembghdaaaGreatW.PrintLast Go.Proofs.YthgehdembghdaaaGreatW.PrintMore
open Go.Proofs.YthgehdembghdaaaGreat.Geo Go.Proofs.YthgehdembghdaaaGreat.Dist
set_option linter.unusedVariables false
set_option linter.unusedSimpArgs false
variable {w w' : World} {g : Gb} {s : GridS} {m : Mb} {x : MeshS}
theorem edit_any (h : Net w g m s x) {c : Nat} (hc : c < s.C.length) {y : Int} (hy : 0 ≤ y ∧ y ≤ 255) (he : s.ep + 1 ≤ 1000000000) : Calls Tryz.prog 20 #[.pointer (some ⟨g.gb, 0, none⟩), .int .i64 c, .int .i64 y] w fun e w' => ∃ (r : Int) (s' : GridS), e = .returned (.int .i64 r) ∧ Net w' g m s' x ∧ Chg (own2 g m) w w' ∧ (r = 0 ∧ s' = gEd s c y ∨ r = 8 ∧ s' = s) := by
  by_cases q : y = 0
  · exact (gEdit_cost h.grid (c := (c : Int)) (by omega) (x := y) (by omega)).mono fun e w' ⟨h1, h2⟩ => ⟨8, s, h1, by rw [h2]; exact h, by rw [h2]; exact Chg.refl _ _, .inr ⟨rfl, rfl⟩⟩
  · exact (gEdit_calls h.grid hc (x := y) (by omega) he).mono fun e w' ⟨h1, h2, h3⟩ => ⟨0, gEd s c y, h1, h.edit h2 h3 rfl, h3.mono (fun b hb => .inl hb), .inl ⟨rfl, rfl⟩⟩
theorem dirty0 {W H : Int} {C : List Int} {n : Nat} (hn : (n : Int) = cnt W H) : (dirtyL (grid0 W H C) (mesh0 W H) n).length = n := by
  have : (cnt W H).toNat = n := by omega
  unfold dirtyL
  rw [List.length_map, List.filter_eq_self.2, List.length_range]
  intro j hj
  rw [List.mem_range] at hj
  refine decide_eq_true ?_
  show (((List.replicate (cnt W H).toNat (default : Part)).getD j default).ver) ≠ rd (List.replicate (cnt W H).toNat 1) (j : Int)
  rw [this, rd_get _ (by simpa using hj), List.getElem_replicate, List.getD_eq_getElem?_getD, List.getElem?_replicate, if_pos hj]
  decide
theorem dinv0 {W H : Int} {C : List Int} {n cl : Nat} (hok : MapOk W H C) (hn : (n : Int) = cnt W H) (hc : cl = C.length) : DInv (grid0 W H C) (mesh0 W H) W H cl n 0 := by
  have e : (cnt W H).toNat = n := by omega
  refine ⟨⟨rfl, rfl, hc.symm⟩, by show (List.replicate _ _).length = n; rw [List.length_replicate, e], fun j hj => ?_, fun j hj => ?_, by show (0 : Int) ≤ 1; omega, fun q => absurd (show (0 : Int) = 1 from q) (by omega), by show (1 : Int) ≤ 1 + ((0 : Nat) : Int); omega, by show (0 : Int) ≤ 4096 * ((0 : Nat) : Int); omega⟩
  · show ((List.replicate (cnt W H).toNat (default : Part)).getD j default).ver ≤ 1
    rw [e, List.getD_eq_getElem?_getD, List.getElem?_replicate, if_pos hj]
    decide
  · show rd (List.replicate (cnt W H).toNat 1) (j : Int) ≤ 1
    rw [e, rd_get _ (by simpa using hj), List.getElem_replicate]
    decide
theorem marks0 {W H : Int} {C : List Int} {n : Nat} {B : List Bool} (hok : MapOk W H C) (hn : (n : Int) = cnt W H) (h1 : B.length = n) (h2 : ∀ j : Nat, j < n → rdOf false B (j : Int) = true) : Marks (grid0 W H C) (mesh0 W H) n B := by
  have e : (cnt W H).toNat = n := by omega
  refine ⟨h1, fun j hj => ?_⟩
  rw [h2 j hj, decide_eq_true]
  show (((List.replicate (cnt W H).toNat (default : Part)).getD j default).ver) ≠ rd (List.replicate (cnt W H).toNat 1) (j : Int)
  rw [e, rd_get _ (by simpa using hj), List.getElem_replicate, List.getD_eq_getElem?_getD, List.getElem?_replicate, if_pos hj]
  decide
theorem reb_again {n : Nat} {x' : MeshS} (h : Net w g m s x') (hr : RebR s x x') (hl : x.ps.length = n) (hc : x'.cnt ≤ 100000000) : Calls Tryz.prog 23 #[mP m] w fun e w' => ∃ x2, e = .returned (.int .i64 0) ∧ Net w' g m s x2 ∧ RebR s x' x2 ∧ Chg m.own w w' := by
  have h0 := reb_clean hr hl
  have hl2 : x'.ps.length = n := hr.len.trans hl
  have h1 := mRebuild_calls h hc (fun _ => by rw [hl2]; exact h0)
  rw [hl2, h0] at h1
  exact h1
set_option maxRecDepth 100000 in
set_option maxHeartbeats 8000000 in
theorem meshDirty_calls (w0 h0 : Int) (A2 : Option Addr) (c2 : Nat) (l2 : List Int) (Al : Option Addr) (cL : Nat) (l : List S53) (Aw : Option Addr) (cw : Nat) (wh : List Bool) (w : World)
    (hr : Kd.C (Kd.int .u8) w A2 l2.length l2) (hc2 : l2.length ≤ c2) (hb2 : ∀ y ∈ l2, 0 ≤ y ∧ y ≤ 255) (hl2 : l2.length ≤ 140737488355328) (hl : Kd.C k53 w Al l.length l) (hw : Kd.C Kd.bool w Aw wh.length wh) :
    Calls Tryz.prog 3 #[.int .i64 w0, .int .i64 h0, .slice A2 l2.length c2, .slice Al l.length cL, .slice Aw wh.length cw] w fun e w' => e = .returned (.bool true) ∧ Below w.heap.size w w' := by
  obtain ⟨W, H, C, hmd, hW, hH, hok⟩ := made_some w0 h0 l2 hb2 hl2
  have HR := Aside0.mk hr
  have HC2 := Aside0.mk hc2
  have HMD := Aside0.mk (hmd 2000 (Nat.le_refl _))
  have HOK := Aside0.mk hok
  have HL := Aside0.mk hl
  have HW := Aside0.mk hw
  clear hr hc2 hmd hok hl hw hb2 hl2 hW hH
  have hcnt := cnt_le HOK.out.dim
  have HCN := Aside0.mk (rCount HOK.out.dim)
  obtain ⟨n, hn⟩ : ∃ n : Nat, (n : Int) = cnt W H := ⟨(cnt W H).toNat, by omega⟩
  rw [← hn] at hcnt HCN
  have HN := Aside0.mk (And.intro hn hcnt)
  obtain ⟨cl, hcl⟩ : ∃ cl, cl = C.length := ⟨_, rfl⟩
  have HCL : Aside0 (cl = C.length ∧ 1 ≤ cl ∧ cl ≤ 1048576) := ⟨by have := HOK.out.len; have := wh_le HOK.out.dim; omega⟩
  have hbz := run_bools n (by omega)
  clear hn hcnt
  go_enter Tryz.func3, Tryz.ntmps3
  go_upto_region 2 with (first
    | (go_at_call 17; refine (built_calls w0 h0 A2 c2 l2 _ HR.out HC2.out HMD.out HOK.out).mono ?_; rintro e w1 ⟨mb, cb, g, m, rfl, hbu⟩; have HBU := Aside0.mk hbu; clear hbu)
    | ((with_reducible refine gate_dst (N := 11) rfl ?_); refine box_event ?hg (N := 11) ?hd (cs := #[.int .i64 0, .int .i64 0, .slice none 0 0]) (t := 26) ?hr ?_; (case hd => rfl); (case hg => rfl); (case hr => first | (go_simp; done) | (go_simp; rfl)); intro gt hg w3 hbox hb; have z0 : w3.cell? ⟨gt, 0, none⟩ = _ := cell_blk hbox rfl; have z1 : w3.cell? ⟨gt, 1, none⟩ = _ := cell_blk hbox rfl; have z2 : w3.cell? ⟨gt, 2, none⟩ = _ := cell_blk hbox rfl; have f0 := free_blk hbox 0; have f1 := free_blk hbox 1; have f2 := free_blk hbox 2; have HX3 := Aside0.mk hbox; have HB3 := Aside0.mk hb; have HG3 := Aside0.mk hg; clear hbox hb hg))
  obtain ⟨w4, hw4⟩ : ∃ w4, w4 = (((w3.setCell ⟨gt, 0, none⟩ (.int .i64 W)).setCell ⟨gt, 1, none⟩ (.int .i64 H)).setCell ⟨gt, 2, none⟩ (.slice (some ⟨mb, 0, none⟩) C.length cb)) := ⟨_, rfl⟩
  rw [← hw4]
  have hs1 := HBU.out.below.size
  have hgt : w.heap.size ≤ gt := by rw [HG3.out]; exact hs1
  have hc34 : Chg (fun b => b = gt) w3 w4 := by rw [hw4]; exact (((Chg.refl (fun b => b = gt) w3).set_ (.inl rfl) _).set_ (.inl rfl) _).set_ (.inl rfl) _
  have hn3 : Net w3 g m (grid0 W H C) (mesh0 W H) := HBU.out.net.below HB3.out
  have hn4 : Net w4 g m (grid0 W H C) (mesh0 W H) := hn3.chg hc34 (fun b hb e => by subst e; exact hn3.notown HX3.out (.inl rfl) hb) (by rintro k rfl cs; exact ⟨typ_ne HX3.out (by decide), typ_ne HX3.out (by decide)⟩)
  have hx4 : w4.heap[gt]? = some (.cells #[.int .i64 W, .int .i64 H, .slice (some ⟨mb, 0, none⟩) cl cb] 26 (0, 0)) := by rw [hw4, hcl]; exact set_blk (set_blk (set_blk HX3.out 0 _) 1 _) 2 _
  have hb4 : Below w.heap.size w w4 := by rw [hw4]; exact (((below_step HBU.out.below HB3.out).setCell hgt _).setCell hgt _).setCell hgt _
  have HN4 := Aside0.mk hn4
  have HX4 := Aside0.mk hx4
  have HB4 := Aside0.mk hb4
  have HLOW : Aside0 (∀ b, own2 g m b → w.heap.size ≤ b) := ⟨fun b hb => (HBU.out.apart b hb).1⟩
  have t0 := cell_blk (j := 0) (u := .int .i64 W) hx4 rfl
  have t1 := cell_blk (j := 1) (u := .int .i64 H) hx4 rfl
  clear hs1 hgt hc34 hn3 hn4 hx4 hb4 hw4 z0 z1 z2 f0 f1 f2 HX3 HB3 HG3 HBU hcl HR HMD
  go_upto_region 5 with (go_at_call 18; refine (herdsmanref1_Count.calls W H (n : Int) _ HCN.out).mono ?_; rintro e w5 ⟨rfl, hd⟩; have HB5 := Aside0.mk hd.below; have HN5 := Aside0.mk (HN4.out.below hd.below); have HX5 := Aside0.mk (blk_step HX4.out hd.below); clear hd t0 t1)
  go_upto_region 7 with (fail)
  have hdl := DLoop.fresh (w := w) HN5.out HX5.out HLOW.out (below_step HB4.out HB5.out) n (by have := HN.out; omega)
  obtain ⟨w6, hw6⟩ : ∃ w6, w6 = w5.alloc (.cells (madeCells #[.bool false] n) 4) := ⟨_, rfl⟩
  obtain ⟨db, hdb⟩ : ∃ db, db = w5.heap.size := ⟨_, rfl⟩
  rw [← hw6, ← hdb] at hdl ⊢
  have HDL := Aside0.mk hdl
  clear hdl hw6 hdb HN4 HX4 HB4 HB5 HN5 HX5
  go_wp2_with fail
  go_loopg [17] n (fun gg v17 wr => ∃ (k : Nat) (B : List Bool), v17 = .int .i64 k ∧ k ≤ n ∧ n - k ≤ gg ∧ Aside0 (B.length = n ∧ ∀ j : Nat, j < k → rdOf false B (j : Int) = true) ∧ Aside0 (DLoop w wr g m (grid0 W H C) (mesh0 W H) W H gt mb cb db cl B))
  case atStart => exact ⟨0, _, rfl, Nat.zero_le _, Nat.le_refl _, ⟨by simp, fun j hj => absurd hj (by omega)⟩, HDL⟩
  case round =>
    clear HDL
    obtain ⟨k, B, rfl, hk, hgg, HBB, HDL⟩ := hrel
    by_cases hlt : k < n
    · have d1 : (k : Int) < (n : Int) := by omega
      have e1 : (0 : Int) ≤ (k : Int) := by omega
      obtain ⟨vc, vf⟩ := HDL.out.cell (j := k) (by rw [HBB.out.1]; exact hlt)
      have HI := Aside0.mk (And.intro hk (And.intro hgg hlt))
      clear hk hgg hlt
      go_wp2_with fail
      go_roundg (n - (k + 1))
      case measure => have := HI.out; omega
      case rel =>
        have hh := HI.out
        have hn := HN.out
        exact ⟨k + 1, B.set k true, by first | rfl | (rw [w64 (n := (k : Int) + 1) (by omega) (by omega)]; rfl), by omega, Nat.le_refl _, ⟨by rw [List.length_set]; exact HBB.out.1, fun j hj => by
          unfold rdOf
          rw [getD_set]
          by_cases q : k = j
          · rw [if_pos ⟨by simpa using q, by rw [HBB.out.1]; exact hh.2.2⟩]
          · rw [if_neg (fun r => q (by have := r.1; simpa using this))]; exact HBB.out.2 j (by omega)⟩, ⟨HDL.out.put k⟩⟩
    · obtain rfl : k = n := by omega
      have d1 : decide ((k : Int) < (k : Int)) = false := by simp
      clear hk hgg hlt
      have hdi := dinv0 HOK.out HN.out.1 HCL.out.1
      have hmk := marks0 HOK.out HN.out.1 HBB.out.1 HBB.out.2
      have hdn := dirty0 (W := W) (H := H) (C := C) HN.out.1
      have HDI := Aside0.mk hdi
      have HMK := Aside0.mk hmk
      have HDN := Aside0.mk hdn
      clear hdi hmk hdn HBB
      go_wp2_with fail
      go_loopg [15, 16, 18, 19] 30 (fun gg v15 v16 v18 v19 wr => ∃ (i : Nat) (s : GridS) (x : MeshS) (B : List Bool) (db : Nat), v15 = .slice (some ⟨db, 0, none⟩) k k ∧ v16 = .int .i64 ((dirtyL s x k).length : Int) ∧ v18 = .int .u64 x.cnt ∧ v19 = .int .i64 (i : Int) ∧ i ≤ 30 ∧ 30 - i ≤ gg ∧ Aside0 (DInv s x W H cl k i) ∧ Aside0 (Marks s x k B) ∧ Aside0 (DLoop w wr g m s x W H gt mb cb db cl B))
      case atStart => exact ⟨0, _, _, _, db, rfl, by rw [HDN.out], rfl, rfl, by omega, by omega, HDI, HMK, HDL⟩
      case round =>
        clear HDI HMK HDN HDL
        obtain ⟨i, s, x, B, db, rfl, rfl, rfl, rfl, hi, hgg, HDI, HMK, HDL⟩ := hrel
        by_cases hlt : i < l.length ∧ i < 30
        · have d1 : (i : Int) < (l.length : Int) := by omega
          have d2 : (i : Int) < 30 := by omega
          obtain ⟨adl, hAl, q0, q1⟩ := at_T53 (Kd.C_below HL.out HDL.out.below) (i : Int) (by omega) d1
          subst hAl
          rw [Int.toNat_natCast] at q0 q1
          obtain ⟨a, ha⟩ : ∃ a, a = (rd_T53 l (i : Int)).f0 := ⟨_, rfl⟩
          obtain ⟨b, hb⟩ : ∃ b, b = (rd_T53 l (i : Int)).f1 := ⟨_, rfl⟩
          rw [← ha] at q0
          rw [← hb] at q1
          have hcl := HCL.out
          have hwa := within_some a (lo := 0) (hi := (cl : Int) - 1) (by omega) (by omega) (by omega)
          have hwb := within_some b (lo := 0) (hi := 255) (by omega) (by omega) (by omega)
          have ra0 := Int.emod_nonneg a (show (cl : Int) - 1 - 0 + 1 ≠ 0 by omega)
          have ra1 := Int.emod_lt_of_pos a (show 0 < (cl : Int) - 1 - 0 + 1 by omega)
          have rb0 := Int.emod_nonneg b (show (255 : Int) - 0 + 1 ≠ 0 by omega)
          have rb1 := Int.emod_lt_of_pos b (show (0 : Int) < 255 - 0 + 1 by omega)
          obtain ⟨c, hc⟩ : ∃ c : Nat, (c : Int) = 0 + a % ((cl : Int) - 1 - 0 + 1) := ⟨(0 + a % ((cl : Int) - 1 - 0 + 1)).toNat, by omega⟩
          obtain ⟨y, hy⟩ : ∃ y : Int, y = 0 + b % (255 - 0 + 1) := ⟨_, rfl⟩
          rw [← hc] at hwa
          rw [← hy] at hwb
          have HWA := Aside0.mk hwa
          have HWB := Aside0.mk hwb
          have HCY : Aside0 (c < cl ∧ 0 ≤ y ∧ y ≤ 255) := ⟨by omega⟩
          have HDL0 := Aside0.mk HDL.out.net.grid
          have iw : IntKind.i64.wrap ((cl : Int) - 1) = (cl : Int) - 1 := by rw [IntKind.wrap_i64]; omega
          have t2 := cell_blk (j := 2) (u := .slice (some ⟨mb, 0, none⟩) cl cb) HDL.out.box rfl
          have HI := Aside0.mk (And.intro hi (And.intro hgg hlt))
          clear ha hb hcl hwa hwb ra0 ra1 rb0 rb1 hc hy hi hgg hlt
          go_upto_region 15 with fail
          repeat (go_quiet (first | (go_at_call 19; (with_reducible refine (herdsmanref1_Within.calls a 0 ((cl : Int) - 1) (c : Int) _ HWA.out).mono ?_); rintro e w' ⟨rfl, ⟨nd, rfl⟩⟩; (try first | exact ⟨rfl, _, World.drewN_drewN _ _ _⟩ | exact ⟨rfl, _, rfl⟩))))
          obtain ⟨wx, hwx⟩ : ∃ wx, wx = wr.drewN nq := ⟨_, rfl⟩
          have HD6 : Aside0 (DLoop w wx g m s x W H gt mb cb db cl B) := ⟨by rw [hwx]; exact HDL.out.go (pw_below_drewN (Below.refl _ _) nq)⟩
          have q1' : wx.cell? ⟨(adl.add (i * 2)).block, (adl.add (i * 2)).off + 1, none⟩ = some (.int .i64 b) := by rw [hwx]; exact q1
          rw [← hwx]
          clear hwx q0 q1 t2 HDL iw
          go_upto_if 79 with (first
            | (go_at_call 19; refine (herdsmanref1_Within.calls b 0 255 y _ HWB.out).mono ?_; rintro e w' ⟨rfl, ⟨nd, rfl⟩⟩; have HD7 := Aside0.mk (HD6.out.go (pw_below_drewN (Below.refl wx.heap.size wx) nd)); clear HD6 q1')
            | (go_at_call 20; refine (edit_any HD7.out.net (c := c) (by rw [HDI.out.dims.2.2]; exact HCY.out.1) HCY.out.2 (by have := HDI.out.ep; have := HI.out; omega)).mono ?_; rintro e w7 ⟨r, s', rfl, hn, hc, hcase⟩; have HD8 := Aside0.mk (HD7.out.step hn hc); have HS := Aside0.mk hcase; clear hn hc hcase HD7))
          go_cut [16] (fun v16 wc => ∃ (B' : List Bool), v16 = .int .i64 ((dirtyL s' x k).length : Int) ∧ Aside0 (DInv s' x W H cl k (i + 1)) ∧ Aside0 (Marks s' x k B') ∧ Aside0 (DLoop w wc g m s' x W H gt mb cb db cl B'))
          case first =>
            rcases HS.out with ⟨hr0, hs0⟩ | ⟨hr0, hs0⟩
            · subst hr0
              subst hs0
              have hdm := HDI.out.dims
              have hok := HDL0.out
              have hvl := hok.vlen
              have hln := HDI.out.len
              have hcw : (c : Int) < W * H := by have := hok.ok.len; have := HCY.out.1; rw [hdm.1, hdm.2.1] at *; omega
              have hdim : Dim W H := by have := hok.ok.dim; rw [hdm.1, hdm.2.1] at this; exact this
              have hsr := sec_rng hdim (c := (c : Int)) (by omega) hcw
              obtain ⟨q, hq⟩ : ∃ q : Nat, (q : Int) = sec W (c : Int) := ⟨(sec W (c : Int)).toNat, by omega⟩
              have hqk : q < k := by have := HN.out.1; omega
              have hvk : s.V.length = k := by have := HN.out.1; rw [hdm.1, hdm.2.1] at hvl; omega
              have hqs : (sec s.W (c : Int)).toNat = q := by rw [hdm.1]; omega
              have hse := wSector hdim (c : Int)
              rw [if_pos ⟨by omega, hcw⟩, ← hq] at hse
              have HSE := Aside0.mk hse
              have HEQ := Aside0.mk (And.intro hqk (And.intro hvk hqs))
              have d3 : decide ((q : Int) < 0) = false := decide_eq_false (by omega)
              have d4 : decide ((k : Int) ≤ (q : Int)) = false := decide_eq_false (by omega)
              have t0 := cell_blk (j := 0) (u := .int .i64 W) HD8.out.box rfl
              have t1 := cell_blk (j := 1) (u := .int .i64 H) HD8.out.box rfl
              have hml := HMK.out.1
              have hmq := HMK.out.2 q hqk
              have e0 : (0 : Int) ≤ (q : Int) := by omega
              have d5 : (q : Int) < (k : Int) := by omega
              have hcount := dirty_edit k (HDI.out.dirty hvk c y hqs)
              by_cases hd : dirtyI s x q
              · rw [if_neg (fun r => r.2 hd), Nat.add_zero] at hcount
                have HCO := Aside0.mk hcount
                have HDQ := Aside0.mk hd
                clear hdm hok hvl hln hcw hdim hsr hq hqk hvk hqs hse hml hmq hcount hd
                go_wp2_with (go_at_call 21; refine (where_Sector.calls W H (c : Int) (q : Int) _ HSE.out).mono ?_; rintro e w9 ⟨rfl, hb⟩; have HD9 := Aside0.mk (HD8.out.go (Drawn0.below hb)); have hcl := HD9.out.cell (j := q) (by rw [HMK.out.1]; exact HEQ.out.1); rw [HMK.out.2 q HEQ.out.1, decide_eq_true HDQ.out] at hcl; obtain ⟨vc, vf⟩ := hcl; clear hb t0 t1)
                go_meet
                have hln := dirty_len s x k
                have hkk := HN.out
                have hco := HCO.out
                exact ⟨B.set q true, by rw [hco], ⟨HDI.out.edit HEQ.out.2.1 c y⟩, ⟨HMK.out.edit HDI.out HEQ.out.2.1 c y HEQ.out.2.2 HEQ.out.1⟩, ⟨HD9.out.put q⟩⟩
              · rw [if_pos ⟨hqk, hd⟩] at hcount
                have HCO := Aside0.mk hcount
                have HDQ := Aside0.mk hd
                clear hdm hok hvl hln hcw hdim hsr hq hqk hvk hqs hse hml hmq hcount hd
                go_wp2_with (go_at_call 21; refine (where_Sector.calls W H (c : Int) (q : Int) _ HSE.out).mono ?_; rintro e w9 ⟨rfl, hb⟩; have HD9 := Aside0.mk (HD8.out.go (Drawn0.below hb)); have hcl := HD9.out.cell (j := q) (by rw [HMK.out.1]; exact HEQ.out.1); rw [HMK.out.2 q HEQ.out.1, decide_eq_false HDQ.out] at hcl; obtain ⟨vc, vf⟩ := hcl; clear hb t0 t1)
                go_meet
                have hln := dirty_len s x k
                have hkk := HN.out
                have hco := HCO.out
                exact ⟨B.set q true, by rw [hco, w64 (by omega) (by omega)]; rfl, ⟨HDI.out.edit HEQ.out.2.1 c y⟩, ⟨HMK.out.edit HDI.out HEQ.out.2.1 c y HEQ.out.2.2 HEQ.out.1⟩, ⟨HD9.out.put q⟩⟩
            · subst hr0
              subst hs0
              clear HS
              go_wp2_with fail
              go_meet
              exact ⟨B, rfl, ⟨HDI.out.weak⟩, HMK, HD8⟩
          case rest =>
            obtain ⟨B', rfl, HDI2, HMK2, HD9⟩ := hcut
            have HXC := Aside0.mk HDI.out.cnt
            clear HDI HMK HD8 HS HDL0 HWA HWB HCY a b
            have hxl := HDI2.out.len
            have hlk := dirty_len s' x k
            have hpw := dirty_up s' x k
            obtain ⟨L, hL⟩ : ∃ L, L = dirtyL s' x k := ⟨_, rfl⟩
            have HLE : Aside0 ((if x.clean = s'.ep then [] else dirtyL s' x x.ps.length) = L) := ⟨by
              rw [hxl, hL]
              split
              · rename_i q; exact (HDI2.out.clq q).symm
              · rfl⟩
            have HLX : Aside0 (dirtyL s' x x.ps.length = L) := ⟨by rw [hxl, hL]⟩
            rw [← hL] at hlk hpw ⊢
            have HLL := Aside0.mk hL
            have HLK := Aside0.mk hlk
            have HPW := Aside0.mk hpw
            clear hL hlk hpw hxl
            go_upto_region 26 with (go_at_call 22; refine (mDirty_calls HD9.out.net).mono ?_; rintro e w8 ⟨v8, rfl, ho, hb⟩; rw [HLE.out] at ho; obtain ⟨A8, n8, rfl⟩ := Kd.R_slice ho; have HO8 := Aside0.mk (Kd.R_lower ho (Nat.zero_le _)); have HD10 := Aside0.mk (HD9.out.go hb); clear hb ho HD9)
            go_wp2_with fail
            go_loopg [23] L.length (fun gg v23 wq => ∃ j : Nat, v23 = .int .i64 (j : Int) ∧ j ≤ L.length ∧ L.length - j ≤ gg ∧ Aside0 (DLoop w wq g m s' x W H gt mb cb db cl B') ∧ Aside0 (RowN wq 0 (.slice A8 L.length n8) L))
            case atStart => exact ⟨0, rfl, Nat.zero_le _, Nat.le_refl _, HD10, HO8⟩
            case round =>
              clear HD10 HO8
              obtain ⟨j, rfl, hj, hgg2, HD11, HO11⟩ := hrel
              by_cases hlt2 : j < L.length
              · have d1 : (j : Int) < (L.length : Int) := by omega
                obtain ⟨ad8, hA8, hx⟩ := Kd.at_int (Kd.R_reads' HO11.out).2.2 (j : Int) (by omega) d1
                subst hA8
                rw [Int.toNat_natCast, rd_get L hlt2] at hx
                have hm : L[j] ∈ dirtyL s' x k := (congrArg (fun z => L[j] ∈ z) HLL.out).mp (List.getElem_mem hlt2)
                obtain ⟨v, hvn, hvd, hve⟩ := mem_dirty.1 hm
                rw [hve] at hx
                have hcl := HD11.out.cell (j := v) (by rw [HMK2.out.1]; exact hvn)
                rw [HMK2.out.2 v hvn, decide_eq_true hvd] at hcl
                obtain ⟨vc, vf⟩ := hcl
                have d3 : decide ((v : Int) < 0) = false := decide_eq_false (by omega)
                have d4 : decide ((k : Int) ≤ (v : Int)) = false := decide_eq_false (by omega)
                have d4c : decide (k ≤ v) = false := decide_eq_false (by omega)
                have d4b : (v : Int) < (k : Int) := by omega
                have e0 : (0 : Int) ≤ (v : Int) := by omega
                have e1 : (0 : Int) ≤ (j : Int) := by omega
                have hkb : B'.length = k := HMK2.out.1
                have HI2 := Aside0.mk (And.intro hj (And.intro hgg2 hlt2))
                by_cases hj0 : 0 < j
                · obtain ⟨p, hp⟩ : ∃ p : Nat, p + 1 = j := ⟨j - 1, by omega⟩
                  have hpl : p < L.length := by omega
                  obtain ⟨ad8', hA8', hx'⟩ := Kd.at_int (Kd.R_reads' HO11.out).2.2 (p : Int) (by omega) (by omega)
                  obtain rfl : ad8 = ad8' := by injection hA8'
                  rw [Int.toNat_natCast, rd_get L hpl] at hx'
                  have hlt3 : L[p] < L[j] := List.pairwise_iff_getElem.1 HPW.out p j hpl hlt2 (by omega)
                  rw [hve] at hlt3
                  obtain ⟨u, hu⟩ : ∃ u, u = L[p] := ⟨_, rfl⟩
                  rw [← hu] at hx' hlt3
                  have d5 : (0 : Int) < (j : Int) := by omega
                  have d5b : 0 < j := hj0
                  have d6 : decide ((v : Int) ≤ u) = false := decide_eq_false (by omega)
                  have iw2 : IntKind.i64.wrap ((j : Int) - 1) = (p : Int) := by have := HLK.out; have := HN.out; rw [IntKind.wrap_i64]; omega
                  have e2 : (0 : Int) ≤ (p : Int) := by omega
                  have d7 : (p : Int) < (L.length : Int) := by omega
                  clear hm hvn hvd hve hj hgg2 hlt2 hj0 hp hpl hA8' hlt3 hu hkb
                  go_upto_region 29 with fail
                  go_quiet (fail)
                  go_wp2_with fail
                  go_roundg (L.length - (j + 1))
                  case measure => have := HI2.out; omega
                  case rel =>
                    have hh := HI2.out
                    have hlk := HLK.out
                    have hnn := HN.out
                    exact ⟨j + 1, by first | rfl | (rw [w64 (n := (j : Int) + 1) (by omega) (by omega)]; rfl), by omega, Nat.le_refl _, ⟨HD11.out.go (pw_below_drewN (Below.refl _ _) _)⟩, ⟨Kd.R_drewN HO11.out _⟩⟩
                · have d5 : decide (0 < (j : Int)) = false := decide_eq_false (by omega)
                  have d5b : decide (0 < j) = false := decide_eq_false hj0
                  clear hm hvn hvd hve hj hgg2 hlt2 hj0 hkb
                  go_upto_region 29 with fail
                  go_quiet (fail)
                  go_wp2_with fail
                  go_roundg (L.length - (j + 1))
                  case measure => have := HI2.out; omega
                  case rel =>
                    have hh := HI2.out
                    have hlk := HLK.out
                    have hnn := HN.out
                    exact ⟨j + 1, by first | rfl | (rw [w64 (n := (j : Int) + 1) (by omega) (by omega)]; rfl), by omega, Nat.le_refl _, ⟨HD11.out.go (pw_below_drewN (Below.refl _ _) _)⟩, ⟨Kd.R_drewN HO11.out _⟩⟩
              · obtain rfl : j = L.length := by omega
                have d1 : decide (((L.length : Nat) : Int) < (L.length : Int)) = false := by simp
                clear hj hgg2 hlt2
                by_cases hwn : i < wh.length ∧ rdOf false wh (i : Int) = true
                · have d2 : (i : Int) < (wh.length : Int) := by omega
                  obtain ⟨adw, hAw, hxw⟩ := Kd.at_bool (Kd.C_below HW.out HD11.out.below) (i : Int) (by omega) d2
                  subst hAw
                  rw [Int.toNat_natCast, hwn.2] at hxw
                  have e1 : (0 : Int) ≤ (i : Int) := by omega
                  have hcn : 0 ≤ x.cnt := by obtain ⟨_, h6⟩ := HD11.out.net.mesh; exact h6.cnt.1
                  have hb1 := HXC.out
                  have hb2 := HLK.out
                  have hb3 := HN.out
                  have hb4 := HI.out
                  have iu1 : IntKind.u64.wrap (L.length : Int) = (L.length : Int) := by rw [IntKind.wrap_u64]; omega
                  have iu2 : IntKind.u64.wrap (x.cnt + (L.length : Int)) = x.cnt + (L.length : Int) := by rw [IntKind.wrap_u64]; omega
                  have hrb := mRebuild_calls HD11.out.net (by omega) (fun q => by rw [HLX.out, HLL.out]; exact HDI2.out.clq q)
                  rw [HLX.out] at hrb
                  have HRB := Aside0.mk hrb
                  have HSML := Aside0.mk (And.intro hcn hb1)
                  clear hwn hcn hb1 hb2 hb3 hb4 hrb
                  go_wp2_with (first
                    | (go_at_call 23; refine HRB.out.mono ?_; rintro e w9 ⟨x9, rfl, hn, hr, hc⟩; have HD12 := Aside0.mk (HD11.out.step hn (hc.mono (fun b hb => .inr hb))); have HR9 := Aside0.mk hr; have hc9 := hr.cnt; rw [HLX.out] at hc9; have HC9 := Aside0.mk hc9; clear hn hr hc hc9 HRB HD11 hxw)
                    | (go_at_call 24; refine (mCount_calls HD12.out.net).mono ?_; rintro e w' ⟨he, rfl⟩; rw [HC9.out] at he; subst he)
                    | (go_at_call 22; refine (mDirty_calls HD12.out.net).mono ?_; rintro e w10 ⟨v10, rfl, ho, hb⟩; rw [if_pos HR9.out.clean] at ho; obtain ⟨A10, n10, e10⟩ := Kd.R_slice ho; have e10b : v10 = .slice A10 0 n10 := e10; subst e10b; have HD13 := Aside0.mk (HD12.out.go hb); clear ho hb HD12 e10)
                    | (go_at_call 23; refine (reb_again HD13.out.net HR9.out HDI2.out.len (by have := HC9.out; have := HSML.out; have := HLK.out; have := HN.out; have := HI.out; omega)).mono ?_; rintro e w11 ⟨x11, rfl, hn, hr, hc⟩; have HD14 := Aside0.mk (HD13.out.step hn (hc.mono (fun b hb => .inr hb))); have HR11 := Aside0.mk hr; clear hn hr hc HD13))
                  go_roundg (30 - (i + 1))
                  case measure => have := HI.out; omega
                  case rel =>
                    have hh := HI.out
                    have hl9 : x9.ps.length = k := HR9.out.len.trans HDI2.out.len
                    have h9 := reb_clean HR9.out HDI2.out.len
                    have h11 := reb_clean HR11.out hl9
                    have hc11 := HR11.out.cnt
                    rw [hl9, h9] at hc11
                    have hc9 := HC9.out
                    exact ⟨i + 1, s', x11, List.replicate k false, w11.heap.size, rfl, by rw [h11]; rfl, by rw [hc11, hc9]; simp, by first | rfl | (rw [w64 (n := (i : Int) + 1) (by omega) (by omega)]; rfl), by omega, Nat.le_refl _, ⟨(HDI2.out.reb HXC.out (by have := HN.out; omega) HR9.out).reb0 h9 HR11.out⟩, ⟨Marks.none h11⟩, ⟨DLoop.fresh HD14.out.net HD14.out.box HLOW.out HD14.out.below k (by have := HN.out; omega)⟩⟩
                · by_cases hw2 : i < wh.length
                  · have d2 : (i : Int) < (wh.length : Int) := by omega
                    obtain ⟨adw, hAw, hxw⟩ := Kd.at_bool (Kd.C_below HW.out HD11.out.below) (i : Int) (by omega) d2
                    subst hAw
                    rw [Int.toNat_natCast, Bool.eq_false_iff.2 (fun q => hwn ⟨hw2, q⟩)] at hxw
                    have e1 : (0 : Int) ≤ (i : Int) := by omega
                    clear hwn hw2
                    go_wp2_with fail
                    go_roundg (30 - (i + 1))
                    case measure => have := HI.out; omega
                    case rel =>
                      have hh := HI.out
                      exact ⟨i + 1, s', x, B', db, rfl, by rw [HLL.out], rfl, by first | rfl | (rw [w64 (n := (i : Int) + 1) (by omega) (by omega)]; rfl), by omega, Nat.le_refl _, HDI2, HMK2, HD11⟩
                  · have d2 : decide ((i : Int) < (wh.length : Int)) = false := decide_eq_false (by omega)
                    have d2b : decide (i < wh.length) = false := decide_eq_false hw2
                    clear hwn hw2
                    go_wp2_with fail
                    go_roundg (30 - (i + 1))
                    case measure => have := HI.out; omega
                    case rel =>
                      have hh := HI.out
                      exact ⟨i + 1, s', x, B', db, rfl, by rw [HLL.out], rfl, by first | rfl | (rw [w64 (n := (i : Int) + 1) (by omega) (by omega)]; rfl), by omega, Nat.le_refl _, HDI2, HMK2, HD11⟩
        · have hte : (i < l.length → decide ((i : Int) < 30) = false) := fun q => decide_eq_false (by omega)
          clear hi hgg
          by_cases h1 : i < l.length
          · have d1 : (i : Int) < (l.length : Int) := by omega
            have d2 := hte h1
            clear hte hlt h1
            go_wp2_with (first
              | (go_at_call 25; refine (told14_calls _).mono ?_; rintro e w2 ⟨rfl, hb⟩; have HD2 := Aside0.mk (HDL.out.go hb); clear hb)
              | (go_at_call 24; refine (mCount_calls HD2.out.net).mono ?_; rintro e w' ⟨rfl, rfl⟩))
            go_ret
            exact ⟨rfl, HD2.out.below⟩
          · have d1 : decide ((i : Int) < (l.length : Int)) = false := decide_eq_false (by omega)
            have d1b : decide (i < l.length) = false := decide_eq_false h1
            clear hte hlt h1
            go_wp2_with (first
              | (go_at_call 25; refine (told14_calls _).mono ?_; rintro e w2 ⟨rfl, hb⟩; have HD2 := Aside0.mk (HDL.out.go hb); clear hb)
              | (go_at_call 24; refine (mCount_calls HD2.out.net).mono ?_; rintro e w' ⟨rfl, rfl⟩))
            go_ret
            exact ⟨rfl, HD2.out.below⟩
end Go.Proofs.YthgehdembghdaaaGreat.P
