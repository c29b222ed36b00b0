/-
 WALKED BY HAND: the grid: New, Tile, an edit that is refused; slices.Clone of bytes.
-/
import Derived.Test.YthgehdembghdaaaGreatXGrid
import Derived.Test.YthgehdembghdaaaGreatPx5
namespace Go.Proofs.YthgehdembghdaaaGreat.P
open Go.RowKit Go.Proofs.YthgehdembghdaaaGreatW.PrintWords Go.Proofs.YthgehdembghdaaaGreatW.PrintLast Go.Proofs.YthgehdembghdaaaGreatW.PrintMore
open Go.Proofs.YthgehdembghdaaaGreat.Geo
set_option linter.unusedVariables false
set_option linter.unusedSimpArgs false
variable {w w' : World} {g : Gb} {s : GridS}
abbrev RowB (w : World) (base : Nat) (v : Value) (l : List Int) : Prop := Kd.R (Kd.int .u8) 5 w base (fun _ => True) v l
set_option maxHeartbeats 1000000 in
theorem cloneB_calls (ad : Addr) (c : Nat) (l : List Int) (w : World) (hC : Kd.C (Kd.int .u8) w (some ad) l.length l) (hl : l.length ≤ 1048576) :
  Calls Tryz.prog 86 #[.slice (some ad) l.length c] w fun e w' => ∃ v, e = .returned v ∧ RowB w' w.heap.size v l ∧ Below w.heap.size w w' := by
 have q22 : ∀ (w : World) (a : Option Addr) (n c n' c' : Nat), Sem.run Tryz.prog (binOp .eql 22 (.slice a n c) (.slice none n' c')) w = .ok (.bool a.isNone) w := fun w a n c n' c' => Lib.run_eql_slice_nil w _ _ a n c n' c' Tryz.underlying22
 have HB := Aside0.mk (Below.refl w.heap.size w)
 have HR := Aside0.mk hC
 have HL := Aside0.mk hl
 clear hC hl
 go_enter Tryz.func86, Tryz.ntmps86
 go_wp2_with (first | ((with_reducible refine gate_dst (N := 5) rfl ?_); refine Kd.R_lit (Kd.int .u8) _ 5 ?hg (N := 5) ?hd (xs := ([] : List Int)) (inner := []) (ok := fun _ => True) (okp := fun _ => True) ?hr ?hp (fun _ hk => hk) trivial (Below.refl _ _) (Nat.le_refl _) (by simp) ?_; (case hd => rfl); (case hg => rfl); (case hr => first | (go_simp; done) | (go_simp; rfl)); (case hp => exact (Reps.none _ _)); intro v1 w1 ho hb hg_ hnew_; clear hg_ hnew_; have HO := Aside0.mk (Kd.R_lower ho (below_size HB.out)); have n1_ := Aside0.mk (below_step HB.out hb); clear HB; have HB := n1_; clear n1_; clear hb ho) | ((with_reducible refine gate_builtin (b := .append) (xs := #[.tmp 5, .tmp 6]) rfl ?_); at_builtin; refine Kd.R_append_rows (Kd.int .u8) (w0 := w) w.heap.size rfl (.tmp 5) (.tmp 6) 22 5 (.int .u8 0) 1 rfl Tryz.underlying22 info5 rfl (by decide) (by omega) v1 ([] : List Int) l _ _ _ (fun _ => True) (fun _ => False) rfl rfl ?aO ?aR (fun _ _ h => h) (fun _ h => h.elim) ?aF ?aB ?aS ?aL ?_; (case aR => exact Kd.C_below HR.out HB.out); (case aB => exact HB.out); (case aF => exact (fun _ _ => trivial)); (case aO => exact HO.out); (case aS => exact below_size HB.out); (case aL => have := HL.out; simp only [List.length_nil]; omega); intro v2 w2 ho hb hg hat; have n0_ := Aside0.mk (hb); have n1_ := Aside0.mk (ho); clear HB; clear HO; have HB := n0_; have HO := n1_; clear n0_ n1_; clear ho hb hg hat))
 go_ret
 exact ⟨_, rfl, HO.out, HB.out⟩
theorem atlasMay_some {W H : Int} {C : List Int} (h : MapOk W H C) (k : Nat) (hk : 1048577 ≤ k) : atlas_May.f k W H C = some true := by
 have m := wh_le h.dim
 have hl := h.len
 have h0 : (0 : Int) ∉ C := fun q => by have := (h.cost 0 q).1; omega
 unfold atlas_May.f
 rw [wMay h.dim, Option.bind_some, if_pos rfl, w64 (by omega) (by omega), if_pos hl, contains_some C 0 (by omega) k (by omega), Option.bind_some, decide_eq_false h0]
 rfl
theorem infoV : (Tryz.prog.info? 2).map (fun i => (i.zero, i.size, i.bytes)) = some (some (.int .i64 0), 1, 8) := by kernel_rfl
theorem rep_of {V : List Int} {n : Nat} {x : Int} (hl : V.length = n) (h : ∀ j : Nat, j < n → rd V (j : Int) = x) : V = List.replicate n x := by
 apply List.ext_getElem (by simp [hl])
 intro i h1 h2
 rw [List.getElem_replicate, ← rd_get V h1]
 exact h i (by omega)
structure NewG (w wr : World) (g : Gb) (W H : Int) (C V : List Int) : Prop where
 blk : wr.heap[g.gb]? = some (.cells (gCells g ⟨W, H, C, 1, V⟩) 104 (0, 0))
 map : Kd.R (Kd.int .u8) 5 wr 0 (fun b => b = g.mb) (.slice (some ⟨g.mb, 0, none⟩) C.length g.cm) C
 vers : Kd.R (Kd.int .i64) 2 wr 0 (fun b => b = g.vb) (.slice (some ⟨g.vb, 0, none⟩) V.length g.cv) V
 low : ∀ b, g.own b → w.heap.size ≤ b
 below : Below w.heap.size w wr
theorem R_own1 {α : Type} {enc : α → Value} {h1 : ∀ x, (enc x).oneCell' = true} {e : Nat} {w : World} {base b n c : Nat} {ok : Nat → Prop} {xs : List α} (h : (Kd.scalar enc h1).R e w base ok (.slice (some ⟨b, 0, none⟩) n c) xs) : (Kd.scalar enc h1).R e w 0 (fun k => k = b) (.slice (some ⟨b, 0, none⟩) n c) xs :=
 Kd.R_of_own (Kd.own_of_R (Kd.R_lower h (Nat.zero_le _))) (fun k hk => by simp [Value.ownBlock] at hk; omega)
theorem NewG.start {w w5 : World} {W H : Int} {C : List Int} {mb cb n : Nat} {base : Nat} {ok : Nat → Prop} (hb : Below w.heap.size w w5) (hm : w.heap.size ≤ mb) (hr : Kd.R (Kd.int .u8) 5 w5 base ok (.slice (some ⟨mb, 0, none⟩) C.length cb) C) (hn : n ≤ 100000) :
  NewG w ((w5.alloc (.cells (madeCells #[.int .i64 0] n) 2)).alloc (.cells #[.int .i64 W, .int .i64 H, .slice (some ⟨mb, 0, none⟩) C.length cb, .int .i64 1, .slice (some ⟨w5.heap.size, 0, none⟩) n n] 104)).drew ⟨w5.heap.size + 1, mb, w5.heap.size, cb, n⟩ W H C (List.replicate n 0) := by
 refine ⟨?_, Kd.R_drew (Kd.R_alloc (Kd.R_alloc (R_own1 hr) _) _), Kd.R_drew (Kd.R_alloc ?_ _), ?_, below_drew (below_alloc (below_alloc hb _) _)⟩
 ·have := blk_new (w5.alloc (.cells (madeCells #[.int .i64 0] n) 2)) (.cells #[.int .i64 W, .int .i64 H, .slice (some ⟨mb, 0, none⟩) C.length cb, .int .i64 1, .slice (some ⟨w5.heap.size, 0, none⟩) n n] 104 (0, 0))
  rw [World.size_alloc] at this
  unfold gCells
  rw [List.length_replicate]
  exact this
 ·rw [List.length_replicate]
  refine Kd.R_of_own ?_ (fun k hk => by simp [Value.ownBlock] at hk; exact hk.symm)
  rw [List.length_replicate]
  exact own_made_of w5 0 2 n (Nat.zero_le _) (by omega)
 ·have := hb.size
  rintro b (rfl | rfl | rfl)
  ·show w.heap.size ≤ w5.heap.size + 1; omega
  ·exact hm
  ·exact this
theorem NewG.ne {wr : World} {W H : Int} {C V : List Int} (h : NewG w wr g W H C V) : g.gb ≠ g.mb ∧ g.gb ≠ g.vb ∧ g.mb ≠ g.vb := by
 obtain ⟨c1, h1⟩ := Kd.R_typed h.map _ rfl
 obtain ⟨c2, h2⟩ := Kd.R_typed h.vers _ rfl
 exact ⟨blk_ne h.blk h1 (by decide), blk_ne h.blk h2 (by decide), blk_ne h1 h2 (by decide)⟩
theorem NewG.drewN {wr : World} {W H : Int} {C V : List Int} (h : NewG w wr g W H C V) (q : Nat) : NewG w (wr.drewN q) g W H C V :=
 ⟨h.blk, Kd.R_drewN h.map q, Kd.R_drewN h.vers q, h.low, pw_below_drewN h.below q⟩
theorem NewG.set {wr : World} {W H : Int} {C V : List Int} (h : NewG w wr g W H C V) (i : Nat) : NewG w (wr.setCell ⟨g.vb, i, none⟩ (.int .i64 1)) g W H C (V.set i 1) := by
 obtain ⟨n1, n2, n3⟩ := h.ne
 have hv := Kd.R_putn h.vers (i : Int) 1
 rw [Int.toNat_natCast] at hv
 refine ⟨?_, Kd.R_far h.map (fun k hk => by subst hk; exact n3) _, by rw [List.length_set]; exact hv, h.low, h.below.setCell (h.low _ (.inr (.inr rfl))) _⟩
 have := blk_far h.blk (p := ⟨g.vb, i, none⟩) n2 (.int .i64 1)
 rw [this]
 unfold gCells
 rw [List.length_set]
set_option maxRecDepth 100000 in
set_option maxHeartbeats 8000000 in
theorem gNew_calls {W H : Int} {C : List Int} (h : MapOk W H C) (Am : Addr) (cm : Nat) (w : World) (hC : Kd.C (Kd.int .u8) w (some Am) C.length C) (hcm : C.length ≤ cm) : Calls Tryz.prog 39 #[.agg #[.int .i64 W, .int .i64 H, .slice (some Am) C.length cm], .int .i64 0] w fun e w' => ∃ g, e = .returned (.pointer (some ⟨g.gb, 0, none⟩)) ∧ GridM w' g ⟨W, H, C, 1, List.replicate (cnt W H).toNat 1⟩ ∧ Below w.heap.size w w' ∧ ∀ b, g.own b → w.heap.size ≤ b := by
 have HOK := Aside0.mk h
 have HC := Aside0.mk hC
 have HCM := Aside0.mk hcm
 have hcnt := cnt_le h.dim
 have HMAY := Aside0.mk (atlasMay_some h 2000000 (by omega))
 have HSEC := Aside0.mk (wSectors h.dim)
 have ha := acr_b h.dim.w.1
 have hb := acr_b h.dim.h.1
 obtain ⟨pa, hpa⟩ : ∃ p, p = acr W := ⟨_, rfl⟩
 obtain ⟨pb, hpb⟩ : ∃ p, p = acr H := ⟨_, rfl⟩
 have hpp : IntKind.i64.wrap (pa * pb) = cnt W H := by
  rw [IntKind.wrap_i64, hpa, hpb, ← cnt_eq]; omega
 obtain ⟨n, hn⟩ : ∃ n : Nat, (n : Int) = cnt W H := ⟨(cnt W H).toNat, by omega⟩
 rw [← hn] at hpp hcnt
 have hnn : (cnt W H).toNat = n := by omega
 rw [hnn]
 rw [← hpa, ← hpb] at HSEC
 have HN := Aside0.mk (And.intro hn hcnt)
 clear h hC hcm ha hb hpa hpb hn hnn
 go_enter Tryz.func39, Tryz.ntmps39
 go_upto_region 1 with ((with_reducible refine gate_dst (N := 2) rfl ?_); refine box_event ?hg (N := 2) ?hd (cs := #[.int .i64 W, .int .i64 H, .slice (some Am) C.length cm]) (t := 26) ?hr ?_; (case hd => rfl); (case hg => rfl); (case hr => first | (go_simp; done) | (go_simp; rfl)); intro bx hg w1 hbox hb; have HX1 := Aside0.mk hbox; have HB1 := Aside0.mk hb; have HG1 := Aside0.mk hg; clear hbox hb hg)
 have t0 := cell_blk (j := 0) (u := .int .i64 W) HX1.out rfl
 have t1 := cell_blk (j := 1) (u := .int .i64 H) HX1.out rfl
 have t2 := cell_blk (j := 2) (u := .slice (some Am) C.length cm) HX1.out rfl
 have dz : decide ((0 : Int) < 0) = false := rfl
 have dz2 : decide ((4611686018427387904 : Int) < 0) = false := rfl
 go_upto_region 3 with (go_at_call 91; refine (atlas_May.calls 2000000 W H (some Am) cm C true _ (Kd.C_below HC.out HB1.out) HCM.out HMAY.out).mono ?_; rintro e w2 ⟨rfl, hb⟩; have HB2 := Aside0.mk (below_step HB1.out hb); have HX2 := Aside0.mk (blk_step HX1.out hb); clear hb t0 t1 t2)
 have t2 := cell_blk (j := 2) (u := .slice (some Am) C.length cm) HX2.out rfl
 have f2 := free_blk HX2.out 2
 have hl : C.length ≤ 1048576 := by have := wh_le HOK.out.dim; have := HOK.out.len; omega
 have HL := Aside0.mk hl
 have HPOS : Aside0 (0 < C.length) := ⟨by have := HOK.out.len; have := wh_le HOK.out.dim; omega⟩
 clear hl
 go_upto_region 4 with (go_at_call 86; refine (cloneB_calls Am cm C _ (Kd.C_below HC.out HB2.out) HL.out).mono ?_; rintro e w3 ⟨v3, rfl, ho, hb⟩; obtain ⟨mb, cb, rfl, hmb, hml, hmt⟩ := Kd.R_form ho HPOS.out; have HO3 := Aside0.mk ho; have HB3 := Aside0.mk (below_step HB2.out hb); have HX3 := Aside0.mk (blk_step HX2.out hb); have f2 := free_blk HX3.out 2; have t2 := cell_blk (j := 2) (u := .slice (some Am) C.length cm) HX3.out rfl; have HS3 := Aside0.mk hb.size; clear ho hb)
 have HMB := Aside0.mk (And.intro hmb hml)
 have hx4 := set_blk HX3.out 2 (.slice (some ⟨mb, 0, none⟩) C.length cb)
 have hne : bx ≠ mb := by have := blk_lt HX2.out; omega
 have ho4 := Kd.R_far (Kd.R_bound HO3.out) (p := ⟨bx, 2, none⟩) (fun k hk e => by have := hk.2.1; have := blk_lt HX2.out; have e2 : k = bx := e; omega) (.slice (some ⟨mb, 0, none⟩) C.length cb)
 have hb4 : Below w.heap.size w (w3.setCell ⟨bx, 2, none⟩ (.slice (some ⟨mb, 0, none⟩) C.length cb)) := HB3.out.setCell (show w.heap.size ≤ bx by have := HG1.out; omega) _
 obtain ⟨w4, hw4⟩ : ∃ w4, w4 = w3.setCell ⟨bx, 2, none⟩ (.slice (some ⟨mb, 0, none⟩) C.length cb) := ⟨_, rfl⟩
 have hs4 : w4.heap.size = w3.heap.size := by rw [hw4]; exact World.size_setCell _ _ _
 rw [← hw4] at hx4 ho4 hb4 ⊢
 have HX4 := Aside0.mk hx4
 have HO4 := Aside0.mk (Kd.R_mono ho4 (fun k hk => hk.1))
 have HB4 := Aside0.mk hb4
 have HS4 := Aside0.mk hs4
 have t0 := cell_blk (j := 0) (u := .int .i64 W) hx4 rfl
 have t1 := cell_blk (j := 1) (u := .int .i64 H) hx4 rfl
 clear hx4 ho4 hb4 hw4 hs4 hmb hml hmt hne t2 f2
 go_upto_region 5 with (go_at_call 71; refine (where_Sectors.calls W H pa pb _ HSEC.out).mono ?_; rintro e w5 ⟨rfl, hd⟩; have HB5 := Aside0.mk hd.below; clear hd t0 t1)
 have hx5 := blk_step HX4.out HB5.out
 have t0 := cell_blk (j := 0) (u := .int .i64 W) hx5 rfl
 have t1 := cell_blk (j := 1) (u := .int .i64 H) hx5 rfl
 have t2 := cell_blk (j := 2) (u := .slice (some ⟨mb, 0, none⟩) C.length cb) hx5 rfl
 have HO5 := Aside0.mk (Kd.R_below HO4.out HB5.out)
 have HB6 := Aside0.mk (below_step HB4.out HB5.out)
 have hmk := print_make_of (P := Tryz.prog) 102 2 (.int .i64 0) 8 Tryz.underlying102 infoV rfl (by decide) n (by omega)
 have HX5 := Aside0.mk hx5
 have iw1 : IntKind.i64.wrap 1 = 1 := by decide
 clear hx5
 go_region_held3 (fun w' => w'.cell? ⟨bx, 0, none⟩ = some (.int .i64 W) ∧ w'.cell? ⟨bx, 1, none⟩ = some (.int .i64 H) ∧ w'.cell? ⟨bx, 2, none⟩ = some (.slice (some ⟨mb, 0, none⟩) C.length cb)) (first | exact ⟨t0, t1, t2⟩ | go_keep) (fail)
 clear t0 t1 t2 hmk
 have hst := NewG.start (W := W) (H := H) (n := n) HB6.out (Nat.le_trans HB2.out.size HMB.out.1) HO5.out (by omega)
 obtain ⟨g, hg⟩ : ∃ g : Gb, g = ⟨w5.heap.size + 1, mb, w5.heap.size, cb, n⟩ := ⟨_, rfl⟩
 have e1 : w5.heap.size + 1 = g.gb := by rw [hg]
 have e2 : w5.heap.size = g.vb := by rw [hg]
 rw [← hg] at hst
 obtain ⟨w7, hw7⟩ : ∃ w7, w7 = ((w5.alloc (.cells (madeCells #[.int .i64 0] n) 2)).alloc (.cells #[.int .i64 W, .int .i64 H, .slice (some ⟨mb, 0, none⟩) C.length cb, .int .i64 1, .slice (some ⟨w5.heap.size, 0, none⟩) n n] 104)).drew := ⟨_, rfl⟩
 rw [← hw7] at hst ⊢
 rw [e1, e2]
 have HST := Aside0.mk hst
 have z4 := cell_blk (j := 4) (u := .slice (some ⟨g.vb, 0, none⟩) (List.replicate n (0 : Int)).length g.cv) hst.blk rfl
 have e3 : g.cv = n := by rw [hg]
 rw [List.length_replicate, e3] at z4
 have HE := Aside0.mk (And.intro e3 hcnt)
 rename_i hHeld_
 clear hHeld_ hw7 hst e1 e2 hg HX5 HO5 HB6 HB5 HB4 HO4 HX4 HS4 HMB HS3 HX3 HB3 HO3 HX2 HB2 HB1 HX1 HG1 e3 hcnt dz dz2 iw1 hpp
 go_wp2_with fail
 go_loopg [46] n (fun gg v46 wr => ∃ (i : Nat) (V : List Int), v46 = .int .i64 i ∧ i ≤ n ∧ n - i ≤ gg ∧ Aside0 (V.length = n ∧ ∀ j : Nat, j < i → rd V (j : Int) = 1) ∧ Aside0 (NewG w wr g W H C V))
 case atStart => exact ⟨0, _, rfl, Nat.zero_le _, Nat.le_refl _, ⟨by simp, fun j hj => absurd hj (by omega)⟩, HST⟩
 case round =>
  clear HST z4
  obtain ⟨i, V, rfl, hi, hgg, HV, HG⟩ := hrel
  obtain ⟨n1, n2, n3⟩ := HG.out.ne
  have z3 := cell_blk (j := 3) (u := .int .i64 1) HG.out.blk rfl
  have z4 := cell_blk (j := 4) (u := .slice (some ⟨g.vb, 0, none⟩) V.length g.cv) HG.out.blk rfl
  rw [HV.out.1] at z4
  by_cases hlt : i < n
  ·have d1 : (i : Int) < (n : Int) := by omega
   have e1 : (0 : Int) ≤ (i : Int) := by omega
   have hv := Kd.R_celln 0 HG.out.vers (i : Int) e1 (by rw [HV.out.1]; exact d1)
   rw [Int.toNat_natCast] at hv
   obtain ⟨vc, vf⟩ := hv
   have HI := Aside0.mk (And.intro hi (And.intro hgg hlt))
   clear hi hgg hlt
   go_wp2_with fail
   go_region_held3 (fun w' => w'.cell? ⟨g.gb, 3, none⟩ = some (.int .i64 1) ∧ w'.cell? ⟨g.gb, 4, none⟩ = some (.slice (some ⟨g.vb, 0, none⟩) n g.cv)) (first | exact ⟨z3, z4⟩ | exact ⟨(cfarN n2 _).trans z3, (cfarN n2 _).trans z4⟩ | go_keep) (fail)
   go_wp2_with fail
   go_roundg (n - (i + 1))
   case measure => have := HI.out; omega
   case rel =>
    have hh := HI.out
    have hc := HE.out.2
    exact ⟨i + 1, V.set i 1, by first | rfl | (rw [w64 (n := (i : Int) + 1) (by omega) (by omega)]; rfl), by omega, Nat.le_refl _, ⟨by rw [List.length_set]; exact HV.out.1, fun j hj => by
     rw [rd_set' _ _ _ _ (by rw [HV.out.1]; omega)]
     by_cases q : i = j
     ·rw [if_pos q]
     ·rw [if_neg q]; exact HV.out.2 j (by omega)⟩, ⟨(HG.out.drewN 1).set i⟩⟩
  ·obtain rfl : i = n := by omega
   clear hi hgg hlt
   go_wp2_with fail
   go_ret
   have hVV := rep_of HV.out.1 HV.out.2
   rw [hVV] at HG
   have hcn := HN.out
   exact ⟨g, rfl, ⟨HG.out.blk, HG.out.map, HG.out.vers, HOK.out, by show ((List.replicate i (1 : Int)).length : Int) = cnt W H; rw [List.length_replicate]; exact hcn.1, by show (0 : Int) ≤ 1 ∧ (1 : Int) ≤ 1000000000; omega⟩, HG.out.below, HG.out.low⟩
end Go.Proofs.YthgehdembghdaaaGreat.P
