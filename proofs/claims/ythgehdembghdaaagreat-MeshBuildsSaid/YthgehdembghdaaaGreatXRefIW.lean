/-
 WALKED BY HAND: herdsmanref11.Into.
-/
import Derived.Test.YthgehdembghdaaaGreatXRefInto1
import Derived.Test.YthgehdembghdaaaGreatXRefTM
import Derived.Test.YthgehdembghdaaaGreatXGTile
namespace Go.Proofs.YthgehdembghdaaaGreat.P
open Go.RowKit Go.Proofs.YthgehdembghdaaaGreatW.PrintWords Go.Proofs.YthgehdembghdaaaGreatW.PrintLast Go.Proofs.YthgehdembghdaaaGreatW.PrintMore
open Go.Proofs.YthgehdembghdaaaGreat.Geo Go.Proofs.YthgehdembghdaaaGreat.Dist
set_option linter.unusedVariables false
set_option linter.unusedSimpArgs false
variable {w wr w2 : World} {W H : Int} {C : List Int} {A : Option Addr} {cp : Nat}
structure IM (w wr : World) (b2 b7 : Nat) (W H : Int) (A : Option Addr) (cp : Nat) (C : List Int) (t u : Int) (AT : Option Addr) (nT : Nat) (T : List Int) (A4 : Option Addr) (n4 : Nat) (L : List Int) : Prop where
 tm : TM w wr b2 W H A cp C
 tile : wr.heap[b7]? = some (.cells #[.int .i64 t, .int .i64 u, .slice AT T.length nT] 86 (0, 0))
 trow : Kd.R (Kd.int .u8) 5 wr w.heap.size (fun _ => True) (.slice AT T.length nT) T
 nrow : Kd.R (Kd.int .i64) 3 wr w.heap.size (fun _ => True) (.slice A4 L.length n4) L
variable {b2 b7 nT n4 : Nat} {t u : Int} {AT A4 : Option Addr} {T L : List Int}
theorem IM.put (h : TM w wr b2 W H A cp C) (hC : Kd.C (Kd.int .u8) w A C.length C) (hx : wr.heap[b7]? = some (.cells #[.int .i64 0, .int .i64 0, .slice none 0 0] 86 (0, 0))) (hl : w.heap.size ≤ b7) (ho : Kd.R (Kd.int .u8) 5 wr w.heap.size (fun _ => True) (.slice AT T.length nT) T) (hn : Kd.R (Kd.int .i64) 3 wr w.heap.size (fun _ => True) (.slice A4 L.length n4) L) :
  IM w (((wr.setCell ⟨b7, 0, none⟩ (.int .i64 t)).setCell ⟨b7, 1, none⟩ (.int .i64 u)).setCell ⟨b7, 2, none⟩ (.slice AT T.length nT)) b2 b7 W H A cp C t u AT nT T A4 n4 L := by
 have x0 := set_blk hx 0 (.int .i64 t)
 have x1 := set_blk x0 1 (.int .i64 u)
 exact ⟨h.set3 hl (blk_ne h.box hx (by decide)) _ _ _ hC, set_blk x1 2 _, R_setN (R_setN (R_setN ho hx (by decide) 0 _) x0 (by decide) 1 _) x1 (by decide) 2 _, R_setN (R_setN (R_setN hn hx (by decide) 0 _) x0 (by decide) 1 _) x1 (by decide) 2 _⟩
theorem IM.go (h : IM w wr b2 b7 W H A cp C t u AT nT T A4 n4 L) (hb : Below wr.heap.size wr w2) : IM w w2 b2 b7 W H A cp C t u AT nT T A4 n4 L := ⟨h.tm.go hb, blk_step h.tile hb, Kd.R_below h.trow hb, Kd.R_below h.nrow hb⟩
theorem IM.cells (h : IM w wr b2 b7 W H A cp C t u AT nT T A4 n4 L) : wr.cell? ⟨b2, 0, none⟩ = some (.int .i64 W) ∧ wr.cell? ⟨b2, 1, none⟩ = some (.int .i64 H) ∧ wr.cell? ⟨b7, 0, none⟩ = some (.int .i64 t) ∧ wr.cell? ⟨b7, 1, none⟩ = some (.int .i64 u) ∧ wr.cell? ⟨b7, 2, none⟩ = some (.slice AT T.length nT) := ⟨h.tm.cells.1, h.tm.cells.2.1, cell_blk h.tile rfl, cell_blk h.tile rfl, cell_blk h.tile rfl⟩
theorem IM.drew (h : IM w wr b2 b7 W H A cp C t u AT nT T A4 n4 L) : IM w wr.drew b2 b7 W H A cp C t u AT nT T A4 n4 L := h.go (below_drew1 (Below.refl _ _))
theorem IM.alloc (h : IM w wr b2 b7 W H A cp C t u AT nT T A4 n4 L) (o : Obj) : IM w (wr.alloc o) b2 b7 W H A cp C t u AT nT T A4 n4 L := h.go (below_alloc (Below.refl _ _) o)
theorem edges_chg {v : Value} {xs : List EdgeS} {base : Nat} {ok : Nat → Prop} (ho : Kd.R k53 53 wr base ok v xs) (hg : wr.grownBy w2 v.ownBlock) : Chg (fun k => ∃ cs, wr.heap[k]? = some (.cells cs 53 (0, 0))) wr w2 :=
 Chg.of_grown hg (fun k hk => Kd.R_typed ho k hk)
theorem row_grown {v : Value} {xs : List EdgeS} {base base' : Nat} {ok : Nat → Prop} (ho : Kd.R k53 53 wr base ok v xs) (hg : wr.grownBy w2 v.ownBlock) {k : IntKind} {e : TypeId} (he : e ≠ 53) {ok' : Nat → Prop} {v' : Value} {ys : List Int} (h : Kd.R (Kd.int k) e wr base' ok' v' ys) : Kd.R (Kd.int k) e w2 base' ok' v' ys := by
 refine (edges_chg ho hg).odd rfl h (fun q hq cs r => ?_)
 obtain ⟨cs', h'⟩ := hq
 rw [h'] at r
 injection r with r
 injection r with _ r _
 exact he r.symm
theorem IM.grown {v : Value} {xs : List EdgeS} {base : Nat} {ok : Nat → Prop} (h : IM w wr b2 b7 W H A cp C t u AT nT T A4 n4 L) (hC : Kd.C (Kd.int .u8) w A C.length C) (ho : Kd.R k53 53 wr base ok v xs) (hg : wr.grownBy w2 v.ownBlock) (hb : Below w.heap.size w w2) : IM w w2 b2 b7 W H A cp C t u AT nT T A4 n4 L := by
 have hc := edges_chg ho hg
 exact ⟨⟨hc.blk h.tm.box (fun ⟨cs, q⟩ => typ_ne h.tm.box (by decide) q), Kd.C_below hC hb, h.tm.low, hb⟩, hc.blk h.tile (fun ⟨cs, q⟩ => typ_ne h.tile (by decide) q), row_grown ho hg (by decide) h.trow, row_grown ho hg (by decide) h.nrow⟩
set_option maxRecDepth 100000 in
set_option maxHeartbeats 8000000 in
theorem refInto_calls (h : MapOk W H C) (hC : Kd.C (Kd.int .u8) w A C.length C) (hc : C.length ≤ cp) (b : Int) : Calls Tryz.prog 36 #[.agg #[.int .i64 W, .int .i64 H, .slice A C.length cp], .int .i64 b] w fun e w' => ∃ v, e = .returned v ∧ Kd.R k53 53 w' w.heap.size (fun _ => True) v (intoR W H C b) ∧ Below w.heap.size w w' := by
 have hu26 := Tryz.underlying26
 have hu86 := Tryz.underlying86
 have HOK := Aside0.mk h
 have HC := Aside0.mk hC
 have HP := Aside0.mk hc
 have HIS := Aside0.mk (rIsNode h b 30 (Nat.le_refl _))
 clear hC hc
 unfold intoR
 by_cases hb : nodeS W H C b
 ·rw [if_pos hb]
  have db : decide ((0 ≤ b ∧ b < W * H) ∧ edgeS W H b ∧ rd C b ≠ 255) = true := decide_eq_true hb
  have HDB := Aside0.mk db
  have hsb := rSector h.dim b
  rw [if_pos hb.1] at hsb
  have sbr := sec_rng h.dim hb.1.1 hb.1.2
  have hrn := rNodes h sbr 1700 (Nat.le_refl _)
  have hti := rTile h sbr 300 (Nat.le_refl _)
  obtain ⟨sb, hsbb⟩ : ∃ sb, sb = sec W b := ⟨_, rfl⟩
  rw [← hsbb] at hsb hrn hti ⊢
  obtain ⟨L, hL⟩ : ∃ L, L = nodesL W H C sb := ⟨_, rfl⟩
  rw [← hL] at hrn ⊢
  obtain ⟨t, ht⟩ : ∃ t, t = tw W sb := ⟨_, rfl⟩
  obtain ⟨u, hu⟩ : ∃ u, u = th W H sb := ⟨_, rfl⟩
  obtain ⟨T, hT⟩ : ∃ T, T = tileL W H C sb := ⟨_, rfl⟩
  rw [← ht, ← hu, ← hT] at hti
  have HSB := Aside0.mk hsb
  have HRN := Aside0.mk hrn
  have HTI := Aside0.mk hti
  have HEQ := Aside0.mk (And.intro hsbb (And.intro hL (And.intro ht (And.intro hu hT))))
  have HB := Aside0.mk hb
  clear h hb db hsb sbr hrn hti hsbb hL ht hu hT
  go_enter Tryz.func36, Tryz.ntmps36
  go_upto_region 4 with (first
   | ((with_reducible refine gate_dst (N := 2) rfl ?_); refine box_event ?hg (N := 2) ?hd (cs := #[.int .i64 W, .int .i64 H, .slice A C.length cp]) (t := 26) ?hr ?_; (case hd => rfl); (case hg => rfl); (case hr => first | (go_simp; done) | (go_simp; rfl)); intro b2 hg w1 hbox hb; have HT0 : Aside0 (TM w w1 b2 W H A cp C) := ⟨⟨hbox, Kd.C_below HC.out hb, by omega, hb⟩⟩; have t0 := HT0.out.cells; have t1 := t0.2.1; have t2 := t0.2.2; have t0 := t0.1; clear hbox hb hg)
   | (go_at_call 81; refine (herdsmanref11_IsNode.calls 30 W H A cp C b _ w1 HT0.out.row HP.out HIS.out).mono ?_; rw [HDB.out]; rintro e w2 ⟨rfl, hb⟩; have HT1 := Aside0.mk (HT0.out.go hb); clear hb t0 t1 t2))
  have t1 := HT1.out.cells
  clear HT0
  go_region_held3 (fun w' => w'.cell? ⟨b2, 0, none⟩ = some (.int .i64 W) ∧ w'.cell? ⟨b2, 1, none⟩ = some (.int .i64 H) ∧ w'.cell? ⟨b2, 2, none⟩ = some (.slice A C.length cp)) (first | exact t1 | exact HT2.out.cells | exact HT3.out.cells | go_keep)
   (first
    | (go_at_call 43; with_reducible refine (herdsmanref1_Sector.calls W H b sb _ HSB.out).mono ?_; rintro e w3 ⟨rfl, hd⟩; have HT2 := Aside0.mk (HT1.out.drew.go (Drawn0.below hd)); clear hd)
    | (go_at_call 27; with_reducible refine (herdsmanref11_Nodes.calls 1700 W H A cp C sb L _ HT2.out.row HP.out HRN.out).mono ?_; rintro e w4 ⟨v4, rfl, ho, hb⟩; obtain ⟨A4, n4, rfl⟩ := Kd.R_slice ho; have HO4 := Aside0.mk (Kd.R_lower ho HT2.out.below.size); have HT3 := Aside0.mk (HT2.out.go hb); clear ho hb))
  go_upto_region 5 with fail
  have t3 := HT3.out.cells
  clear HT1 HT2 t1
  go_cut [7] (fun v7 wc => ∃ (b7 : Nat) (AT : Option Addr) (nT : Nat), v7 = .pointer (some ⟨b7, 0, none⟩) ∧ Aside0 (IM w wc b2 b7 W H A cp C t u AT nT T A4 n4 L))
  case first =>
   have HZ3 := Aside0.mk (blk_new w4 (.cells #[.int .i64 0, .int .i64 0, .slice none 0 0] 86 (0, 0)))
   have HA3 := Aside0.mk (HT3.out.alloc (.cells #[.int .i64 0, .int .i64 0, .slice none 0 0] 86))
   go_region_held3 (fun w' => w'.cell? ⟨b2, 0, none⟩ = some (.int .i64 W) ∧ w'.cell? ⟨b2, 1, none⟩ = some (.int .i64 H) ∧ w'.cell? ⟨b2, 2, none⟩ = some (.slice A C.length cp)) (first | (with_reducible first | exact t3 | exact HT5.out.cells | exact HT6.out.cells | exact HA3.out.cells | exact HA3.out.drew.cells | exact (HT3.out.drew.alloc _).cells | exact (HT5.out.alloc _).cells | exact (HT6.out.alloc _).cells | exact (HT6.out.set3 HL6.out HN6.out _ _ _ HC.out).cells | exact ((HT6.out.alloc _).set3 HT6.out.below.size HT6.out.ne _ _ _ HC.out).cells) | go_keep)
    (first
     | (go_at_call 43; with_reducible refine (herdsmanref1_Sector.calls W H b sb w4.drew HSB.out).mono ?_; rintro e w5 ⟨rfl, hd⟩; have HT5 := Aside0.mk (HT3.out.drew.go (Drawn0.below hd)); have HO5 := Aside0.mk (Kd.R_below (Kd.R_drew HO4.out) (Drawn0.below hd)); have HZ5 := Aside0.mk (blk_new w5 (.cells #[.int .i64 0, .int .i64 0, .slice none 0 0] 86 (0, 0))); clear hd)
     | (go_at_call 43; with_reducible refine (herdsmanref1_Sector.calls W H b sb (w4.alloc (.cells #[.int .i64 0, .int .i64 0, .slice none 0 0] 86)).drew HSB.out).mono ?_; rintro e w5 ⟨rfl, hd⟩; have HT5 := Aside0.mk (HA3.out.drew.go (Drawn0.below hd)); have HO5 := Aside0.mk (Kd.R_below (Kd.R_drew (Kd.R_alloc HO4.out _)) (Drawn0.below hd)); have HX5 := Aside0.mk (blk_step (w := (w4.alloc (.cells #[.int .i64 0, .int .i64 0, .slice none 0 0] 86)).drew) HZ3.out (Drawn0.below hd)); clear hd)
     | (go_at_call 82; with_reducible refine (herdsmanref1_TileOf.calls 300 W H A cp C sb t u T w5 HT5.out.row HP.out HTI.out).mono ?_; rintro e w6 ⟨v6, rfl, ho, hb⟩; obtain ⟨A6, n6, rfl⟩ := Kd.R_slice ho; have HX6 := Aside0.mk (blk_step HX5.out hb); have HO6 := Aside0.mk (Kd.R_lower ho HT5.out.below.size); have HT6 := Aside0.mk (HT5.out.go hb); have HN5 := Aside0.mk (Kd.R_below HO5.out hb); have HL6 : Aside0 (w.heap.size ≤ w4.heap.size) := ⟨HT3.out.below.size⟩; have HN6 : Aside0 (b2 ≠ w4.heap.size) := ⟨HT3.out.ne⟩; have z0 := cell_blk (j := 0) (u := .int .i64 0) HX6.out rfl; have z1 := cell_blk (j := 1) (u := .int .i64 0) HX6.out rfl; have z2 := cell_blk (j := 2) (u := .slice none 0 0) HX6.out rfl; have f0 := free_blk HX6.out 0; have f1 := free_blk HX6.out 1; have f2 := free_blk HX6.out 2; clear ho hb)
     | (go_at_call 82; with_reducible refine (herdsmanref1_TileOf.calls 300 W H A cp C sb t u T w5 HT5.out.row HP.out HTI.out).mono ?_; rintro e w6 ⟨v6, rfl, ho, hb⟩; obtain ⟨A6, n6, rfl⟩ := Kd.R_slice ho; have HO6 := Aside0.mk (Kd.R_lower ho HT5.out.below.size); have HT6 := Aside0.mk (HT5.out.go hb); have HN5 := Aside0.mk (Kd.R_below HO5.out hb); clear ho hb)
     | (go_at_call 82; with_reducible refine (herdsmanref1_TileOf.calls 300 W H A cp C sb t u T (w5.alloc (.cells #[.int .i64 0, .int .i64 0, .slice none 0 0] 86)) (HT5.out.alloc _).row HP.out HTI.out).mono ?_; rintro e w6 ⟨v6, rfl, ho, hb⟩; obtain ⟨A6, n6, rfl⟩ := Kd.R_slice ho; have HX6 := Aside0.mk (blk_step HZ5.out hb); have HO6 := Aside0.mk (Kd.R_lower ho (HT5.out.alloc _).below.size); have HT6 := Aside0.mk ((HT5.out.alloc _).go hb); have HN5 := Aside0.mk (Kd.R_below (Kd.R_alloc HO5.out _) hb); have HL6 : Aside0 (w.heap.size ≤ w5.heap.size) := ⟨HT5.out.below.size⟩; have HN6 : Aside0 (b2 ≠ w5.heap.size) := ⟨HT5.out.ne⟩; have z0 := cell_blk (j := 0) (u := .int .i64 0) HX6.out rfl; have z1 := cell_blk (j := 1) (u := .int .i64 0) HX6.out rfl; have z2 := cell_blk (j := 2) (u := .slice none 0 0) HX6.out rfl; have f0 := free_blk HX6.out 0; have f1 := free_blk HX6.out 1; have f2 := free_blk HX6.out 2; clear ho hb))
   all_goals go_wp2
   all_goals go_meet
   ·exact ⟨_, A6, n6, rfl, ⟨⟨HT6.out.alloc _, blk_new w6 _, Kd.R_alloc HO6.out _, Kd.R_alloc HN5.out _⟩⟩⟩
   ·exact ⟨_, A6, n6, rfl, ⟨IM.put HT6.out HC.out HX6.out HL6.out HO6.out HN5.out⟩⟩
   ·exact ⟨_, A6, n6, rfl, ⟨IM.put HT6.out HC.out HX6.out HL6.out HO6.out HN5.out⟩⟩
  case rest =>
   obtain ⟨b7, AT, nT, rfl, HI5⟩ := hcut
   clear HT3 HO4 t3
   have h := HOK.out
   have hb := HB.out
   have sbr := sec_rng h.dim hb.1.1 hb.1.2
   have rb := loc_rng h.dim hb.1.1 hb.1.2
   have tb := tile_loc (C := C) h.dim hb.1.1 hb.1.2
   have hbx := box_wh h.dim sbr
   have htl := tileL_len (W := W) (H := H) (C := C) (s := sec W b)
   have htk := tile_ok h sbr
   have hbb : ∀ y ∈ tileL W H C (sec W b), 0 ≤ y ∧ y ≤ 255 := fun y hy => by have := tile_bytes h sbr y hy; omega
   have hok := one_ok htk (x := loc W b) rb.1 (by rw [htl]; omega) (by rw [tb]; exact hb.2.2)
   have hlen : (distOf (tw W (sec W b)) (tileL W H C (sec W b)) [⟨loc W b, 4, 0⟩]).length = (tileL W H C (sec W b)).length := dist_len hbb hok
   have hsp := refSp_some hbb hok (by simp)
   have hlb := rLocal h.dim hb.1.1 hb.1.2
   have hdl : (rdD W H C b).length = (tw W (sec W b) * th W H (sec W b)).toNat := by rw [← htl]; exact hlen
   have hsp2 : refSpF (tw W (sec W b)) (th W H (sec W b)) (tileL W H C (sec W b)) [⟨loc W b, 4, 0⟩] = some (rdD W H C b) := hsp
   obtain ⟨lb, hlbb⟩ : ∃ lb, lb = loc W b := ⟨_, rfl⟩
   rw [← hlbb] at hlb hsp2
   rw [← HEQ.out.1, ← HEQ.out.2.2.1, ← HEQ.out.2.2.2.1, ← HEQ.out.2.2.2.2] at hsp2
   obtain ⟨D, hD⟩ : ∃ D, D = rdD W H C b := ⟨_, rfl⟩
   rw [← hD] at hsp2 hdl
   have HDD := Aside0.mk hD
   have HLB := Aside0.mk hlb
   have hlo : ∀ i : Nat, i < L.length → ∃ ll : Nat, loc W (rd L (i : Int)) = (ll : Int) ∧ herdsmanref1_Local.f W H (rd L (i : Int)) = some (ll : Int) ∧ ll < D.length := by
    intro i hi
    have hm : rd L (i : Int) ∈ L := mem_rd.2 ⟨i, hi, rfl⟩
    generalize rd L (i : Int) = c at hm ⊢
    rw [HEQ.out.2.1, HEQ.out.1, mem_nodes h.dim sbr] at hm
    have rc := loc_rng h.dim hm.1.1 hm.1.2
    rw [hm.2.1] at rc
    exact ⟨(loc W c).toNat, by omega, by rw [rLocal h.dim hm.1.1 hm.1.2, Int.toNat_of_nonneg rc.1], by rw [hdl]; omega⟩
   have HLO := Aside0.mk hlo
   have HLN : Aside0 (L.length ≤ 256) := ⟨by rw [HEQ.out.2.1, HEQ.out.1]; exact nodes_len h.dim sbr⟩
   have HSP : Aside0 (∀ (w' : World) (bs : Nat), Kd.C (Kd.int .u8) w' AT T.length T → T.length ≤ nT → Kd.C k90 w' (some ⟨bs, 0, none⟩) 1 [(⟨lb, 4, 0⟩ : Seed)] → Calls Tryz.prog 83 #[.agg #[.int .i64 t, .int .i64 u, .slice AT T.length nT], .slice (some ⟨bs, 0, none⟩) 1 1] w' fun e w'' => ∃ v, e = .returned v ∧ Kd.R (Kd.int .i64) 3 w'' w'.heap.size (fun _ => True) v D ∧ Below w'.heap.size w' w'') := ⟨fun w' bs h1 h2 h3 => refSp_calls t u AT nT T (some ⟨bs, 0, none⟩) 1 [(⟨lb, 4, 0⟩ : Seed)] D w' h1 h2 h3 (by simp) hsp2⟩
   clear h hb sbr rb tb hbx htl htk hbb hok hlen hsp hlb hdl hsp2 hlbb hD hlo
   go_upto_region 6 with fail
   have t5 := HI5.out.cells
   have HLC := Aside0.mk (herdsmanref1_Local.calls W H b lb wc.drew HLB.out)
   go_region_held3 (fun w' => w'.cell? ⟨b2, 0, none⟩ = some (.int .i64 W) ∧ w'.cell? ⟨b2, 1, none⟩ = some (.int .i64 H) ∧ w'.cell? ⟨b7, 0, none⟩ = some (.int .i64 t) ∧ w'.cell? ⟨b7, 1, none⟩ = some (.int .i64 u) ∧ w'.cell? ⟨b7, 2, none⟩ = some (.slice AT T.length nT)) (first | (with_reducible first | exact t5 | exact HI6.out.cells | exact (HI6.out.alloc _).cells | exact HI8.out.cells) | go_keep)
    (first
     | (go_at_call 84; refine HLC.out.mono ?_; rintro e w6 ⟨rfl, hd⟩; have HI6 := Aside0.mk (HI5.out.drew.go hd); clear hd)
     | (go_at_call 83; refine (HSP.out (w6.alloc (.cells #[.int .i64 lb, .int .i64 4, .int .i64 0] 90)) w6.heap.size (Kd.R_reads' (HI6.out.alloc _).trow).2.2 (Kd.R_reads' HI6.out.trow).2.1 (seed1_C (blk_new w6 _))).mono ?_; rintro e w8 ⟨v8, rfl, ho, hb⟩; obtain ⟨A8, n8, rfl⟩ := Kd.R_slice ho; have HO8 := Aside0.mk (Kd.R_lower ho (HI6.out.alloc (.cells #[.int .i64 lb, .int .i64 4, .int .i64 0] 90)).tm.below.size); have HI8 := Aside0.mk ((HI6.out.alloc (.cells #[.int .i64 lb, .int .i64 4, .int .i64 0] 90)).go hb); clear ho hb))
   clear t5 HLC HSP HI5 HI6 HLB HRN HTI HSB HIS
   have HC8 := Aside0.mk HI8.out
   go_wp2
   go_wp2_with fail
   go_loopg [5, 9] L.length (fun gg v5 v9 wr => ∃ i : Nat, v9 = .int .i64 (i : Int) ∧ i ≤ L.length ∧ L.length - i ≤ gg ∧ Aside0 (Kd.R k53 53 wr w.heap.size (fun _ => True) v5 (inRL W L D b i)) ∧ Aside0 (IM w wr b2 b7 W H A cp C t u AT nT T A4 n4 L) ∧ Aside0 (Kd.R (Kd.int .i64) 3 wr w.heap.size (fun _ => True) (.slice A8 D.length n8) D))
   case atStart => exact ⟨0, rfl, Nat.zero_le _, Nat.le_refl _, ⟨Kd.R_nil _ _ _ _ _⟩, HC8, HO8⟩
   case round =>
    clear HC8 HO8 HI8
    obtain ⟨i, rfl, hi, hgg, HO, HIr, HDr⟩ := hrel
    by_cases hlt : i < L.length
    ·obtain ⟨ll, hl1, hl2, hl3⟩ := HLO.out i hlt
     have d0 : (0 : Int) ≤ (i : Int) := by omega
     have d1 : (i : Int) < (L.length : Int) := by omega
     have d2 : (0 : Int) ≤ (ll : Int) := by omega
     have d3 : (ll : Int) < (D.length : Int) := by omega
     obtain ⟨adL, hAL, q2⟩ := Kd.at_int (Kd.R_reads' HIr.out.nrow).2.2 (i : Int) d0 d1
     obtain ⟨adD, hAD, q3⟩ := Kd.at_int (Kd.R_reads' HDr.out).2.2 (ll : Int) d2 d3
     subst hAL hAD
     rw [Int.toNat_natCast] at q2 q3
     obtain ⟨c, hc⟩ : ∃ c, c = rd L (i : Int) := ⟨_, rfl⟩
     obtain ⟨dv, hdv⟩ : ∃ dv, dv = rd D (ll : Int) := ⟨_, rfl⟩
     have hia : inRA W L D b i = if c ≠ b ∧ dv < INF then [⟨c, dv⟩] else [] := by unfold inRA; rw [hl1, ← hc, ← hdv]
     have hnx := inR_next W L D b i
     rw [← hc] at q2 hl2
     rw [← hdv] at q3
     have q0 := HIr.out.tm.cells.1
     have q1 := HIr.out.tm.cells.2.1
     have HI := Aside0.mk (And.intro hi (And.intro hgg hlt))
     obtain ⟨A5, n5, e5⟩ := Kd.R_slice HO.out
     subst e5
     obtain ⟨xs, hxs⟩ : ∃ xs, xs = inRL W L D b i := ⟨_, rfl⟩
     have HXL : Aside0 ((xs.length + 1) * 16 ≤ 140737488355328) := ⟨by have h1 := inR_len W L D b i; rw [← hxs] at h1; have := HLN.out; omega⟩
     rw [← hxs] at HO hnx ⊢
     have HLC := Aside0.mk (herdsmanref1_Local.calls W H c (ll : Int) wr.drew hl2)
     clear hl1 hl2 hl3 hc hdv hi hgg hlt hxs
     go_upto_region 10 with fail
     go_region_held3 (fun w' => w'.cell? ⟨b2, 0, none⟩ = some (.int .i64 W) ∧ w'.cell? ⟨b2, 1, none⟩ = some (.int .i64 H) ∧ w'.cell? (adL.add i) = some (.int .i64 c) ∧ w'.cell? (adD.add ll) = some (.int .i64 dv)) (first | (with_reducible first | exact ⟨q0, q1, q2, q3⟩ | exact ⟨r0, r1, r2, r3⟩) | go_keep)
      ((go_at_call 84; refine HLC.out.mono ?_; rintro e w9 ⟨rfl, hb⟩; have r0 := pw_cell_below hb (a := ⟨b2, 0, none⟩) (v := .int .i64 W) q0; have r1 := pw_cell_below hb (a := ⟨b2, 1, none⟩) (v := .int .i64 H) q1; have r2 := pw_cell_below hb (a := adL.add i) (v := .int .i64 c) q2; have r3 := pw_cell_below hb (a := adD.add ll) (v := .int .i64 dv) q3; have HI9 := Aside0.mk (HIr.out.drew.go hb); have HO9 := Aside0.mk (Kd.R_below (Kd.R_drew HO.out) hb); have HD9 := Aside0.mk (Kd.R_below (Kd.R_drew HDr.out) hb); clear hb))
     clear q0 q1 q2 q3 r0 r1 HLC HO HIr HDr
     by_cases hcb : c = b
     ·have u1 : (c != b) = false := by rw [hcb]; simp
      have HNX : Aside0 (inRL W L D b (i + 1) = xs) := ⟨by rw [hnx, hia, if_neg (fun z => z.1 hcb), List.append_nil]⟩
      subst hcb
      clear hnx hia
      go_wp2_with fail
      go_roundg (L.length - (i + 1))
      case measure => have := HI.out; omega
      case rel =>
       have hh := HI.out
       have hl := HLN.out
       exact ⟨i + 1, by first | rfl | (rw [w64 (n := (i : Int) + 1) (by omega) (by omega)]; rfl), by omega, Nat.le_refl _, ⟨by rw [HNX.out]; exact HO9.out⟩, HI9, HD9⟩
     ·have u1 : (c != b) = true := by rw [bne_iff_ne]; exact hcb
      by_cases hdf : dv < INF
      ·have u2 : dv < 1099511627776 := hdf
       have HNX : Aside0 (inRL W L D b (i + 1) = xs ++ [(⟨c, dv⟩ : EdgeS)]) := ⟨by rw [hnx, hia, if_pos ⟨hcb, hdf⟩]⟩
       clear hcb hnx hia hdf
       go_wp2_with ((with_reducible refine gate_builtin (b := .append) (xs := #[.tmp 71, .tmp 78]) rfl ?_); at_builtin; refine Kd.R_append k53 (w0 := w) w.heap.size rfl (.tmp 71) (.tmp 78) 50 53 (.agg #[(.int .i64 0), (.int .i64 0)]) 16 rfl Tryz.underlying50 info53 rfl (by decide) (by omega) (.slice A5 xs.length n5) xs (⟨c, dv⟩ : EdgeS) [.int .i64 c, .int .i64 dv] (fun _ => True) (fun _ => False) rfl (by first | (go_simp; done) | (go_simp; rfl)) ?aP (fun _ hk => hk.elim) ?aF ?aO ?aB ?aS ?aL ?_; (case aP => exact k53_mkM _ _ _ (⟨c, dv⟩ : EdgeS)); (case aB => exact HI9.out.tm.below); (case aF => exact (fun _ _ => trivial)); (case aO => exact HO9.out); (case aS => exact HI9.out.tm.below.size); (case aL => exact HXL.out); intro v7 w7 ho7 hb7 hg7 hat7; have HO7 := Aside0.mk ho7; have HG7 := Aside0.mk hg7; have HB7 := Aside0.mk hb7; clear ho7 hb7 hg7 hat7)
       go_roundg (L.length - (i + 1))
       case measure => have := HI.out; omega
       case rel =>
        have hh := HI.out
        have hl := HLN.out
        exact ⟨i + 1, by first | rfl | (rw [w64 (n := (i : Int) + 1) (by omega) (by omega)]; rfl), by omega, Nat.le_refl _, ⟨by rw [HNX.out]; exact HO7.out⟩, ⟨HI9.out.grown HC.out HO9.out HG7.out HB7.out⟩, ⟨row_grown HO9.out HG7.out (by decide) HD9.out⟩⟩
      ·have u2 : decide (dv < 1099511627776) = false := decide_eq_false hdf
       have HNX : Aside0 (inRL W L D b (i + 1) = xs) := ⟨by rw [hnx, hia, if_neg (fun z => hdf z.2), List.append_nil]⟩
       clear hcb hnx hia hdf
       go_wp2_with fail
       go_roundg (L.length - (i + 1))
       case measure => have := HI.out; omega
       case rel =>
        have hh := HI.out
        have hl := HLN.out
        exact ⟨i + 1, by first | rfl | (rw [w64 (n := (i : Int) + 1) (by omega) (by omega)]; rfl), by omega, Nat.le_refl _, ⟨by rw [HNX.out]; exact HO9.out⟩, HI9, HD9⟩
    ·obtain rfl : i = L.length := by omega
     have d1 : decide (((L.length : Nat) : Int) < (L.length : Int)) = false := by simp
     have HTr := Aside0.mk HIr.out.tm
     have hst : ∀ d : Nat, d < 4 → herdsmanref11_Over.f 10 W H b (d : Int) = some (overR W H b (d : Int)) := fun d hd => rOver HOK.out.dim HB.out.1.1 HB.out.1.2 (by omega) 10 (Nat.le_refl _)
     have HST := Aside0.mk hst
     have HRO := Aside0.mk (fun c : Int => rOpen HOK.out c)
     have hbn : ∃ bn : Nat, b = (bn : Int) ∧ bn < C.length := ⟨b.toNat, by have := HB.out.1; omega, by have := HB.out.1; have := HOK.out.len; omega⟩
     have HBN := Aside0.mk hbn
     clear hi hgg hlt hst HIr HDr hbn HLO
     go_wp2_with fail
     go_loopg [5, 11] 4 (fun gg v5 v11 wr => ∃ d : Nat, v11 = .int .i64 (d : Int) ∧ d ≤ 4 ∧ 4 - d ≤ gg ∧ Aside0 (Kd.R k53 53 wr w.heap.size (fun _ => True) v5 (inRL W L D b L.length ++ sideRL W H C b d)) ∧ Aside0 (TM w wr b2 W H A cp C))
     case atStart => exact ⟨0, rfl, by omega, by omega, ⟨by rw [show sideRL W H C b 0 = [] from rfl, List.append_nil]; exact HO.out⟩, HTr⟩
     case round =>
      clear HO HTr
      obtain ⟨d, rfl, hd, hgg, HO, HTr⟩ := hrel
      by_cases hlt : d < 4
      ·have d1 : (d : Int) ≤ 3 := by omega
       obtain ⟨q0, q1, q2⟩ := HTr.out.cells
       obtain ⟨o, ho⟩ : ∃ o, o = overR W H b (d : Int) := ⟨_, rfl⟩
       have hov := HST.out d hlt
       rw [← ho] at hov
       have HOV := Aside0.mk hov
       have hsa : sideRA W H C b d = if openR W H C o then [⟨o, rd C b⟩] else [] := by unfold sideRA; rw [← ho]
       have hnx := sideR_next W H C b d
       obtain ⟨A5, n5, e5⟩ := Kd.R_slice HO.out
       subst e5
       obtain ⟨xs, hxs⟩ : ∃ xs, xs = inRL W L D b L.length ++ sideRL W H C b d := ⟨_, rfl⟩
       have HXL : Aside0 ((xs.length + 1) * 16 ≤ 140737488355328) := ⟨by have h1 := inR_len W L D b L.length; have h2 := sideR_len W H C b d; rw [hxs, List.length_append]; have := HLN.out; omega⟩
       have HXS := Aside0.mk hxs
       have HI := Aside0.mk (And.intro hd (And.intro hgg hlt))
       rw [← hxs] at HO ⊢
       clear ho hov hxs hd hgg hlt
       by_cases hop : openR W H C o
       ·have dop : decide ((0 ≤ o ∧ o < W * H) ∧ rd C o ≠ 255) = true := decide_eq_true hop
        have HDP := Aside0.mk dop
        have HNX : Aside0 (sideRL W H C b (d + 1) = sideRL W H C b d ++ [(⟨o, rd C b⟩ : EdgeS)]) := ⟨by rw [hnx, hsa, if_pos hop]⟩
        clear hop dop hsa hnx
        go_upto_region 18 with (first
         | (go_at_call 90; refine (herdsmanref11_Over.calls 10 W H b (d : Int) o _ HOV.out).mono ?_; rintro e w8 ⟨rfl, hd⟩; have HT8 := Aside0.mk (HTr.out.go (Drawn0.below hd)); have HO8 := Aside0.mk (Kd.R_below HO.out (Drawn0.below hd)); obtain ⟨q0, q1, q2⟩ := HT8.out.cells; clear hd)
         | (go_at_call 77; refine (herdsmanref11_open.calls W H A cp C o _ w8 HT8.out.row HP.out (HRO.out o)).mono ?_; rw [HDP.out]; rintro e w9 ⟨rfl, hb⟩; have HT9 := Aside0.mk (HT8.out.go hb); have HO9 := Aside0.mk (Kd.R_below HO8.out hb); clear hb))
        obtain ⟨bn, hbn, hbl⟩ := HBN.out
        obtain ⟨p0, p1, p2⟩ := HT9.out.cells
        have m0 : (0 : Int) ≤ b := by omega
        have m1 : b < (C.length : Int) := by omega
        obtain ⟨adC, hAC, q3⟩ := Kd.at_int HT9.out.row b m0 m1
        obtain ⟨cb, hcb⟩ : ∃ cb, cb = rd C b := ⟨_, rfl⟩
        have hcx := rd_cost HOK.out HB.out.1.1 HB.out.1.2
        rw [← hcb] at q3 hcx HNX
        have iv : IntKind.i64.wrap cb = cb := by rw [IntKind.wrap_i64]; omega
        subst hAC
        clear hbn hbl hcb hcx
        go_wp2_with ((with_reducible refine gate_builtin (b := .append) (xs := #[.tmp 94, .tmp 103]) rfl ?_); at_builtin; refine Kd.R_append k53 (w0 := w) w.heap.size rfl (.tmp 94) (.tmp 103) 50 53 (.agg #[(.int .i64 0), (.int .i64 0)]) 16 rfl Tryz.underlying50 info53 rfl (by decide) (by omega) (.slice A5 xs.length n5) xs (⟨o, cb⟩ : EdgeS) [.int .i64 o, .int .i64 cb] (fun _ => True) (fun _ => False) rfl (by first | (go_simp; done) | (go_simp; rfl)) ?aP (fun _ hk => hk.elim) ?aF ?aO ?aB ?aS ?aL ?_; (case aP => exact k53_mkM _ _ _ (⟨o, cb⟩ : EdgeS)); (case aB => exact HT9.out.below); (case aF => exact (fun _ _ => trivial)); (case aO => exact HO9.out); (case aS => exact HT9.out.below.size); (case aL => exact HXL.out); intro v7 w7 ho7 hb7 hg7 hat7; have HO7 := Aside0.mk ho7; have HG7 := Aside0.mk hg7; have HB7 := Aside0.mk hb7; clear ho7 hb7 hg7 hat7)
        go_roundg (4 - (d + 1))
        case measure => have := HI.out; omega
        case rel =>
         have hh := HI.out
         have hc9 := edges_chg HO9.out HG7.out
         exact ⟨d + 1, by first | rfl | (rw [w64 (n := (d : Int) + 1) (by omega) (by omega)]; rfl), by omega, Nat.le_refl _, ⟨by rw [HNX.out, ← List.append_assoc, ← HXS.out]; exact HO7.out⟩, ⟨⟨hc9.blk HT9.out.box (fun ⟨cs, q⟩ => typ_ne HT9.out.box (by decide) q), Kd.C_below HC.out HB7.out, HT9.out.low, HB7.out⟩⟩⟩
       ·have dop : decide ((0 ≤ o ∧ o < W * H) ∧ rd C o ≠ 255) = false := decide_eq_false hop
        have HDP := Aside0.mk dop
        have HNX : Aside0 (sideRL W H C b (d + 1) = sideRL W H C b d) := ⟨by rw [hnx, hsa, if_neg hop, List.append_nil]⟩
        clear hop dop hsa hnx
        go_wp2_with (first
         | (go_at_call 90; refine (herdsmanref11_Over.calls 10 W H b (d : Int) o _ HOV.out).mono ?_; rintro e w8 ⟨rfl, hd⟩; have HT8 := Aside0.mk (HTr.out.go (Drawn0.below hd)); have HO8 := Aside0.mk (Kd.R_below HO.out (Drawn0.below hd)); obtain ⟨q0, q1, q2⟩ := HT8.out.cells; clear hd)
         | (go_at_call 77; refine (herdsmanref11_open.calls W H A cp C o _ w8 HT8.out.row HP.out (HRO.out o)).mono ?_; rw [HDP.out]; rintro e w9 ⟨rfl, hb⟩; have HT9 := Aside0.mk (HT8.out.go hb); have HO9 := Aside0.mk (Kd.R_below HO8.out hb); clear hb))
        go_roundg (4 - (d + 1))
        case measure => have := HI.out; omega
        case rel =>
         have hh := HI.out
         exact ⟨d + 1, by first | rfl | (rw [w64 (n := (d : Int) + 1) (by omega) (by omega)]; rfl), by omega, Nat.le_refl _, ⟨by rw [HNX.out, ← HXS.out]; exact HO9.out⟩, HT9⟩
      ·obtain rfl : d = 4 := by omega
       clear hd hgg hlt
       go_wp2_with fail
       go_ret
       exact ⟨_, rfl, by rw [← HDD.out]; exact HO.out, HTr.out.below⟩
 ·rw [if_neg hb]
  have db : decide ((0 ≤ b ∧ b < W * H) ∧ edgeS W H b ∧ rd C b ≠ 255) = false := decide_eq_false hb
  have HDB := Aside0.mk db
  clear h hb db
  go_enter Tryz.func36, Tryz.ntmps36
  go_wp2_with (first
   | ((with_reducible refine gate_dst (N := 2) rfl ?_); refine box_event ?hg (N := 2) ?hd (cs := #[.int .i64 W, .int .i64 H, .slice A C.length cp]) (t := 26) ?hr ?_; (case hd => rfl); (case hg => rfl); (case hr => first | (go_simp; done) | (go_simp; rfl)); intro b2 hg w1 hbox hb; have HT0 : Aside0 (TM w w1 b2 W H A cp C) := ⟨⟨hbox, Kd.C_below HC.out hb, by omega, hb⟩⟩; have t0 := HT0.out.cells; have t1 := t0.2.1; have t2 := t0.2.2; have t0 := t0.1; clear hbox hb hg)
   | (go_at_call 81; refine (herdsmanref11_IsNode.calls 30 W H A cp C b _ w1 HT0.out.row HP.out HIS.out).mono ?_; rw [HDB.out]; rintro e w2 ⟨rfl, hb⟩; have HT1 := Aside0.mk (HT0.out.go hb); clear hb))
  go_ret
  exact ⟨_, rfl, Kd.R_nil _ _ _ _ _, HT1.out.below⟩
end Go.Proofs.YthgehdembghdaaaGreat.P
