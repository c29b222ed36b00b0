/-
 WALKED BY HAND: the mesh: make.
-/
import Derived.Test.YthgehdembghdaaaGreatXMesh1
import Derived.Test.YthgehdembghdaaaGreatPx26
import Derived.Test.YthgehdembghdaaaGreatPx27
namespace Go.Proofs.YthgehdembghdaaaGreat.P
open Go.RowKit Go.Proofs.YthgehdembghdaaaGreatW.PrintWords Go.Proofs.YthgehdembghdaaaGreatW.PrintLast Go.Proofs.YthgehdembghdaaaGreatW.PrintMore
open Go.Proofs.YthgehdembghdaaaGreat.Geo Go.Proofs.YthgehdembghdaaaGreat.Dist
set_option linter.unusedVariables false
set_option linter.unusedSimpArgs false
variable {w w' : World} {g : Gb} {s : GridS} {m : Mb} {x : MeshS}
noncomputable def distN (W H : Int) (C : List Int) (i a b : Int) : Int := rd (dist1 (tw W i) (tileL W H C i) (loc W b)) (loc W a)
def f32 (d : Int) : Int := if d = INF then -1 else d
structure PartOk (W H : Int) (C : List Int) (i : Int) (y : Part) : Prop where
 nodes : y.nodes = nodesL W H C i
 dlen : y.dist.length = y.nodes.length * y.nodes.length
 dist : ∀ a b : Nat, a < y.nodes.length → b < y.nodes.length → rd y.dist ((a * y.nodes.length + b : Nat) : Int) = f32 (distN W H C i (rd y.nodes a) (rd y.nodes b))
theorem infoD : (Tryz.prog.info? 21).map (fun i => (i.zero, i.size, i.bytes)) = some (some (.int .i32 0), 1, 4) := by kernel_rfl
theorem rd_map (f : Int → Int) (l : List Int) {i : Nat} (h : i < l.length) : rd (l.map f) (i : Int) = f (rd l (i : Int)) := by
 rw [rd_get (l.map f) (by simpa using h), rd_get l h, List.getElem_map]
structure MkM (w wr : World) (b4 b7 b9 : Nat) (t u : Int) (AT : Option Addr) (nT : Nat) (T : List Int) (ve : Int) (nv dv : Value) (N : List Int) : Prop where
 x4 : wr.heap[b4]? = some (.cells #[.int .i64 0, .slice none 0 0, .slice none 0 0] 111 (0, 0))
 x7 : wr.heap[b7]? = some (.cells #[.int .i64 t, .int .i64 u, .slice AT T.length nT] 86 (0, 0))
 x9 : wr.heap[b9]? = some (.cells #[.int .i64 ve, nv, dv] 111 (0, 0))
 tile : Kd.R (Kd.int .u8) 5 wr w.heap.size (fun _ => True) (.slice AT T.length nT) T
 nodes : RowN wr w.heap.size nv N
 low : w.heap.size ≤ b4 ∧ w.heap.size ≤ b9 ∧ b4 ≠ b9
 below : Below w.heap.size w wr
theorem MkM.step {wr : World} {b4 b7 b9 : Nat} {t u : Int} {AT : Option Addr} {nT : Nat} {T : List Int} {ve : Int} {nv dv : Value} {N : List Int} (h : MkM w wr b4 b7 b9 t u AT nT T ve nv dv N) (hb : Below wr.heap.size wr w') : MkM w w' b4 b7 b9 t u AT nT T ve nv dv N :=
 ⟨blk_step h.x4 hb, blk_step h.x7 hb, blk_step h.x9 hb, Kd.R_below h.tile hb, Kd.R_below h.nodes hb, h.low, below_step h.below hb⟩
theorem MkM.start {w6 : World} {b4 b7 b9 : Nat} {t u : Int} {AT : Option Addr} {nT : Nat} {T : List Int} (ve : Int) {nv : Value} {N : List Int} (h4 : w6.heap[b4]? = some (.cells #[.int .i64 0, .slice none 0 0, .slice none 0 0] 111 (0, 0))) (h7 : w6.heap[b7]? = some (.cells #[.int .i64 t, .int .i64 u, .slice AT T.length nT] 86 (0, 0))) (h9 : w6.heap[b9]? = some (.cells #[.int .i64 0, .slice none 0 0, .slice none 0 0] 111 (0, 0)))
  (ht : Kd.R (Kd.int .u8) 5 w6 w.heap.size (fun _ => True) (.slice AT T.length nT) T) (hn : RowN w6 w.heap.size nv N) (hl : w.heap.size ≤ b4 ∧ w.heap.size ≤ b9 ∧ b4 ≠ b9) (hb : Below w.heap.size w w6) :
  MkM w (((w6.setCell ⟨b9, 0, none⟩ (.int .i64 ve)).setCell ⟨b9, 1, none⟩ nv).setCell ⟨b9, 2, none⟩ (.slice none 0 0)) b4 b7 b9 t u AT nT T ve nv (.slice none 0 0) N := by
 have n7 : b7 ≠ b9 := blk_ne h7 h9 (by decide)
 have h91 := set_blk h9 0 (.int .i64 ve)
 have h92 := set_blk h91 1 nv
 refine ⟨blk_far (blk_far (blk_far h4 hl.2.2 _) hl.2.2 _) hl.2.2 _, blk_far (blk_far (blk_far h7 n7 _) n7 _) n7 _, ?_, R_setN (R_setN (R_setN ht h9 (by decide) 0 _) h91 (by decide) 1 _) h92 (by decide) 2 _, R_setN (R_setN (R_setN hn h9 (by decide) 0 _) h91 (by decide) 1 _) h92 (by decide) 2 _, hl, ((hb.setCell hl.2.1 _).setCell hl.2.1 _).setCell hl.2.1 _⟩
 exact set_blk h92 2 (.slice none 0 0)
theorem tab_rng {W H : Int} {C : List Int} (hb : ∀ x ∈ C, 0 ≤ x ∧ x ≤ 255) (ht : TileOk W H C) {l tab : List Int} (h : LocOk C l) (htl : tab.length = l.length * l.length) (hat : ∀ a b : Nat, a < l.length → b < l.length → rd tab ((a * l.length + b : Nat) : Int) = rd (dist1 W C (rd l b)) (rd l a)) {k : Nat} (hk : k < tab.length) (hne : rd tab (k : Int) ≠ INF) : 0 ≤ rd tab (k : Int) ∧ rd tab (k : Int) ≤ 65024 := by
 rw [htl] at hk
 have hn : 0 < l.length := by
  rcases Nat.eq_zero_or_pos l.length with q | q
  ·rw [q] at hk; omega
  ·exact q
 have hb' := Nat.mod_lt k hn
 have ha : k / l.length < l.length := Nat.div_lt_of_lt_mul hk
 have e : k / l.length * l.length + k % l.length = k := by rw [Nat.mul_comm]; exact Nat.div_add_mod k l.length
 have h1 := hat _ _ ha hb'
 rw [e] at h1
 obtain ⟨p, hp, hpl, hpo⟩ := h.at hb'
 obtain ⟨q, hq, hql, hqo⟩ := h.at ha
 rw [hp, hq] at h1
 rw [h1] at hne ⊢
 have hr := dist1_range hb ht hpl hpo hql
 have hs := dist1_small hb ht hpl hpo hql hne
 have hc : (C.length : Int) ≤ 256 := by
  obtain ⟨a1, a2, a3, a4, a5, a6⟩ := ht
  have := mul_small ⟨a1, a2⟩ ⟨a3, a4⟩
  omega
 omega
theorem R_put32 {α : Type} {d : Kd α} {e base : Nat} {w : World} {v : Value} {xs : List α} (h : d.R e w base (fun _ => True) v xs) {g t : Nat} {cs : Array Value} (hb : w.heap[g]? = some (.cells cs t (0, 0))) (ht : ∀ q, q ∈ e :: d.E → q ≠ t) (j : Nat) (u : Value) : d.R e (w.setCell ⟨g, j, none⟩ u) base (fun _ => True) v xs := R_setN h hb ht j u
structure DsM (w wr : World) (b4 b7 b9 db : Nat) (t u : Int) (AT : Option Addr) (nT : Nat) (T : List Int) (ve : Int) (nv : Value) (N : List Int) (A8 : Option Addr) (n8 : Nat) (tab D : List Int) : Prop where
 pm : MkM w wr b4 b7 b9 t u AT nT T ve nv (.slice (some ⟨db, 0, none⟩) tab.length tab.length) N
 row : RowD wr w.heap.size (.slice (some ⟨db, 0, none⟩) tab.length tab.length) D
 len : D.length = tab.length
 tab : RowN wr w.heap.size (.slice A8 tab.length n8) tab
theorem DsM.put {wr : World} {b4 b7 b9 db : Nat} {t u : Int} {AT : Option Addr} {nT : Nat} {T : List Int} {ve : Int} {nv : Value} {N : List Int} {A8 : Option Addr} {n8 : Nat} {tab D : List Int} (h : DsM w wr b4 b7 b9 db t u AT nT T ve nv N A8 n8 tab D) (k : Nat) (v : Int) : DsM w (wr.setCell ⟨db, k, none⟩ (.int .i32 v)) b4 b7 b9 db t u AT nT T ve nv N A8 n8 tab (D.set k v) := by
 obtain ⟨cs, hcs⟩ := Kd.R_typed h.row db rfl
 have hlow : w.heap.size ≤ db := Kd.R_base h.row db rfl
 have h4 : b4 ≠ db := blk_ne h.pm.x4 hcs (by decide)
 have h7 : b7 ≠ db := blk_ne h.pm.x7 hcs (by decide)
 have h9 : b9 ≠ db := blk_ne h.pm.x9 hcs (by decide)
 have hr := Kd.R_putn h.row (k : Int) v
 rw [Int.toNat_natCast] at hr
 exact ⟨⟨blk_far h.pm.x4 h4 _, blk_far h.pm.x7 h7 _, blk_far h.pm.x9 h9 _, R_put32 h.pm.tile hcs (by decide) k _, R_put32 h.pm.nodes hcs (by decide) k _, h.pm.low, h.pm.below.setCell hlow _⟩, hr, by rw [List.length_set]; exact h.len, R_put32 h.tab hcs (by decide) k _⟩
theorem DsM.cell {wr : World} {b4 b7 b9 db : Nat} {t u : Int} {AT : Option Addr} {nT : Nat} {T : List Int} {ve : Int} {nv : Value} {N : List Int} {A8 : Option Addr} {n8 : Nat} {tab D : List Int} (h : DsM w wr b4 b7 b9 db t u AT nT T ve nv N A8 n8 tab D) {k : Nat} (hk : k < tab.length) : wr.cell? ⟨db, k, none⟩ = some (.int .i32 (rd D (k : Int))) ∧ wr.frozen? ⟨db, k, none⟩ = false := by
 have := Kd.R_celln 0 h.row (k : Int) (by omega) (by omega)
 rw [Int.toNat_natCast] at this
 exact this
theorem DsM.start {w8 : World} {b4 b7 b9 : Nat} {t u : Int} {AT : Option Addr} {nT : Nat} {T : List Int} {ve : Int} {nv : Value} {N : List Int} {A8 : Option Addr} {n8 : Nat} {tab : List Int} (h : MkM w w8 b4 b7 b9 t u AT nT T ve nv (.slice none 0 0) N) (ht : RowN w8 w.heap.size (.slice A8 tab.length n8) tab) (hl : tab.length ≤ 65536) :
  DsM w ((w8.alloc (.cells (madeCells #[.int .i32 0] tab.length) 21)).setCell ⟨b9, 2, none⟩ (.slice (some ⟨w8.heap.size, 0, none⟩) tab.length tab.length)) b4 b7 b9 w8.heap.size t u AT nT T ve nv N A8 n8 tab (List.replicate tab.length 0) := by
 have ha := h.step (below_alloc (Below.refl w8.heap.size w8) (.cells (madeCells #[.int .i32 0] tab.length) 21))
 have h9 := ha.x9
 have n7 : b7 ≠ b9 := blk_ne ha.x7 h9 (by decide)
 have hrow : RowD (w8.alloc (.cells (madeCells #[.int .i32 0] tab.length) 21)) w.heap.size (.slice (some ⟨w8.heap.size, 0, none⟩) tab.length tab.length) (List.replicate tab.length 0) := by
  refine Kd.R_of_own ?_ (fun _ _ => trivial)
  rw [List.length_replicate]
  exact own_made_of w8 w.heap.size 21 tab.length h.below.size (by omega)
 exact ⟨⟨blk_far ha.x4 ha.low.2.2 _, blk_far ha.x7 n7 _, set_blk h9 2 _, R_setN ha.tile h9 (by decide) 2 _, R_setN ha.nodes h9 (by decide) 2 _, ha.low, ha.below.setCell ha.low.2.1 _⟩, R_setN hrow h9 (by decide) 2 _, by simp, R_setN (Kd.R_alloc ht _) h9 (by decide) 2 _⟩
set_option maxRecDepth 100000 in
set_option maxHeartbeats 8000000 in
theorem mMake_calls (h : Net w g m s x) {i : Nat} (hs : inS s.W s.H (i : Int)) : Calls Tryz.prog 73 #[.pointer (some ⟨m.xb, 0, none⟩), .int .i64 i] w fun e w' => ∃ (nv dv : Value) (y : Part), e = .returned (.agg #[.int .i64 (rd s.V (i : Int)), nv, dv]) ∧ PartM w' ⟨rd s.V (i : Int), nv, dv⟩ y ∧ PartOk s.W s.H s.C (i : Int) y ∧ Below w.heap.size w w' := by
 have HM := Aside0.mk h
 have HS := Aside0.mk hs
 have hil : i < s.V.length := by have := h.grid.vlen; have := hs.2; omega
 have HIL := Aside0.mk hil
 have iw : IntKind.i32.wrap (-1) = -1 := by decide
 obtain ⟨c0, _, _, _⟩ := h.cells
 obtain ⟨ve, hve⟩ : ∃ ve, ve = rd s.V (i : Int) := ⟨_, rfl⟩
 have HVE := Aside0.mk hve
 rw [← hve]
 clear h hs hil hve
 go_enter Tryz.func73, Tryz.ntmps73
 go_upto_region 2 with (first
  | ((with_reducible refine gate_dst (N := 4) rfl ?_); refine box_event ?hg (N := 4) ?hd (cs := #[.int .i64 0, .slice none 0 0, .slice none 0 0]) (t := 111) ?hr ?_; (case hd => rfl); (case hg => rfl); (case hr => first | (go_simp; done) | (go_simp; rfl)); intro b4 hg w1 hbox hb; have HX1 := Aside0.mk hbox; have HB1 := Aside0.mk hb; have HG1 : Aside0 (w.heap.size ≤ b4) := ⟨by omega⟩; have c0 := pw_cell_below hb c0; clear hbox hb hg)
  | (go_at_call 87; refine (gSize_calls (HM.out.grid.below HB1.out)).mono ?_; rintro e w2 ⟨rfl, hd⟩; have HB2 := Aside0.mk (below_step HB1.out hd.below); have HX2 := Aside0.mk (blk_step HX1.out hd.below); have c0 := pw_cell_below hd.below c0; clear hd))
 clear HX1 HB1
 go_upto_region 3 with (first
  | (go_at_call 62; refine (tile_calls (HM.out.grid.below HB2.out) HS.out).mono ?_; rintro e w3 ⟨vt, rfl, ho, hb⟩; obtain ⟨AT, nT, rfl⟩ := Kd.R_slice ho; have HT3 := Aside0.mk (Kd.R_lower ho HB2.out.size); have HB3 := Aside0.mk (below_step HB2.out hb); have HX3 := Aside0.mk (blk_step HX2.out hb); have c0 := pw_cell_below hb c0; clear ho hb)
  | ((with_reducible refine gate_dst (N := 7) rfl ?_); refine box_event ?hg (N := 7) ?hd (cs := #[.int .i64 0, .int .i64 0, .slice none 0 0]) (t := 86) ?hr ?_; (case hd => rfl); (case hg => rfl); (case hr => first | (go_simp; done) | (go_simp; rfl)); intro b7 hg w4 hbox hb; have HX7 := Aside0.mk hbox; have HB4 := Aside0.mk hb; have HG7 : Aside0 (w3.heap.size ≤ b7) := ⟨by omega⟩; have z0 := cell_blk (j := 0) (u := .int .i64 0) hbox rfl; have z1 := cell_blk (j := 1) (u := .int .i64 0) hbox rfl; have z2 := cell_blk (j := 2) (u := .slice none 0 0) hbox rfl; have f0 := free_blk hbox 0; have f1 := free_blk hbox 1; have f2 := free_blk hbox 2; clear hbox hb hg))
 have HTL : Aside0 ((tileL s.W s.H s.C (i : Int)).length ≤ 256) := ⟨by rw [tileL_len]; have := box_wh HM.out.grid.ok.dim HS.out; omega⟩
 obtain ⟨T, hTd⟩ : ∃ T, T = tileL s.W s.H s.C (i : Int) := ⟨_, rfl⟩
 obtain ⟨t, ht⟩ : ∃ t, t = tw s.W (i : Int) := ⟨_, rfl⟩
 obtain ⟨u, hu⟩ : ∃ u, u = th s.W s.H (i : Int) := ⟨_, rfl⟩
 rw [← hTd, ← ht, ← hu]
 rw [← hTd] at HTL HT3
 have HT := Aside0.mk (And.intro hTd (And.intro ht hu))
 clear hTd ht hu
 obtain ⟨w5, hw5⟩ : ∃ w5, w5 = (((w4.setCell ⟨b7, 0, none⟩ (.int .i64 t)).setCell ⟨b7, 1, none⟩ (.int .i64 u)).setCell ⟨b7, 2, none⟩ (.slice AT T.length nT)) := ⟨_, rfl⟩
 rw [← hw5]
 have hlow : w.heap.size ≤ b7 := Nat.le_trans HB3.out.size HG7.out
 have HB5 : Aside0 (Below w.heap.size w w5) := ⟨by rw [hw5]; exact (((below_step HB3.out HB4.out).setCell hlow _).setCell hlow _).setCell hlow _⟩
 have HX75 : Aside0 (w5.heap[b7]? = some (.cells #[.int .i64 t, .int .i64 u, .slice AT T.length nT] 86 (0, 0))) := ⟨by rw [hw5]; exact set_blk (set_blk (set_blk HX7.out 0 _) 1 _) 2 _⟩
 have hne : b4 ≠ b7 := blk_ne (blk_step HX3.out HB4.out) HX7.out (by decide)
 have HX45 : Aside0 (w5.heap[b4]? = some (.cells #[.int .i64 0, .slice none 0 0, .slice none 0 0] 111 (0, 0))) := ⟨by rw [hw5]; exact blk_far (blk_far (blk_far (blk_step HX3.out HB4.out) hne _) hne _) hne _⟩
 have HT5 : Aside0 (Kd.R (Kd.int .u8) 5 w5 w.heap.size (fun _ => True) (.slice AT T.length nT) T) := ⟨by rw [hw5]; exact R_setN (R_setN (R_setN (Kd.R_below HT3.out HB4.out) HX7.out (by decide) 0 _) (set_blk HX7.out 0 _) (by decide) 1 _) (set_blk (set_blk HX7.out 0 _) 1 _) (by decide) 2 _⟩
 have HM5 := Aside0.mk (HM.out.below HB5.out)
 have hbz : Below w5.heap.size w5 (w5.alloc (.cells #[.int .i64 0, .slice none 0 0, .slice none 0 0] 111)).drew := below_drew1 (below_alloc (Below.refl _ _) _)
 have HBZ := Aside0.mk hbz
 have HGE : Aside0 (GridM w5.drew g s) := ⟨HM5.out.grid.below (below_drew1 (Below.refl _ _))⟩
 have HGD : Aside0 (GridM (w5.alloc (.cells #[.int .i64 0, .slice none 0 0, .slice none 0 0] 111)).drew g s) := ⟨HM5.out.grid.below hbz⟩
 have HXZ : Aside0 ((w5.alloc (.cells #[.int .i64 0, .slice none 0 0, .slice none 0 0] 111)).drew.heap[w5.heap.size]? = some (.cells #[.int .i64 0, .slice none 0 0, .slice none 0 0] 111 (0, 0))) := ⟨blk_new w5 _⟩
 clear hbz
 obtain ⟨k0, _, _, _⟩ := HM5.out.cells
 have HLO := Aside0.mk (And.intro HG1.out hlow)
 have HXB : Aside0 (m.xb ≠ w5.heap.size) := ⟨by obtain ⟨pvs, hmm⟩ := HM5.out.mesh; have := blk_lt hmm.blk; omega⟩
 clear c0 z0 z1 z2 f0 f1 f2 hw5 hne hlow HX3 HX7 HB3 HB4 HT3 HG7 HG1 HX2 HB2
 go_cut [9] (fun v9 wc => ∃ (b9 : Nat) (A6 : Option Addr) (n6 : Nat), v9 = .pointer (some ⟨b9, 0, none⟩) ∧ Aside0 (MkM w wc b4 b7 b9 t u AT nT T ve (.slice A6 (nodesL s.W s.H s.C (i : Int)).length n6) (.slice none 0 0) (nodesL s.W s.H s.C (i : Int))))
 case first =>
  go_region_held3 (fun w' => w'.cell? ⟨m.xb, 0, none⟩ = some (.pointer (some ⟨g.gb, 0, none⟩))) (first | exact k0 | exact q0 | exact (cfarN HXB.out _).trans ((cfarN HXB.out _).trans ((cfarN HXB.out _).trans q0)) | exact (cfarN HXB6.out _).trans ((cfarN HXB6.out _).trans ((cfarN HXB6.out _).trans (pw_cell_below (below_alloc (Below.refl _ _) _) q0))) | go_keep)
   (first
    | (go_at_call 72; refine (gVersion_calls HGD.out HIL.out).mono ?_; rintro e w9 ⟨rfl, rfl⟩; rw [← HVE.out])
    | (go_at_call 72; refine (gVersion_calls HGE.out HIL.out).mono ?_; rintro e w9 ⟨rfl, rfl⟩; rw [← HVE.out])
    | (go_at_call 72; refine (gVersion_calls HG6.out HIL.out).mono ?_; rintro e w9 ⟨rfl, rfl⟩; rw [← HVE.out])
    | (go_at_call 95; refine (bnodes_calls HGD.out HS.out).mono ?_; rintro e w6 ⟨v6, rfl, ho, hb⟩; obtain ⟨A6, n6, rfl⟩ := Kd.R_slice ho; have HN6 := Aside0.mk ho; have HB56 := Aside0.mk (below_step HBZ.out hb); have q0 := pw_cell_below HB56.out k0; have HG6 := Aside0.mk (HGD.out.below hb); have hx9 := blk_step HXZ.out hb; have HX9 := Aside0.mk hx9; have r0 := cell_blk (j := 0) (u := .int .i64 0) hx9 rfl; have r1 := cell_blk (j := 1) (u := .slice none 0 0) hx9 rfl; have r2 := cell_blk (j := 2) (u := .slice none 0 0) hx9 rfl; have s0 := free_blk hx9 0; have s1 := free_blk hx9 1; have s2 := free_blk hx9 2; clear ho hb hx9)
    | (go_at_call 95; refine (bnodes_calls HGE.out HS.out).mono ?_; rintro e w6 ⟨v6, rfl, ho, hb⟩; obtain ⟨A6, n6, rfl⟩ := Kd.R_slice ho; have HN6 := Aside0.mk ho; have HB56 := Aside0.mk (below_step (below_drew1 (Below.refl w5.heap.size w5)) hb); have q0 := pw_cell_below HB56.out k0; have HG6 := Aside0.mk (HGE.out.below hb); have HXB6 : Aside0 (m.xb ≠ w6.heap.size) := ⟨Nat.ne_of_lt (World.block_lt_of_cell? w6 _ q0)⟩; clear ho hb))
  ·go_wp2
   go_meet
   have hs5 := HB5.out.size
   have h4 := HX45.out
   have hlt4 := blk_lt h4
   have hs6 := HB56.out.size
   exact ⟨w6.heap.size, A6, n6, rfl, ⟨⟨blk_alloc (blk_step h4 HB56.out) _, blk_alloc (blk_step HX75.out HB56.out) _, blk_new w6 _, Kd.R_alloc (Kd.R_below HT5.out HB56.out) _, Kd.R_alloc (Kd.R_lower HN6.out hs5) _, ⟨HLO.out.1, Nat.le_trans hs5 hs6, Nat.ne_of_lt (Nat.lt_of_lt_of_le hlt4 hs6)⟩, below_alloc (below_step HB5.out HB56.out) _⟩⟩⟩
  all_goals
   go_wp2
   go_meet
   have hs5 := HB5.out.size
   have h4 := HX45.out
   have hlt4 := blk_lt h4
   have hlow := (below_step HB5.out HBZ.out).size
   exact ⟨w5.heap.size, A6, n6, rfl, ⟨MkM.start ve (blk_step h4 HB56.out) (blk_step HX75.out HB56.out) HX9.out (Kd.R_below HT5.out HB56.out) (Kd.R_lower HN6.out hlow) ⟨HLO.out.1, hs5, Nat.ne_of_lt hlt4⟩ (below_step HB5.out HB56.out)⟩⟩
 case rest =>
  obtain ⟨b9, A6, n6, rfl, HK⟩ := hcut
  clear HX45 HX75 HT5 HGD HGE HXZ HBZ HXB HLO k0
  have hnl := nodes_len (C := s.C) HM.out.grid.ok.dim HS.out
  have hnm : ∀ c, c ∈ nodesL s.W s.H s.C (i : Int) → 0 ≤ c ∧ c < s.W * s.H := fun c hc => ((mem_nodes HM.out.grid.ok.dim HS.out).1 hc).1
  have hlok := nodes_loc (C := s.C) HM.out.grid.ok.dim HS.out
  obtain ⟨N, hN⟩ : ∃ N, N = nodesL s.W s.H s.C (i : Int) := ⟨_, rfl⟩
  rw [← hN] at HK hnl hnm hlok
  obtain ⟨L, hL⟩ : ∃ L, L = N.map (loc s.W) := ⟨_, rfl⟩
  rw [← hL, ← HT.out.1] at hlok
  have hll : L.length = N.length := by rw [hL, List.length_map]
  have HNL := Aside0.mk (And.intro hnl hll)
  have HNM := Aside0.mk hnm
  have HLOK := Aside0.mk hlok
  have HN := Aside0.mk (And.intro hN hL)
  clear hnl hnm hlok hN hL hll
  have x1 := cell_blk (j := 1) (u := .slice A6 N.length n6) HK.out.x9 rfl
  go_wp2_with fail
  clear x1
  go_loopg [10, 50] N.length (fun gg v10 v50 wr => ∃ k : Nat, v50 = .int .i64 k ∧ k ≤ N.length ∧ N.length - k ≤ gg ∧ Aside0 (RowN wr wc.heap.size v10 (L.take k)) ∧ Aside0 (Below wc.heap.size wc wr))
  case atStart => exact ⟨0, rfl, Nat.zero_le _, Nat.le_refl _, ⟨Kd.R_nil _ _ _ _ _⟩, ⟨Below.refl _ _⟩⟩
  case round =>
   obtain ⟨k, rfl, hk, hgg, HO, HB⟩ := hrel
   by_cases hlt : k < N.length
   ·have d1 : (k : Int) < (N.length : Int) := by omega
    obtain ⟨adN, hAN, hx⟩ := Kd.at_int (Kd.C_below (Kd.R_reads' HK.out.nodes).2.2 HB.out) (k : Int) (by omega) d1
    subst hAN
    rw [Int.toNat_natCast, rd_get N hlt] at hx
    have hm := HNM.out N[k] (List.getElem_mem hlt)
    have hlo := wLocal HM.out.grid.ok.dim hm.1 hm.2
    have htk : L.take (k + 1) = L.take k ++ [loc s.W N[k]] := by
     rw [List.take_succ_eq_append_getElem (by have := HNL.out.2; omega)]
     congr 2
     simp only [HN.out.2, List.getElem_map]
    obtain ⟨c, hc⟩ : ∃ c, c = N[k] := ⟨_, rfl⟩
    rw [← hc] at hx hlo htk
    obtain ⟨lc, hlc⟩ : ∃ lc, lc = loc s.W c := ⟨_, rfl⟩
    rw [← hlc] at hlo htk
    obtain ⟨xs, hxs⟩ : ∃ xs, xs = L.take k := ⟨_, rfl⟩
    have hxl : xs.length ≤ k := by rw [hxs, List.length_take]; omega
    rw [← hxs] at HO htk
    obtain ⟨A7, n7, e7⟩ := Kd.R_slice HO.out
    subst e7
    have HLC := Aside0.mk hlo
    have HTK := Aside0.mk htk
    have HXL : Aside0 ((xs.length + 1) * 8 ≤ 140737488355328) := ⟨by have := HNL.out; omega⟩
    have HI := Aside0.mk (And.intro hk (And.intro hgg hlt))
    clear hk hgg hlt hm hlo htk hc hlc hxs hxl
    go_wp2_with (first
     | (go_at_call 97; refine (where_Local.calls s.W s.H c lc _ HLC.out).mono ?_; rintro e w8 ⟨rfl, hb⟩; have HO8 := Aside0.mk (Kd.R_below HO.out hb); have HB8 := Aside0.mk (below_step HB.out hb); clear hb hx)
     | ((with_reducible refine gate_builtin (b := .append) (xs := #[.tmp 54, .tmp 59]) rfl ?_); at_builtin; refine Kd.R_append (Kd.int .i64) (w0 := wc) wc.heap.size rfl (.tmp 54) (.tmp 59) 36 3 (.int .i64 0) 8 rfl Tryz.underlying36 info3 rfl (by decide) (by omega) (.slice A7 xs.length n7) xs lc [.int .i64 lc] (fun _ => True) (fun _ => False) rfl rfl ?aP (fun _ hk => hk.elim) ?aF ?aO ?aB ?aS ?aL ?_; (case aP => exact rfl); (case aB => exact HB8.out); (case aF => exact (fun _ _ => trivial)); (case aO => exact HO8.out); (case aS => exact HB8.out.size); (case aL => exact HXL.out); intro v9 w9 ho9 hb9 hg9 hat9; have HO9 := Aside0.mk ho9; have HB9 := Aside0.mk hb9; clear ho9 hb9 hg9 hat9))
    go_roundg (N.length - (k + 1))
    case measure => have := HI.out; omega
    case rel =>
     have hh := HI.out
     have hn := HNL.out
     exact ⟨k + 1, by first | rfl | (rw [w64 (n := (k : Int) + 1) (by omega) (by omega)]; rfl), by omega, Nat.le_refl _, ⟨by rw [HTK.out]; exact HO9.out⟩, HB9⟩
   ·obtain rfl : k = N.length := by omega
    have d1 : decide (((N.length : Nat) : Int) < (N.length : Int)) = false := by simp
    have ho2 := HO.out
    rw [List.take_of_length_le (by have := HNL.out; omega)] at ho2
    have HO2 := Aside0.mk ho2
    clear ho2
    clear hk hgg hlt HO
    have HKr := Aside0.mk (HK.out.step HB.out)
    obtain ⟨AL, nL, eL⟩ := Kd.R_slice HO2.out
    subst eL
    obtain ⟨tab, htab, htl, htat⟩ := make_some (fun y hy => by have := tile_bytes HM.out.grid.ok HS.out y hy; omega) (tile_ok HM.out.grid.ok HS.out) (by rw [HT.out.1] at HLOK; exact HLOK.out) (by have := HNL.out; omega) 100000 (Nat.le_refl _)
    rw [← HT.out.1, ← HT.out.2.1, ← HT.out.2.2] at htab
    rw [← HT.out.1, ← HT.out.2.1] at htat
    have htl2 : tab.length ≤ 65536 := by rw [htl]; have h1 := HNL.out; have h2 : L.length * L.length ≤ 256 * 256 := Nat.mul_le_mul (by omega) (by omega); exact h2
    have HTAB := Aside0.mk htab
    have HTT := Aside0.mk (And.intro htl (And.intro htl2 htat))
    have hmk := print_make_of (P := Tryz.prog) 109 21 (.int .i32 0) 4 Tryz.underlying109 infoD rfl (by decide) tab.length (by omega)
    clear htab htl htat htl2
    have y0 := cell_blk (j := 0) (u := .int .i64 t) HKr.out.x7 rfl
    have y1 := cell_blk (j := 1) (u := .int .i64 u) HKr.out.x7 rfl
    have y2 := cell_blk (j := 2) (u := .slice AT T.length nT) HKr.out.x7 rfl
    go_upto_region 11 with (go_at_call 110; refine (table_Make.calls 100000 t u AT nT T AL nL L tab 0 _ (Kd.R_reads' HKr.out.tile).2.2 (Kd.R_reads' HKr.out.tile).2.1 (Kd.R_reads' HO2.out).2.2 (Kd.R_reads' HO2.out).2.1 HTAB.out).mono ?_; rintro e w8 ⟨v8, rfl, ho, hb⟩; obtain ⟨A8, n8, rfl⟩ := Kd.R_slice ho; have HD8 := Aside0.mk (Kd.R_lower ho HKr.out.below.size); have HK8 := Aside0.mk (HKr.out.step hb); clear ho hb y0 y1 y2)
    clear HO2 HKr HB
    have hk9 := HK8.out.x9
    have hx9 := blk_alloc hk9 (.cells (madeCells #[.int .i32 0] tab.length) 21)
    have f2 := free_blk hx9 2
    have z2 := cell_blk (j := 2) (u := .slice none 0 0) hx9 rfl
    clear hk9 hx9
    go_upto_region 12 with (fail)
    have HDS := Aside0.mk (DsM.start HK8.out HD8.out HTT.out.2.1)
    obtain ⟨db, hdb⟩ : ∃ db, db = w8.heap.size := ⟨_, rfl⟩
    rw [← hdb] at HDS ⊢
    obtain ⟨wd, hwd⟩ : ∃ wd, wd = ((w8.alloc (.cells (madeCells #[.int .i32 0] tab.length) 21)).setCell ⟨b9, 2, none⟩ (.slice (some ⟨db, 0, none⟩) tab.length tab.length)) := ⟨_, rfl⟩
    rw [← hwd] at HDS ⊢
    clear hwd hdb f2 z2 hmk HD8 HK8
    go_wp2_with fail
    go_loopg [74] tab.length (fun gg v74 wr => ∃ (k : Nat) (D : List Int), v74 = .int .i64 k ∧ k ≤ tab.length ∧ tab.length - k ≤ gg ∧ Aside0 (∀ q : Nat, q < k → rd D (q : Int) = f32 (rd tab (q : Int))) ∧ Aside0 (DsM w wr b4 b7 b9 db t u AT nT T ve (.slice A6 N.length n6) N A8 n8 tab D))
    case atStart => exact ⟨0, _, rfl, Nat.zero_le _, Nat.le_refl _, ⟨fun q hq => absurd hq (by omega)⟩, HDS⟩
    case round =>
     clear HDS
     obtain ⟨k, D, rfl, hk, hgg, HQ, HDS⟩ := hrel
     by_cases hlt : k < tab.length
     ·have d1 : (k : Int) < (tab.length : Int) := by omega
      obtain ⟨ad8, hA8, hx⟩ := Kd.at_int (Kd.R_reads' HDS.out.tab).2.2 (k : Int) (by omega) d1
      subst hA8
      rw [Int.toNat_natCast] at hx
      obtain ⟨dk, hdk⟩ : ∃ dk, dk = rd tab (k : Int) := ⟨_, rfl⟩
      rw [← hdk] at hx
      have z2 := cell_blk (j := 2) (u := .slice (some ⟨db, 0, none⟩) tab.length tab.length) HDS.out.pm.x9 rfl
      obtain ⟨ec, ef⟩ := HDS.out.cell hlt
      have HI := Aside0.mk (And.intro hk (And.intro hgg hlt))
      have e0 : (0 : Int) ≤ (k : Int) := by omega
      have hn9 : b9 ≠ db := by
       obtain ⟨cs, hcs⟩ := Kd.R_typed HDS.out.row db rfl
       exact blk_ne HDS.out.pm.x9 hcs (by decide)
      have z2' := (cfarN (w := wr) (p := ⟨db, k, none⟩) (a := ⟨b9, 2, none⟩) hn9 (.int .i32 (-1))).trans z2
      obtain ⟨ec', ef'⟩ := (HDS.out.put k (-1)).cell hlt
      by_cases hi : dk = 1099511627776
      ·have dd : (dk != 1099511627776) = false := by simp [hi]
       have HD2 : Aside0 (DsM w (wr.setCell ⟨db, k, none⟩ (.int .i32 (-1))) b4 b7 b9 db t u AT nT T ve (.slice A6 N.length n6) N (some ad8) n8 tab (D.set k (-1))) := ⟨HDS.out.put k (-1)⟩
       have HQ2 : Aside0 (∀ q : Nat, q < k + 1 → rd (D.set k (-1)) (q : Int) = f32 (rd tab (q : Int))) := ⟨fun q hq => by
        rw [rd_set' _ _ _ _ (by rw [HDS.out.len]; omega)]
        by_cases e : k = q
        ·subst e; rw [if_pos rfl, ← hdk, hi]; rfl
        ·rw [if_neg e]; exact HQ.out q (by omega)⟩
       clear hk hgg hlt hdk hi hn9 HQ HDS
       go_wp2_with fail
       go_roundg (tab.length - (k + 1))
       case measure => have := HI.out; omega
       case rel =>
        have hh := HI.out
        have hn := HTT.out.2.1
        exact ⟨k + 1, _, by first | rfl | (rw [w64 (n := (k : Int) + 1) (by omega) (by omega)]; rfl), by omega, Nat.le_refl _, HQ2, HD2⟩
      ·have dd : (dk != 1099511627776) = true := by simp [hi]
       have hrng : 0 ≤ dk ∧ dk ≤ 65024 := by
        have hto := tile_ok HM.out.grid.ok HS.out
        rw [← HT.out.1, ← HT.out.2.1, ← HT.out.2.2] at hto
        have := tab_rng (fun y hy => by rw [HT.out.1] at hy; have := tile_bytes HM.out.grid.ok HS.out y hy; omega) hto HLOK.out HTT.out.1 HTT.out.2.2 hlt (by rw [← hdk]; exact hi)
        rw [← hdk] at this
        exact this
       have iw2 : IntKind.i32.wrap dk = dk := by rw [IntKind.wrap_i32]; omega
       have HD2 : Aside0 (DsM w ((wr.setCell ⟨db, k, none⟩ (.int .i32 (-1))).setCell ⟨db, k, none⟩ (.int .i32 dk)) b4 b7 b9 db t u AT nT T ve (.slice A6 N.length n6) N (some ad8) n8 tab ((D.set k (-1)).set k dk)) := ⟨(HDS.out.put k (-1)).put k dk⟩
       have HQ2 : Aside0 (∀ q : Nat, q < k + 1 → rd ((D.set k (-1)).set k dk) (q : Int) = f32 (rd tab (q : Int))) := ⟨fun q hq => by
        rw [List.set_set, rd_set' _ _ _ _ (by rw [HDS.out.len]; omega)]
        by_cases e : k = q
        ·subst e; rw [if_pos rfl, ← hdk]; unfold f32; rw [if_neg hi]
        ·rw [if_neg e]; exact HQ.out q (by omega)⟩
       clear hk hgg hlt hdk hi hn9 HQ HDS hrng
       go_wp2_with fail
       go_roundg (tab.length - (k + 1))
       case measure => have := HI.out; omega
       case rel =>
        have hh := HI.out
        have hn := HTT.out.2.1
        exact ⟨k + 1, _, by first | rfl | (rw [w64 (n := (k : Int) + 1) (by omega) (by omega)]; rfl), by omega, Nat.le_refl _, HQ2, HD2⟩
     ·obtain rfl : k = tab.length := by omega
      have d1 : decide (((tab.length : Nat) : Int) < (tab.length : Int)) = false := by simp
      clear hk hgg hlt
      have z0 := cell_blk (j := 0) (u := .int .i64 ve) HDS.out.pm.x9 rfl
      have z1 := cell_blk (j := 1) (u := .slice A6 N.length n6) HDS.out.pm.x9 rfl
      have z2 := cell_blk (j := 2) (u := .slice (some ⟨db, 0, none⟩) tab.length tab.length) HDS.out.pm.x9 rfl
      have o0 := cell_blk (j := 0) (u := .int .i64 0) HDS.out.pm.x4 rfl
      have o1 := cell_blk (j := 1) (u := .slice none 0 0) HDS.out.pm.x4 rfl
      have o2 := cell_blk (j := 2) (u := .slice none 0 0) HDS.out.pm.x4 rfl
      have p0 := free_blk HDS.out.pm.x4 0
      have p1 := free_blk HDS.out.pm.x4 1
      have p2 := free_blk HDS.out.pm.x4 2
      go_wp2_with fail
      have q1 := set_blk HDS.out.pm.x4 0 (.int .i64 ve)
      have q2 := set_blk q1 1 (.slice A6 N.length n6)
      have q3 := set_blk q2 2 (.slice (some ⟨db, 0, none⟩) tab.length tab.length)
      refine bodyPost_ret (results_cell_row rfl _ _ b4 111 #[.int .i64 ve, .slice A6 N.length n6, .slice (some ⟨db, 0, none⟩) tab.length tab.length] (0, 0) _ rfl q3 Tryz.underlying111 rfl (by kernel_rfl)) rfl ?_
      have hlow := HDS.out.pm.low.1
      have hnl := HNL.out
      have htt := HTT.out
      have hdl : D.length = N.length * N.length := by rw [HDS.out.len, htt.1, hnl.2]
      refine ⟨_, _, ⟨ve, N, D⟩, rfl, ⟨rfl, ?_, ?_, hnl.1, hdl⟩, ⟨HN.out.1, hdl, fun a b ha hb => ?_⟩, ((HDS.out.pm.below.setCell hlow _).setCell hlow _).setCell hlow _⟩
      ·exact Kd.R_lower (R_setN (R_setN (R_setN HDS.out.pm.nodes HDS.out.pm.x4 (by decide) 0 _) q1 (by decide) 1 _) q2 (by decide) 2 _) (Nat.zero_le _)
      ·exact Kd.R_lower (R_setN (R_setN (R_setN HDS.out.row HDS.out.pm.x4 (by decide) 0 _) q1 (by decide) 1 _) q2 (by decide) 2 _) (Nat.zero_le _)
      ·show rd D ((a * N.length + b : Nat) : Int) = f32 (distN s.W s.H s.C (i : Int) (rd N a) (rd N b))
       have hix : a * N.length + b < tab.length := by rw [htt.1, hnl.2]; exact idx_lt ha hb
       have h1 := htt.2.2 a b (by rw [hnl.2]; exact ha) (by rw [hnl.2]; exact hb)
       rw [hnl.2] at h1
       rw [HQ.out _ hix, h1, HN.out.2, rd_map _ _ ha, rd_map _ _ hb, HT.out.1, HT.out.2.1]
       rfl
end Go.Proofs.YthgehdembghdaaaGreat.P
