/-
 WALKED BY HAND: the grid's Tile.
-/
import Derived.Test.YthgehdembghdaaaGreatXBorder2
import Derived.Lib.SlBytesRow
namespace Go.Proofs.YthgehdembghdaaaGreat.P
open Go.RowKit Go.Proofs.YthgehdembghdaaaGreatW.PrintWords Go.Proofs.YthgehdembghdaaaGreatW.PrintLast Go.Proofs.YthgehdembghdaaaGreatW.PrintMore
open Go.Proofs.YthgehdembghdaaaGreat.Geo
set_option linter.unusedVariables false
set_option linter.unusedSimpArgs false
variable {w w' : World} {g : Gb} {st : GridS}
theorem R_setN {α : Type} {d : Kd α} {e base : Nat} {w : World} {v : Value} {xs : List α} (h : d.R e w base (fun _ => True) v xs) {g t : Nat} {cs : Array Value} (hb : w.heap[g]? = some (.cells cs t (0, 0))) (ht : ∀ q, q ∈ e :: d.E → q ≠ t) (j : Nat) (u : Value) : d.R e (w.setCell ⟨g, j, none⟩ u) base (fun _ => True) v xs :=
 Kd.R_mono (Kd.R_set h hb ht j u) (fun _ _ => trivial)
structure TileM (w wr : World) (b4 bt : Nat) (t u : Int) (v : Value) (l : List Int) : Prop where
 box : wr.heap[bt]? = some (.cells #[.int .i64 t, .int .i64 u, v] 86 (0, 0))
 out : wr.heap[b4]? = some (.cells #[.int .i64 0, .int .i64 0, .slice none 0 0] 86 (0, 0))
 row : Kd.R (Kd.int .u8) 5 wr w.heap.size (fun _ => True) v l
 low : w.heap.size ≤ b4 ∧ w.heap.size ≤ bt ∧ b4 ≠ bt
 below : Below w.heap.size w wr
theorem TileM.step {wr : World} {b4 bt : Nat} {t u : Int} {v : Value} {l : List Int} (h : TileM w wr b4 bt t u v l) (hb : Below wr.heap.size wr w') : TileM w w' b4 bt t u v l := ⟨blk_step h.box hb, blk_step h.out hb, Kd.R_below h.row hb, h.low, below_step h.below hb⟩
set_option maxRecDepth 100000 in
set_option maxHeartbeats 8000000 in
theorem tile_calls (h : GridM w g st) {s : Int} (hs : inS st.W st.H s) : Calls Tryz.prog 62 #[.pointer (some ⟨g.gb, 0, none⟩), .int .i64 s] w fun e w' => ∃ v, e = .returned (.tuple #[.agg #[.int .i64 (tw st.W s), .int .i64 (th st.W st.H s), v], .bool true]) ∧ Kd.R (Kd.int .u8) 5 w' w.heap.size (fun _ => True) v (tileL st.W st.H st.C s) ∧ Below w.heap.size w w' := by
 have HG := Aside0.mk h
 have HS := Aside0.mk hs
 have hb := sec_box h.ok.dim hs.1 hs.2
 have hz := wSize h.ok.dim hs
 have hrall := rows_all (C := st.C) h.ok.dim hs
 obtain ⟨t, ht⟩ : ∃ t, t = tw st.W s := ⟨_, rfl⟩
 obtain ⟨u, hu⟩ : ∃ u, u = th st.W st.H s := ⟨_, rfl⟩
 rw [← ht, ← hu] at hb hz ⊢
 have HT := Aside0.mk (And.intro ht (And.intro hu (And.intro hb.2.2.2.2.1 hb.2.2.2.2.2)))
 have HSZ := Aside0.mk hz
 obtain ⟨un, hun⟩ : ∃ n : Nat, (n : Int) = u := ⟨u.toNat, by omega⟩
 have HRA : Aside0 (rowsL st.W s st.C un = tileL st.W st.H st.C s) := ⟨by rw [← hrall, ← hu, show u.toNat = un by omega]⟩
 have HUN := Aside0.mk hun
 have dt : (t == 0) = false := beq_eq_false_iff_ne.2 (by omega)
 clear h hs hb hz hrall ht hu hun
 go_enter Tryz.func62, Tryz.ntmps62
 go_upto_region 5 with (first
  | ((with_reducible refine gate_dst (N := 4) rfl ?_); refine box_event ?hg (N := 4) ?hd (cs := #[.int .i64 0, .int .i64 0, .slice none 0 0]) (t := 86) ?hr ?_; (case hd => rfl); (case hg => rfl); (case hr => first | (go_simp; done) | (go_simp; rfl)); intro b4 hg w1 hbox hb; have HX1 := Aside0.mk hbox; have HB1 := Aside0.mk hb; have HG1 : Aside0 (w.heap.size ≤ b4) := ⟨by omega⟩; clear hbox hb hg)
  | (go_at_call 87; refine (gSize_calls (HG.out.below HB1.out)).mono ?_; rintro e w2 ⟨rfl, hd⟩; have HB2 := Aside0.mk (below_step HB1.out hd.below); have HX2 := Aside0.mk (blk_step HX1.out hd.below); clear hd)
  | (go_at_call 100; refine (where_Size.calls _ _ _ _ _ _ HSZ.out).mono ?_; rintro e w3 ⟨rfl, hb⟩; have HB3 := Aside0.mk (below_step HB2.out hb); have HX3 := Aside0.mk (blk_step HX2.out hb); clear hb))
 clear HX1 HX2 HB1 HB2
 go_upto_region 6 with ((with_reducible refine gate_dst (N := 10) rfl ?_); refine box_event ?hg (N := 10) ?hd (cs := #[.int .i64 0, .int .i64 0, .slice none 0 0]) (t := 86) ?hr ?_; (case hd => rfl); (case hg => rfl); (case hr => first | (go_simp; done) | (go_simp; rfl)); intro bt hg w4 hbox hb; have HX4 := Aside0.mk hbox; have HB4 := Aside0.mk hb; have HG4 : Aside0 (w3.heap.size ≤ bt) := ⟨by omega⟩; have z0 := cell_blk (j := 0) (u := .int .i64 0) hbox rfl; have z1 := cell_blk (j := 1) (u := .int .i64 0) hbox rfl; have z2 := cell_blk (j := 2) (u := .slice none 0 0) hbox rfl; have f0 := free_blk hbox 0; have f1 := free_blk hbox 1; have f2 := free_blk hbox 2; clear hbox hb hg)
 obtain ⟨w5, hw5⟩ : ∃ w5, w5 = (((w4.setCell ⟨bt, 0, none⟩ (.int .i64 t)).setCell ⟨bt, 1, none⟩ (.int .i64 u)).setCell ⟨bt, 2, none⟩ (.slice none 0 0)) := ⟨_, rfl⟩
 rw [← hw5]
 have HM : Aside0 (TileM w w5 b4 bt t u (.slice none 0 0) (rowsL st.W s st.C 0)) := ⟨by
  have hlb : w.heap.size ≤ bt := Nat.le_trans HB3.out.size HG4.out
  have hx := HX3.out
  have hne : b4 ≠ bt := by have := blk_lt hx; have := HG4.out; omega
  refine ⟨?_, ?_, ?_, ⟨HG1.out, hlb, hne⟩, ?_⟩
  ·rw [hw5]; exact set_blk (set_blk (set_blk HX4.out 0 _) 1 _) 2 _
  ·rw [hw5]; exact blk_far (blk_far (blk_far (blk_step hx HB4.out) hne _) hne _) hne _
  ·have : rowsL st.W s st.C 0 = [] := by unfold rowsL; simp
   rw [this]; exact Kd.R_nil _ _ _ _ _
  ·rw [hw5]; exact (((below_step HB3.out HB4.out).setCell hlb _).setCell hlb _).setCell hlb _⟩
 clear hw5 z0 z1 z2 f0 f1 f2 HX3 HB3 HX4 HB4 HG4 HG1 dt
 go_wp2_with fail
 go_loopg [32] un (fun gg v32 wr => ∃ (k : Nat) (v : Value), v32 = .int .i64 k ∧ k ≤ un ∧ un - k ≤ gg ∧ Aside0 (TileM w wr b4 bt t u v (rowsL st.W s st.C k)))
 case atStart => exact ⟨0, _, rfl, Nat.zero_le _, Nat.le_refl _, HM⟩
 case round =>
  clear HM
  obtain ⟨k, v, rfl, hk, hgg, HM⟩ := hrel
  by_cases hlt : k < un
  ·obtain ⟨ht, hu, hbt, hbu⟩ := HT.out
   have hun := HUN.out
   have d1 : (k : Int) < u := by omega
   have hdim := HG.out.ok.dim
   have hs := HS.out
   have hkt0 : 0 ≤ (k : Int) * t := Int.mul_nonneg (by omega) (by omega)
   have hkt1 : (k : Int) * t + t ≤ t * u := by
    have := Int.mul_le_mul_of_nonneg_right (show (k : Int) + 1 ≤ u by omega) (show 0 ≤ t by omega)
    rw [Int.add_mul, Int.one_mul, Int.mul_comm u] at this
    exact this
   have hbw := box_wh hdim hs
   rw [← ht, ← hu] at hbw
   have iw : IntKind.i64.wrap ((k : Int) * t) = (k : Int) * t := by rw [IntKind.wrap_i64]; omega
   have hg := wGlobal hdim hs hkt0 (by rw [← ht, ← hu]; omega)
   have hgr := glo_rng hdim hs.1 hs.2 hkt0 (by rw [← ht, ← hu]; omega)
   have hnx := rows_next (C := st.C) hdim hs HG.out.ok.len (k := k) (by rw [← hu]; exact d1)
   have hgl : glo st.W s ((k : Int) * t) + t ≤ st.C.length := by
    have h2 := glo_rng hdim hs.1 hs.2 (l := k * t + (t - 1)) (by omega) (by rw [← ht, ← hu]; omega)
    have e1 := dm (W := t) (x := t - 1) (y := (k : Int)) (by omega) (by omega)
    have e2 := dm (W := t) (x := 0) (y := (k : Int)) (by omega) (by omega)
    rw [Int.add_zero] at e2
    have h3 := HG.out.ok.len
    have e3 : glo st.W s ((k : Int) * t + (t - 1)) = glo st.W s ((k : Int) * t) + (t - 1) := by
     unfold glo
     rw [← ht, e1.1, e1.2, e2.1, e2.2]; omega
    omega
   rw [← ht] at hnx
   obtain ⟨f, hf⟩ : ∃ f : Nat, (f : Int) = glo st.W s ((k : Int) * t) := ⟨(glo st.W s ((k : Int) * t)).toNat, by omega⟩
   obtain ⟨tn, htn⟩ : ∃ n : Nat, (n : Int) = t := ⟨t.toNat, by omega⟩
   rw [← hf] at hg hnx hgl
   rw [show ((f : Int) + t).toNat = f + tn by omega, Int.toNat_natCast] at hnx
   have HGL := Aside0.mk hg
   have HNX := Aside0.mk hnx
   have hcut := Kd.C_mid (lo := f) (hi := f + tn) (Kd.R_reads' (HG.out.map)).2.2 (by omega) (by omega) (Kd.R_reads' (HG.out.map)).2.1
   have hcap := (Kd.R_reads' (HG.out.map)).2.1
   have hcut2 : Kd.C (Kd.int .u8) w (some ⟨g.mb, f, none⟩) tn ((st.C.take (f + tn)).drop f) := by
    rw [if_neg (by omega)] at hcut
    have e : ((st.C.take (f + tn)).drop f).length = tn := by simp; omega
    rw [e] at hcut
    have e2 : (some (⟨g.mb, 0, none⟩ : Addr)).map (·.add (f * (Kd.int .u8).sz)) = some ⟨g.mb, f, none⟩ := by show some (Addr.add ⟨g.mb, 0, none⟩ (f * 1)) = _; simp [Addr.add]; omega
    rw [e2] at hcut
    exact hcut
   have hrun : ∀ wx, (Instr.slice 22 (.slice (some ⟨g.mb, 0, none⟩) st.C.length g.cm) (some (.int .i64 (f : Int))) (some (.int .i64 ((f : Int) + t))) none).run Tryz.prog wx = .ok (.slice (some ⟨g.mb, f, none⟩) tn (g.cm - f)) wx := fun wx => by
    have h1 := Lib.run_slice_window (P := Tryz.prog) wx 22 5 Tryz.underlying22 (fun _ => by kernel_rfl) g.mb 0 st.C.length g.cm f (f + tn) (by omega) (by omega)
    rw [show ((f + tn : Nat) : Int) = (f : Int) + t by omega, show f + tn - f = tn by omega, Nat.zero_add] at h1
    exact h1
   have HI := Aside0.mk (And.intro hk (And.intro hgg hlt))
   have HF := Aside0.mk (And.intro hf htn)
   have HCUT := Aside0.mk hcut2
   have iw2 : IntKind.i64.wrap ((f : Int) + t) = (f : Int) + t := by have := HG.out.clen; rw [IntKind.wrap_i64]; omega
   have hxl : (rowsL st.W s st.C k).length + tn ≤ 100000 := by
    have q1 : k * tn ≤ 16 * 16 := Nat.mul_le_mul (by omega) (by omega)
    unfold rowsL
    rw [List.length_map, List.length_range, ← ht, show t.toNat = tn by omega]
    omega
   have HXL := Aside0.mk hxl
   clear hdim hs hbw hg hgr hnx hkt0 hkt1 hk hgg hlt ht hu hf htn hun hcut hcut2 hcap hxl
   go_upto_region 10 with (go_at_call 101; refine (where_Global.calls st.W st.H s ((k : Int) * t) (f : Int) _ HGL.out).mono ?_; rintro e w6 ⟨rfl, hb⟩; have HM6 := Aside0.mk (HM.out.step hb); clear hb)
   have m2 := cell_blk (j := 2) (u := v) HM6.out.box rfl
   have g2 : w6.cell? ⟨g.gb, 2, none⟩ = some (.slice (some ⟨g.mb, 0, none⟩) st.C.length g.cm) := ((HG.out.below HM6.out.below).cells).2.2.1
   obtain ⟨xs, hxs⟩ : ∃ xs, xs = rowsL st.W s st.C k := ⟨_, rfl⟩
   obtain ⟨ys, hys⟩ : ∃ ys, ys = (st.C.take (f + tn)).drop f := ⟨_, rfl⟩
   rw [← hxs] at HM6 HXL HNX
   rw [← hys] at HCUT HNX
   clear hxs hys
   go_region_law ((refine Kd.R_append_rows_step (Kd.int .u8) (w0 := w) w.heap.size (by rfl) (.tmp 43) (.tmp 53) 22 5 (.int .u8 0) 1 (by rfl) Tryz.underlying22 info5 rfl (by decide) (by omega) v xs ys (some ⟨g.mb, f, none⟩) tn _ (fun _ => True) (fun _ => False) rfl rfl ?aO ?aR (fun _ _ h => h) (fun _ h => h.elim) (fun _ _ => trivial) ?aB ?aS ?aL ?_; (case aO => exact Kd.R_drew HM6.out.row); (case aR => exact Kd.C_below HCUT.out (below_drew1 HM6.out.below)); (case aB => exact below_drew1 HM6.out.below); (case aS => exact HM6.out.below.size); (case aL => have := HXL.out; omega); intro v7 w7 ho hb hg hat; obtain ⟨A7, n7, rfl⟩ := Kd.R_slice ho; have hx7 := blk_grown (blk_drew HM6.out.box) hg (Kd.R_ne (Kd.R_drew HM6.out.row) (blk_drew HM6.out.box) (by decide)); have ho7 := blk_grown (blk_drew HM6.out.out) hg (Kd.R_ne (Kd.R_drew HM6.out.row) (blk_drew HM6.out.out) (by decide)); have f2 := free_blk hx7 2; have m7 := cell_blk (j := 2) (u := v) hx7 rfl; have HX7 := Aside0.mk hx7; have HO7 := Aside0.mk ho7; have HR7 := Aside0.mk ho; have HB7 := Aside0.mk hb; clear hx7 ho7 ho hb hg hat))
   all_goals
    have HM8 : Aside0 (TileM w (w7.setCell ⟨bt, 2, none⟩ (.slice A7 (xs.length + ys.length) n7)) b4 bt t u (.slice A7 (xs.length + ys.length) n7) (rowsL st.W s st.C (k + 1))) := ⟨by
     rw [HNX.out, ← List.length_append]
     exact ⟨set_blk HX7.out 2 _, blk_far HO7.out HM6.out.low.2.2 _, R_setN HR7.out HX7.out (by decide) 2 _, HM6.out.low, HB7.out.setCell (show w.heap.size ≤ bt from HM6.out.low.2.1) _⟩⟩
    go_wp2_with fail
    go_roundg (un - (k + 1))
    case measure => have := HI.out; omega
    case rel =>
     have hh := HI.out
     have hn := HUN.out
     exact ⟨k + 1, _, by first | rfl | (rw [w64 (n := (k : Int) + 1) (by omega) (by omega)]; rfl), by omega, Nat.le_refl _, HM8⟩
  ·obtain rfl : k = un := by omega
   have d1 : decide ((k : Int) < u) = false := decide_eq_false (by have := HUN.out; omega)
   have m0 := cell_blk (j := 0) (u := .int .i64 t) HM.out.box rfl
   have m1 := cell_blk (j := 1) (u := .int .i64 u) HM.out.box rfl
   have m2 := cell_blk (j := 2) (u := v) HM.out.box rfl
   have o0 := cell_blk (j := 0) (u := .int .i64 0) HM.out.out rfl
   have o1 := cell_blk (j := 1) (u := .int .i64 0) HM.out.out rfl
   have o2 := cell_blk (j := 2) (u := .slice none 0 0) HM.out.out rfl
   have p0 := free_blk HM.out.out 0
   have p1 := free_blk HM.out.out 1
   have p2 := free_blk HM.out.out 2
   obtain ⟨Av, nv, ev⟩ := Kd.R_slice HM.out.row
   subst ev
   clear hk hgg hlt
   go_wp2_with fail
   (try simp only [Exit.inBlock, Exit.then])
   refine bodyPost_ret (results_ct rfl _ _ b4 86 #[.int .i64 t, .int .i64 u, .slice Av (rowsL st.W s st.C k).length nv] (0, 0) _ rfl (set_blk (set_blk (set_blk HM.out.out 0 _) 1 _) 2 _) Tryz.underlying86 rfl (by kernel_rfl)) rfl ?_
   refine ⟨_, rfl, ?_, ((HM.out.below.setCell (show w.heap.size ≤ b4 from HM.out.low.1) _).setCell (show w.heap.size ≤ b4 from HM.out.low.1) _).setCell (show w.heap.size ≤ b4 from HM.out.low.1) _⟩
   have hr := R_setN (R_setN (R_setN HM.out.row HM.out.out (by decide) 0 (.int .i64 t)) (set_blk HM.out.out 0 _) (by decide) 1 (.int .i64 u)) (set_blk (set_blk HM.out.out 0 _) 1 _) (by decide) 2 (.slice Av (rowsL st.W s st.C k).length nv)
   rw [← HRA.out]
   exact hr
end Go.Proofs.YthgehdembghdaaaGreat.P
