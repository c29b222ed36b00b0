import Derived.Test.YthgehdembghdaaaGreatPx0
import Derived.Test.YthgehdembghdaaaGreatPx5
import Derived.Test.YthgehdembghdaaaGreatJ20
import Derived.Test.YthgehdembghdaaaGreatJ17
import Derived.Test.YthgehdembghdaaaGreatXBase
import Derived.Deep.Slices
import Derived.Deep.Strs
import Derived.Deep.Fields
import Derived.SizedLaws
import Derived.WalkKit
import Derived.ProofKit
import Derived.OpenShut
import Derived.Lib.SmallJoins
import Derived.Deep.Grids
import Derived.ChangeSlices
namespace Go.Proofs.YthgehdembghdaaaGreat.P
noncomputable section
open Go.RowKit Go.Proofs.YthgehdembghdaaaGreatW.PrintWords Go.Proofs.YthgehdembghdaaaGreatW.PrintLast Go.Proofs.YthgehdembghdaaaGreatW.PrintMore
attribute [local go_sem] max2_int min2_int max_two min_two max_three min_three max_four min_four   -- for this text's walks alone
set_option linter.unusedVariables false
set_option linter.unusedSimpArgs false
def herdsmanref11_Edited.f (a0_0 : Int) (a0_1 : Int) (l0_2 : List Int) (a1 : Int) (a2 : Int) : Option (Int × Int × List Int) := (herdsmanref1_Own.f a0_0 a0_1 l0_2).bind fun bt289 => (if 0 ≤ a1 then (if a1 < (bt289.2.2.length : Int) then (some (bt289.1, bt289.2.1, (bt289.2.2.set (a1 : Int).toNat a2))) else (none)) else (none))
set_option maxHeartbeats 8000000 in
set_option maxRecDepth 100000 in
theorem herdsmanref11_Edited.calls (a0_0 : Int) (a0_1 : Int) (A0_2 : Option Addr) (c0_2 : Nat) (l0_2 : List Int) (a1 : Int) (a2 : Int) (r1 : Int) (r2 : Int) (r3 : List Int) (w : World) (hr0_2 : Kd.C (Kd.int .u8) w A0_2 l0_2.length l0_2) (hc0_2 : l0_2.length ≤ c0_2) (h : herdsmanref11_Edited.f a0_0 a0_1 l0_2 a1 a2 = some (r1, r2, r3)) :
  Calls Tryz.prog 29 #[.agg #[.int .i64 a0_0, .int .i64 a0_1, .slice A0_2 l0_2.length c0_2], .int .i64 a1, .int .u8 a2] w fun e w' => ∃ v2_ : Value, e = .returned (.agg #[.int .i64 r1, .int .i64 r2, v2_]) ∧ Kd.R (Kd.int .u8) 5 w' w.heap.size (fun _ => True) v2_ r3 ∧ Below w.heap.size w w' := by
 have hu26 := Tryz.underlying26
 have HR0_2 := Aside0.mk hr0_2
 have HC0_2 := Aside0.mk hc0_2
 clear hr0_2 hc0_2
 have HB := Aside0.mk (Below.refl w.heap.size w)
 have H : ((herdsmanref1_Own.f a0_0 a0_1 l0_2).bind fun bt289 => (if 0 ≤ a1 then (if a1 < (bt289.2.2.length : Int) then (some (bt289.1, bt289.2.1, (bt289.2.2.set (a1 : Int).toNat a2))) else (none)) else (none))) = some (r1, r2, r3) := h
 clear h
 replace H := Option.bind_eq_some_iff.mp H
 obtain ⟨⟨t289, t290, t291⟩, A40, H⟩ := H
 replace H : (if 0 ≤ a1 then (if a1 < (t291.length : Int) then (some (t289, t290, (t291.set (a1 : Int).toNat a2))) else (none)) else (none)) = some (r1, r2, r3) := H
 have A4 := Aside0.mk A40
 clear A40
 by_cases c5 : 0 ≤ a1
 ·rw [if_pos c5] at H
  have c5b0 : decide (0 ≤ a1) = true := decide_eq_true c5
  clear c5
  by_cases c6 : a1 < (t291.length : Int)
  ·rw [if_pos c6] at H
   have c6b0 : decide (a1 < (t291.length : Int)) = true := decide_eq_true c6
   clear c6
   obtain ⟨y295, hy295⟩ : ∃ y_ : List Int, y_ = (t291.set (a1 : Int).toNat a2) := ⟨_, rfl⟩
   replace H : (some (t289, t290, y295)) = some (r1, r2, r3) := by first | (rw [hy295]; with_reducible exact H) | (have H2_ := (Option.bind_some _ _).symm.trans H; rw [hy295]; with_reducible exact H2_) | (have H2_ := (Option.bind_some _ _).symm.trans H; with_reducible exact H2_) | with_reducible exact H | (rw [hy295]; exact H) | exact H
   have Ny295 := Aside0.mk hy295
   clear hy295
   simp only [Option.some.injEq, Prod.mk.injEq] at H
   obtain ⟨rfl, rfl, rfl⟩ := H
   go_enter Tryz.func29, Tryz.ntmps29
   go_wp2_with (first | ((with_reducible refine gate_dst (N := 3) rfl ?_); refine box_event ?hg (N := 3) ?hd (cs := #[.int .i64 a0_0, .int .i64 a0_1, .slice A0_2 l0_2.length c0_2]) (t := 26) ?hr ?_; (case hd => rfl); (case hg => rfl); (case hr => first | (go_simp; done) | (go_simp; rfl)); intro gb287 hg w8 hbox hb; have n0_ := Aside0.mk (below_step (by repeat (first | (with_reducible first | exact HB.out | apply below_alloc | apply pw_below_drewN | apply below_drew1) | exact HB.out)) hb); have n1_ := Aside0.mk (hbox); have n2_ := Aside0.mk ((by rw [hg]; exact (below_size (by repeat (first | (with_reducible first | exact HB.out | apply below_alloc | apply pw_below_drewN | apply below_drew1) | exact HB.out))) : w.heap.size ≤ gb287)); have n3_ := Aside0.mk ((by rw [hg]; exact (below_size (by repeat (first | (with_reducible first | exact HB.out | apply below_alloc | apply pw_below_drewN | apply below_drew1) | exact HB.out))) : w.heap.size ≤ gb287)); clear HB; have HB := n0_; have BK287 := n1_; have GW287 := n2_; have GE287 := n3_; clear n0_ n1_ n2_ n3_; clear hb hbox hg) | ((with_reducible refine gate_dst (N := 6) rfl ?_); refine box_event ?hg (N := 6) ?hd (cs := #[.int .i64 0, .int .i64 0, .slice none 0 0]) (t := 26) ?hr ?_; (case hd => rfl); (case hg => rfl); (case hr => first | (go_simp; done) | (go_simp; rfl)); intro gb288 hg w9 hbox hb; have n0_ := Aside0.mk (blk_below (g := gb287) (o := .cells #[.int .i64 a0_0, .int .i64 a0_1, .slice A0_2 l0_2.length c0_2] 26 (0, 0)) (by (with_reducible repeat (first | refine blk_drewN ?_ _ | refine blk_drew ?_ | refine blk_alloc ?_ _)); exact BK287.out) hb); have n1_ := Aside0.mk (below_step (by repeat (first | (with_reducible first | exact HB.out | apply below_alloc | apply pw_below_drewN | apply below_drew1 | refine below_set ?_ GE287.out) | exact HB.out)) hb); have n2_ := Aside0.mk (hbox); have n3_ := Aside0.mk ((by rw [hg]; exact (below_size (by repeat (first | (with_reducible first | exact HB.out | apply below_alloc | apply pw_below_drewN | apply below_drew1 | refine below_set ?_ GE287.out) | exact HB.out))) : w.heap.size ≤ gb288)); have n4_ := Aside0.mk ((by rw [hg]; exact (below_size (by repeat (first | (with_reducible first | exact HB.out | apply below_alloc | apply pw_below_drewN | apply below_drew1 | refine below_set ?_ GE287.out) | exact HB.out))) : w.heap.size ≤ gb288)); have n5_ := Aside0.mk ((by rw [hg]; exact Nat.ne_of_lt (blk_lt (g := gb287) (o := .cells #[.int .i64 a0_0, .int .i64 a0_1, .slice A0_2 l0_2.length c0_2] 26 (0, 0)) (by (with_reducible repeat (first | refine blk_drewN ?_ _ | refine blk_drew ?_ | refine blk_alloc ?_ _)); exact BK287.out)) : gb287 ≠ gb288)); have n6_ := Aside0.mk ((by rw [hg]; exact Nat.ne_of_gt (blk_lt (g := gb287) (o := .cells #[.int .i64 a0_0, .int .i64 a0_1, .slice A0_2 l0_2.length c0_2] 26 (0, 0)) (by (with_reducible repeat (first | refine blk_drewN ?_ _ | refine blk_drew ?_ | refine blk_alloc ?_ _)); exact BK287.out)) : gb288 ≠ gb287)); clear BK287; clear HB; have BK287 := n0_; have HB := n1_; have BK288 := n2_; have GW288 := n3_; have GE288 := n4_; have NB287_288 := n5_; have NB288_287 := n6_; clear n0_ n1_ n2_ n3_ n4_ n5_ n6_; clear hb hbox hg; have hnb10 := NB287_288.out; have hnc10 := NB288_287.out; have hcz11_0 : w9.cell? ⟨gb287, 0, none⟩ = some (.int .i64 a0_0) := (blk_cell BK287.out 0).trans rfl; have hcz11_1 : w9.cell? ⟨gb287, 1, none⟩ = some (.int .i64 a0_1) := (blk_cell BK287.out 1).trans rfl; have hcz11_2 : w9.cell? ⟨gb287, 2, none⟩ = some (.slice A0_2 l0_2.length c0_2) := (blk_cell BK287.out 2).trans rfl; have hfz11_0 := blk_frozen BK287.out 0; have hfz11_1 := blk_frozen BK287.out 1; have hfz11_2 := blk_frozen BK287.out 2) | ((with_reducible refine gate_callee (f := 80) rfl ?_); refine goesL_ (some 9) rfl rfl Tryz.func80 (by kernel_rfl) rfl #[.agg #[.int .i64 a0_0, .int .i64 a0_1, .slice A0_2 l0_2.length c0_2]] rfl (by (try simp only [List.map_toArray, List.map_cons, List.map_nil]); first | done | rfl | (simp only [List.length_drop, List.length_take]; rfl)) ?_; (with_reducible refine (herdsmanref1_Own.calls a0_0 a0_1 _ _ l0_2 t289 t290 t291 _ ?side1 ?side2 A4.out).mono ?_); (case side1 => repeat (first | exact (Kd.C_below HR0_2.out HB.out) | (with_reducible refine Kd.C_alloc ?_ _) | (with_reducible refine Kd.C_drewN ?_ _) | (with_reducible refine Kd.C_drew ?_))); (case side2 => exact HC0_2.out); rintro e w12 ⟨v292, rfl, ho0, hb⟩; refine ⟨_, rfl, ?_⟩; have n0_ := Aside0.mk (Kd.R_lower ho0 (below_size (by repeat (first | (with_reducible first | exact HB.out | apply below_alloc | apply pw_below_drewN | apply below_drew1 | refine below_set ?_ GE287.out | refine below_set ?_ GE288.out) | exact HB.out)))); have n1_ := Aside0.mk (blk_below (g := gb287) (o := .cells #[.int .i64 a0_0, .int .i64 a0_1, .slice A0_2 l0_2.length c0_2] 26 (0, 0)) (by (with_reducible repeat (first | refine blk_drewN ?_ _ | refine blk_drew ?_ | refine blk_alloc ?_ _)); exact BK287.out) hb); have n2_ := Aside0.mk (blk_below (g := gb288) (o := .cells #[.int .i64 0, .int .i64 0, .slice none 0 0] 26 (0, 0)) (by (with_reducible repeat (first | refine blk_drewN ?_ _ | refine blk_drew ?_ | refine blk_alloc ?_ _)); exact BK288.out) hb); have n3_ := Aside0.mk (below_step (by repeat (first | (with_reducible first | exact HB.out | apply below_alloc | apply pw_below_drewN | apply below_drew1 | refine below_set ?_ GE287.out | refine below_set ?_ GE288.out) | exact HB.out)) hb); clear BK287; clear BK288; clear HB; have HO293 := n0_; have BK287 := n1_; have BK288 := n2_; have HB := n3_; clear n0_ n1_ n2_ n3_; (try clear hb); (try clear hb2); (try clear hk); (try clear hi); (try clear ho0)) | ((with_reducible refine gate_dst (N := 7) rfl ?_); refine box_event ?hg (N := 7) ?hd (cs := #[.int .i64 0, .int .i64 0, .slice none 0 0]) (t := 26) ?hr ?_; (case hd => rfl); (case hg => rfl); (case hr => first | (go_simp; done) | (go_simp; rfl)); intro gb294 hg w13 hbox hb; have n0_ := Aside0.mk (Kd.R_below (by (with_reducible repeat (first | apply Kd.R_alloc | apply Kd.R_drewN | apply Kd.R_drew)); exact HO293.out) hb); have n1_ := Aside0.mk (blk_below (g := gb287) (o := .cells #[.int .i64 a0_0, .int .i64 a0_1, .slice A0_2 l0_2.length c0_2] 26 (0, 0)) (by (with_reducible repeat (first | refine blk_drewN ?_ _ | refine blk_drew ?_ | refine blk_alloc ?_ _)); exact BK287.out) hb); have n2_ := Aside0.mk (blk_below (g := gb288) (o := .cells #[.int .i64 0, .int .i64 0, .slice none 0 0] 26 (0, 0)) (by (with_reducible repeat (first | refine blk_drewN ?_ _ | refine blk_drew ?_ | refine blk_alloc ?_ _)); exact BK288.out) hb); have n3_ := Aside0.mk (below_step (by repeat (first | (with_reducible first | exact HB.out | apply below_alloc | apply pw_below_drewN | apply below_drew1 | refine below_set ?_ GE287.out | refine below_set ?_ GE288.out) | exact HB.out)) hb); have n4_ := Aside0.mk (hbox); have n5_ := Aside0.mk ((by rw [hg]; exact (below_size (by repeat (first | (with_reducible first | exact HB.out | apply below_alloc | apply pw_below_drewN | apply below_drew1 | refine below_set ?_ GE287.out | refine below_set ?_ GE288.out) | exact HB.out))) : w.heap.size ≤ gb294)); have n6_ := Aside0.mk ((by rw [hg]; exact (below_size (by repeat (first | (with_reducible first | exact HB.out | apply below_alloc | apply pw_below_drewN | apply below_drew1 | refine below_set ?_ GE287.out | refine below_set ?_ GE288.out) | exact HB.out))) : w.heap.size ≤ gb294)); have n7_ := Aside0.mk ((by rw [hg]; exact Nat.ne_of_lt (blk_lt (g := gb287) (o := .cells #[.int .i64 a0_0, .int .i64 a0_1, .slice A0_2 l0_2.length c0_2] 26 (0, 0)) (by (with_reducible repeat (first | refine blk_drewN ?_ _ | refine blk_drew ?_ | refine blk_alloc ?_ _)); exact BK287.out)) : gb287 ≠ gb294)); have n8_ := Aside0.mk ((by rw [hg]; exact Nat.ne_of_gt (blk_lt (g := gb287) (o := .cells #[.int .i64 a0_0, .int .i64 a0_1, .slice A0_2 l0_2.length c0_2] 26 (0, 0)) (by (with_reducible repeat (first | refine blk_drewN ?_ _ | refine blk_drew ?_ | refine blk_alloc ?_ _)); exact BK287.out)) : gb294 ≠ gb287)); have n9_ := Aside0.mk ((by rw [hg]; exact Nat.ne_of_lt (blk_lt (g := gb288) (o := .cells #[.int .i64 0, .int .i64 0, .slice none 0 0] 26 (0, 0)) (by (with_reducible repeat (first | refine blk_drewN ?_ _ | refine blk_drew ?_ | refine blk_alloc ?_ _)); exact BK288.out)) : gb288 ≠ gb294)); have n10_ := Aside0.mk ((by rw [hg]; exact Nat.ne_of_gt (blk_lt (g := gb288) (o := .cells #[.int .i64 0, .int .i64 0, .slice none 0 0] 26 (0, 0)) (by (with_reducible repeat (first | refine blk_drewN ?_ _ | refine blk_drew ?_ | refine blk_alloc ?_ _)); exact BK288.out)) : gb294 ≠ gb288)); clear HO293; clear BK287; clear BK288; clear HB; have HO293 := n0_; have BK287 := n1_; have BK288 := n2_; have HB := n3_; have BK294 := n4_; have GW294 := n5_; have GE294 := n6_; have NB287_294 := n7_; have NB294_287 := n8_; have NB288_294 := n9_; have NB294_288 := n10_; clear n0_ n1_ n2_ n3_ n4_ n5_ n6_ n7_ n8_ n9_ n10_; clear hb hbox hg; have hnb14 := NB294_287.out; have hnc14 := NB287_294.out; have hnb15 := NB294_288.out; have hnc15 := NB288_294.out; have hcz16_0 : w13.cell? ⟨gb294, 0, none⟩ = some (.int .i64 0) := (blk_cell BK294.out 0).trans rfl; have hcz16_1 : w13.cell? ⟨gb294, 1, none⟩ = some (.int .i64 0) := (blk_cell BK294.out 1).trans rfl; have hcz16_2 : w13.cell? ⟨gb294, 2, none⟩ = some (.slice none 0 0) := (blk_cell BK294.out 2).trans rfl; have hfz16_0 := blk_frozen BK294.out 0; have hfz16_1 := blk_frozen BK294.out 1; have hfz16_2 := blk_frozen BK294.out 2; obtain ⟨Ao17, co17, eo17⟩ := Kd.R_slice HO293.out; subst eo17) | ((with_reducible refine gate_store (t := 26) (p := 7) rfl ?_); refine store_event (t := 26) (p := 7) (v := ?vo_w18) (w1 := (((w13.setCell ⟨gb294, 0, none⟩ (.int .i64 t289)).setCell ⟨gb294, 1, none⟩ (.int .i64 t290)).setCell ⟨gb294, 2, none⟩ (.slice Ao17 t291.length co17))) ?hg ?ho ?hn ?hr ?_; (case ho => rfl); (case hg => rfl); (case hn => rfl); (case hr => first | (go_simp; done) | (go_simp; rfl)); intro w18 hw; have n0_ : Aside0 (Kd.R (Kd.int .u8) 5 w18 w.heap.size (fun _ => True) (.slice Ao17 t291.length co17) t291) := ⟨(by rw [hw]; exact (by (with_reducible repeat (first | apply Kd.R_alloc | apply Kd.R_drewN | apply Kd.R_drew)); exact Kd.R_mono (Kd.R_far (p := ⟨gb294, 2, none⟩) (Kd.R_far (p := ⟨gb294, 1, none⟩) (Kd.R_far (p := ⟨gb294, 0, none⟩) (Kd.R_types HO293.out BK294.out (by decide)) (fun _ hk => hk.2) (.int .i64 t289)) (fun _ hk => hk.2) (.int .i64 t290)) (fun _ hk => hk.2) (.slice Ao17 t291.length co17)) (fun _ hk => trivial)))⟩; have n1_ : Aside0 (w18.heap[gb287]? = some (.cells #[.int .i64 a0_0, .int .i64 a0_1, .slice A0_2 l0_2.length c0_2] 26 (0, 0))) := ⟨(by rw [hw]; exact (by (with_reducible repeat (first | refine blk_drewN ?_ _ | refine blk_drew ?_ | refine blk_alloc ?_ _)); refine blk_far ?_ NB287_294.out _; (with_reducible repeat (first | refine blk_drewN ?_ _ | refine blk_drew ?_ | refine blk_alloc ?_ _)); refine blk_far ?_ NB287_294.out _; (with_reducible repeat (first | refine blk_drewN ?_ _ | refine blk_drew ?_ | refine blk_alloc ?_ _)); refine blk_far ?_ NB287_294.out _; (with_reducible repeat (first | refine blk_drewN ?_ _ | refine blk_drew ?_ | refine blk_alloc ?_ _)); exact BK287.out))⟩; have n2_ : Aside0 (w18.heap[gb288]? = some (.cells #[.int .i64 0, .int .i64 0, .slice none 0 0] 26 (0, 0))) := ⟨(by rw [hw]; exact (by (with_reducible repeat (first | refine blk_drewN ?_ _ | refine blk_drew ?_ | refine blk_alloc ?_ _)); refine blk_far ?_ NB288_294.out _; (with_reducible repeat (first | refine blk_drewN ?_ _ | refine blk_drew ?_ | refine blk_alloc ?_ _)); refine blk_far ?_ NB288_294.out _; (with_reducible repeat (first | refine blk_drewN ?_ _ | refine blk_drew ?_ | refine blk_alloc ?_ _)); refine blk_far ?_ NB288_294.out _; (with_reducible repeat (first | refine blk_drewN ?_ _ | refine blk_drew ?_ | refine blk_alloc ?_ _)); exact BK288.out))⟩; have n3_ : Aside0 (w18.heap[gb294]? = some (.cells #[.int .i64 t289, .int .i64 t290, .slice Ao17 t291.length co17] 26 (0, 0))) := ⟨(by rw [hw]; exact (by (with_reducible repeat (first | refine blk_drewN ?_ _ | refine blk_drew ?_ | refine blk_alloc ?_ _)); refine blk_put (cs := #[.int .i64 t289, .int .i64 t290, .slice none 0 0]) ?_ 2 _ rfl; (with_reducible repeat (first | refine blk_drewN ?_ _ | refine blk_drew ?_ | refine blk_alloc ?_ _)); refine blk_put (cs := #[.int .i64 t289, .int .i64 0, .slice none 0 0]) ?_ 1 _ rfl; (with_reducible repeat (first | refine blk_drewN ?_ _ | refine blk_drew ?_ | refine blk_alloc ?_ _)); refine blk_put (cs := #[.int .i64 0, .int .i64 0, .slice none 0 0]) ?_ 0 _ rfl; (with_reducible repeat (first | refine blk_drewN ?_ _ | refine blk_drew ?_ | refine blk_alloc ?_ _)); exact BK294.out))⟩; have n4_ : Aside0 (Below w.heap.size w w18) := ⟨(by rw [hw]; exact (by repeat (first | (with_reducible first | exact HB.out | apply below_alloc | apply pw_below_drewN | apply below_drew1 | refine below_set ?_ GE287.out | refine below_set ?_ GE288.out | refine below_set ?_ GE294.out) | exact HB.out)))⟩; clear hw; clear HO293; clear BK287; clear BK288; clear BK294; clear HB; have HO293 := n0_; have BK287 := n1_; have BK288 := n2_; have BK294 := n3_; have HB := n4_; clear n0_ n1_ n2_ n3_ n4_; have hcz19_0 : w18.cell? ⟨gb294, 0, none⟩ = some (.int .i64 t289) := (blk_cell BK294.out 0).trans rfl; have hcz19_1 : w18.cell? ⟨gb294, 1, none⟩ = some (.int .i64 t290) := (blk_cell BK294.out 1).trans rfl; have hcz19_2 : w18.cell? ⟨gb294, 2, none⟩ = some (.slice Ao17 t291.length co17) := (blk_cell BK294.out 2).trans rfl; have hfz19_0 := blk_frozen BK294.out 0; have hfz19_1 := blk_frozen BK294.out 1; have hfz19_2 := blk_frozen BK294.out 2; have p7 : 0 ≤ (a1 : Int) := of_decide_eq_true (by first | (with_reducible assumption) | assumption); have q7 : (a1 : Int) < ((t291.length : Int) : Int) := of_decide_eq_true (by first | (with_reducible assumption) | assumption); obtain ⟨go7, co7, eo7, gb7, gl7, cl7, HG7⟩ := Kd.R_form HO293.out (by omega); (first | cases eo7 | (injection eo7 with ea_ en_ ec_; (first | subst ea_ | (injection ea_ with ea_; subst ea_)); subst ec_; clear en_)); have GB7 := Aside0.mk gb7; have GG7 := Aside0.mk HG7; clear gb7 gl7 HG7; obtain ⟨hx7_0, hf7_0⟩ := Kd.R_celln 0 HO293.out (a1 : Int) p7 q7; replace p7 := eq_true p7; replace q7 := eq_true q7; obtain ⟨hy20_, hz20_⟩ := Kd.R_celln 0 HO293.out (a1 : Int) (of_decide_eq_true (by first | (with_reducible assumption) | assumption)) (of_decide_eq_true (by first | (with_reducible assumption) | assumption)); have HP20 := Kd.R_putg HO293.out (a1 : Int) a2) | ((with_reducible refine gate_store (t := 5) (p := 14) rfl ?_); refine store_event (t := 5) (p := 14) (v := ?vo_w21) (w1 := (w18.setCell ⟨go7, (a1 : Int).toNat, none⟩ (.int .u8 a2))) ?hg ?ho ?hn ?hr ?_; (case ho => rfl); (case hg => rfl); (case hn => rfl); (case hr => first | (go_simp; done) | (go_simp; rfl)); intro w21 hw; have hg : w18.grownBy w21 (some go7) := (by rw [hw]; exact HP20.2); have hp_ : Kd.R (Kd.int .u8) 5 w21 w.heap.size (fun _ => True) (.slice (some ⟨go7, 0, none⟩) t291.length co17) y295 := (by rw [hw, Ny295.out]; exact HP20.1); clear HP20; have n0_ := Aside0.mk (blk_grown (g := gb287) (o := .cells #[.int .i64 a0_0, .int .i64 a0_1, .slice A0_2 l0_2.length c0_2] 26 (0, 0)) (by (with_reducible repeat (first | refine blk_drewN ?_ _ | refine blk_drew ?_ | refine blk_alloc ?_ _)); exact BK287.out) hg (Kd.R_ne HO293.out BK287.out (by decide))); have n1_ := Aside0.mk (blk_grown (g := gb288) (o := .cells #[.int .i64 0, .int .i64 0, .slice none 0 0] 26 (0, 0)) (by (with_reducible repeat (first | refine blk_drewN ?_ _ | refine blk_drew ?_ | refine blk_alloc ?_ _)); exact BK288.out) hg (Kd.R_ne HO293.out BK288.out (by decide))); have n2_ := Aside0.mk (hp_); have n3_ := Aside0.mk (blk_grown (g := gb294) (o := .cells #[.int .i64 t289, .int .i64 t290, .slice (some ⟨go7, 0, none⟩) t291.length co17] 26 (0, 0)) (by (with_reducible repeat (first | refine blk_drewN ?_ _ | refine blk_drew ?_ | refine blk_alloc ?_ _)); exact BK294.out) hg (Kd.R_ne HO293.out BK294.out (by decide))); have n4_ := Aside0.mk ((by rw [hw]; exact below_set (HB.out) GB7.out : Below w.heap.size w w21)); clear BK287; clear BK288; clear HO293; clear BK294; clear HB; have BK287 := n0_; have BK288 := n1_; have HO293 := n2_; have BK294 := n3_; have HB := n4_; clear n0_ n1_ n2_ n3_ n4_; clear hg hw hp_; have hcz22_0 : w21.cell? ⟨gb294, 0, none⟩ = some (.int .i64 t289) := (blk_cell BK294.out 0).trans rfl; have hcz22_1 : w21.cell? ⟨gb294, 1, none⟩ = some (.int .i64 t290) := (blk_cell BK294.out 1).trans rfl; have hcz22_2 : w21.cell? ⟨gb294, 2, none⟩ = some (.slice (some ⟨go7, 0, none⟩) t291.length co17) := (blk_cell BK294.out 2).trans rfl; have hfz22_0 := blk_frozen BK294.out 0; have hfz22_1 := blk_frozen BK294.out 1; have hfz22_2 := blk_frozen BK294.out 2; have hcz23_0 : w21.cell? ⟨gb288, 0, none⟩ = some (.int .i64 0) := (blk_cell BK288.out 0).trans rfl; have hcz23_1 : w21.cell? ⟨gb288, 1, none⟩ = some (.int .i64 0) := (blk_cell BK288.out 1).trans rfl; have hcz23_2 : w21.cell? ⟨gb288, 2, none⟩ = some (.slice none 0 0) := (blk_cell BK288.out 2).trans rfl; have hfz23_0 := blk_frozen BK288.out 0; have hfz23_1 := blk_frozen BK288.out 1; have hfz23_2 := blk_frozen BK288.out 2))
   refine bodyPost_ret (results_cell_row rfl _ _ gb288 26 #[.int .i64 t289, .int .i64 t290, .slice (some ⟨go7, 0, none⟩) t291.length co17] (0, 0) _ rfl (by (with_reducible repeat (first | refine blk_drewN ?_ _ | refine blk_drew ?_ | refine blk_alloc ?_ _)); refine blk_put (cs := #[.int .i64 t289, .int .i64 t290, .slice none 0 0]) ?_ 2 _ rfl; (with_reducible repeat (first | refine blk_drewN ?_ _ | refine blk_drew ?_ | refine blk_alloc ?_ _)); refine blk_put (cs := #[.int .i64 t289, .int .i64 0, .slice none 0 0]) ?_ 1 _ rfl; (with_reducible repeat (first | refine blk_drewN ?_ _ | refine blk_drew ?_ | refine blk_alloc ?_ _)); refine blk_put (cs := #[.int .i64 0, .int .i64 0, .slice none 0 0]) ?_ 0 _ rfl; (with_reducible repeat (first | refine blk_drewN ?_ _ | refine blk_drew ?_ | refine blk_alloc ?_ _)); exact BK288.out) Tryz.underlying26 rfl (by kernel_rfl)) rfl ?_
   exact ⟨_, by first | rfl | (simp [errW_none, errW_some] <;> rfl) | (simp [*, errW_none, errW_some] <;> rfl), by (with_reducible repeat (first | apply Kd.R_alloc | apply Kd.R_drewN | apply Kd.R_drew)); exact Kd.R_mono (Kd.R_far (p := ⟨gb288, 2, none⟩) (Kd.R_far (p := ⟨gb288, 1, none⟩) (Kd.R_far (p := ⟨gb288, 0, none⟩) (Kd.R_types HO293.out BK288.out (by decide)) (fun _ hk => hk.2) (.int .i64 t289)) (fun _ hk => hk.2) (.int .i64 t290)) (fun _ hk => hk.2) (.slice (some ⟨go7, 0, none⟩) t291.length co17)) (fun _ hk => trivial), by repeat (first | (with_reducible first | exact HB.out | apply below_alloc | apply pw_below_drewN | apply below_drew1 | refine below_set ?_ GE287.out | refine below_set ?_ GE288.out | refine below_set ?_ GE294.out) | exact HB.out)⟩
  ·rw [if_neg c6] at H
   exact absurd H (by simp)
 ·rw [if_neg c5] at H
  exact absurd H (by simp)
end
end Go.Proofs.YthgehdembghdaaaGreat.P
namespace Go.Proofs.YthgehdembghdaaaGreat.P
open Go.RowKit Go.Proofs.YthgehdembghdaaaGreatW.PrintWords Go.Proofs.YthgehdembghdaaaGreatW.PrintLast Go.Proofs.YthgehdembghdaaaGreatW.PrintMore
open Go.Proofs.YthgehdembghdaaaGreat.Geo Go.Proofs.YthgehdembghdaaaGreat.Dist
set_option linter.unusedVariables false
set_option linter.unusedSimpArgs false
variable {w w' wr w2 : World} {g : Gb} {s : GridS} {m : Mb} {x : MeshS} {W H : Int} {C : List Int} {gt mb cb : Nat}
theorem rd_other {C : List Int} {c : Nat} {y : Int} {d : Int} (hd : 0 ≤ d) (hne : d ≠ (c : Int)) : rd (C.set c y) d = rd C d := by
 obtain ⟨n, rfl⟩ : ∃ n : Nat, d = n := ⟨d.toNat, by omega⟩
 by_cases h : n < C.length
 ·rw [rd_set' _ _ _ _ h, if_neg (by omega)]
 ·unfold rd
  rw [List.getD_eq_getElem?_getD, List.getD_eq_getElem?_getD, List.getElem?_eq_none (by simpa using h), List.getElem?_eq_none (by simpa using h)]
theorem tile_set (h : Dim W H) {i : Int} (hi : inS W H i) {c : Nat} (hc : sec W (c : Int) ≠ i) (y : Int) : tileL W H (C.set c y) i = tileL W H C i ∧ nodesL W H (C.set c y) i = nodesL W H C i := by
 have key : ∀ d, d ∈ gloL W H i → rd (C.set c y) d = rd C d := by
  intro d hd
  have q := (mem_gloL h hi).1 hd
  exact rd_other q.1.1 (fun e => hc (by rw [← e]; exact q.2))
 constructor
 ·unfold tileL
  exact List.map_congr_left key
 ·unfold nodesL
  refine List.filter_congr (fun d hd => ?_)
  rw [key d hd]
theorem part_set (h : Dim W H) {i : Int} (hi : inS W H i) {c : Nat} (hc : sec W (c : Int) ≠ i) (y : Int) {p : Part} (hp : PartOk W H C i p) : PartOk W H (C.set c y) i p := by
 obtain ⟨e1, e2⟩ := tile_set (C := C) h hi hc y
 refine ⟨by rw [e2]; exact hp.nodes, hp.dlen, fun a b ha hb => ?_⟩
 rw [hp.dist a b ha hb]
 unfold distN
 rw [e1]
def KP (s : GridS) (x : MeshS) : Prop := ∀ i : Nat, i < x.ps.length → ¬ dirtyI s x i → PartOk s.W s.H s.C (i : Int) (x.ps.getD i default)
theorem KP.edit {cl n i : Nat} (h : KP s x) (hd : DInv s x W H cl n i) (hdim : Dim s.W s.H) (hv : s.V.length = n) (hx : (x.ps.length : Int) = cnt s.W s.H) {c : Nat} (hc : (c : Int) < s.W * s.H) (y : Int) : KP (gEd s c y) x := by
 intro j hj hn
 have r := sec_rng hdim (c := (c : Int)) (by omega) hc
 have e := hd.dirty hv c y rfl j (by rw [← hd.len]; exact hj)
 have hn1 : ¬ dirtyI s x j := fun q => hn (e.2 (.inl q))
 have hn2 : (j : Nat) ≠ (sec s.W (c : Int)).toNat := fun q => hn (e.2 (.inr q))
 exact part_set hdim ⟨by omega, by omega⟩ (fun q => hn2 (by omega)) y (h j hj hn1)
theorem Fresh.kp (h : Fresh s x) : KP s x := fun i hi _ => h.part i hi
theorem KP.reb {x' : MeshS} (h : KP s x) (hok : MapOk s.W s.H s.C) (hl : (x'.ps.length : Int) = cnt s.W s.H) (hr : RebR s x x') : Fresh s x' := by
 refine ⟨hok, hl, fun i hi => ?_⟩
 rw [hr.len] at hi
 by_cases q : dirtyI s x i
 ·exact (hr.new i hi q).2
 ·rw [hr.old i hi q]; exact h i hi q
theorem kinv0 {n cl : Nat} (hok : MapOk W H C) (hn : (n : Int) = cnt W H) (hc : cl = C.length) : DInv (grid0 W H C) (mesh0 W H) W H cl n 0 := by
 have e : (cnt W H).toNat = n := by omega
 refine ⟨⟨rfl, rfl, hc.symm⟩, by show (List.replicate _ _).length = n; rw [List.length_replicate, e], fun j hj => ?_, fun j hj => ?_, by show (0 : Int) ≤ 1; omega, fun q => absurd (show (0 : Int) = 1 from q) (by omega), by show (1 : Int) ≤ 1 + ((0 : Nat) : Int); omega, by show (0 : Int) ≤ 4096 * ((0 : Nat) : Int); omega⟩
 ·show ((List.replicate (cnt W H).toNat (default : Part)).getD j default).ver ≤ 1
  rw [e, List.getD_eq_getElem?_getD, List.getElem?_replicate, if_pos hj]
  decide
 ·show rd (List.replicate (cnt W H).toNat 1) (j : Int) ≤ 1
  rw [e, rd_get _ (by simpa using hj), List.getElem_replicate]
  decide
theorem WayM.store {w3 : World} {mb' cb' : Nat} {C' : List Int} (h : WayM w wr g m s x W H gt mb cb C) (hb : Below wr.heap.size wr w3) (hr : Kd.R (Kd.int .u8) 5 w3 wr.heap.size (fun _ => True) (.slice (some ⟨mb', 0, none⟩) C'.length cb') C') :
  WayM w (((w3.setCell ⟨gt, 0, none⟩ (.int .i64 W)).setCell ⟨gt, 1, none⟩ (.int .i64 H)).setCell ⟨gt, 2, none⟩ (.slice (some ⟨mb', 0, none⟩) C'.length cb')) g m s x W H gt mb' cb' C' := by
 have h3 := h.go hb
 have hc34 : Chg (fun b => b = gt) w3 (((w3.setCell ⟨gt, 0, none⟩ (.int .i64 W)).setCell ⟨gt, 1, none⟩ (.int .i64 H)).setCell ⟨gt, 2, none⟩ (.slice (some ⟨mb', 0, none⟩) C'.length cb')) := (((Chg.refl (fun b => b = gt) w3).set_ (.inl rfl) _).set_ (.inl rfl) _).set_ (.inl rfl) _
 have hlow : wr.heap.size ≤ mb' := Kd.R_base hr mb' rfl
 have hgl : gt < wr.heap.size := blk_lt h.box
 have hr3 : Kd.R (Kd.int .u8) 5 w3 w.heap.size (fun b => b = mb') (.slice (some ⟨mb', 0, none⟩) C'.length cb') C' := by
  obtain ⟨h0, inner, ho, hrr⟩ := Kd.R_lower hr h.below.size
  exact ⟨fun k hk => by simp [Value.ownBlock] at hk; exact hk.symm, inner, ho, hrr.imp_ (fun _ _ hp => hp)⟩
 refine ⟨h3.net.chg hc34 (fun b hb e => by subst e; exact h3.net.notown h3.box (.inl rfl) hb) (by rintro k rfl cs; exact ⟨typ_ne h3.box (by decide), typ_ne h3.box (by decide)⟩), set_blk (set_blk (set_blk h3.box 0 _) 1 _) 2 _, hc34.R hr3 (fun k hk q => by subst hk; omega), fun b hb2 => ⟨(h.low b hb2).1, fun e => ?_⟩, ?_, h.gtl⟩
 ·have hl : b < wr.heap.size := by
   obtain ⟨cs, t, h1, _⟩ := h.net.odds hb2
   exact blk_lt h1
  omega
 ·exact ((h3.below.setCell h.gtl _).setCell h.gtl _).setCell h.gtl _
theorem edited_some {c : Nat} {y : Int} (hc : c < C.length) (hl : C.length ≤ 1048576) : herdsmanref11_Edited.f W H C (c : Int) y = some (W, H, C.set c y) := by
 unfold herdsmanref11_Edited.f herdsmanref1_Own.f
 rw [Option.bind_some, if_pos (by simp; omega), Option.bind_some]
 dsimp only
 rw [List.nil_append, if_pos (by omega), if_pos (by omega), Int.toNat_natCast]
theorem within_nat (x : Int) {n : Nat} (h : 1 ≤ n) (hn : n ≤ 1048576) : ∃ p : Nat, p < n ∧ herdsmanref1_Within.f x 0 ((n : Int) - 1) = some (p : Int) := by
 have hw := within_some x (lo := 0) (hi := (n : Int) - 1) (by omega) (by omega) (by omega)
 have r0 := Int.emod_nonneg x (show (n : Int) - 1 - 0 + 1 ≠ 0 by omega)
 have r1 := Int.emod_lt_of_pos x (show 0 < (n : Int) - 1 - 0 + 1 by omega)
 refine ⟨(0 + x % ((n : Int) - 1 - 0 + 1)).toNat, by omega, ?_⟩
 rw [hw, Int.toNat_of_nonneg (by omega)]
end Go.Proofs.YthgehdembghdaaaGreat.P
namespace Go.Proofs.YthgehdembghdaaaGreat.P
open Go.RowKit Go.Proofs.YthgehdembghdaaaGreatW.PrintWords Go.Proofs.YthgehdembghdaaaGreatW.PrintLast Go.Proofs.YthgehdembghdaaaGreatW.PrintMore
open Go.Proofs.YthgehdembghdaaaGreat.Geo Go.Proofs.YthgehdembghdaaaGreat.Dist
set_option linter.unusedVariables false
set_option linter.unusedSimpArgs false
variable {C : List Int} {w w' wr w2 w3 : World} {g : Gb} {s : GridS} {m : Mb} {x : MeshS} {W H : Int} {gt mb cb fb n i : Nat} {kp : Option Addr} {cn : Int}
structure RW (w wr : World) (g : Gb) (m : Mb) (s : GridS) (x : MeshS) (fb : Nat) (kp : Option Addr) (cn : Int) (W H : Int) (gt mb cb : Nat) (C : List Int) (n i : Nat) : Prop where
 way : WayM w wr g m s x W H gt mb cb C
 fin : wr.heap[fb]? = some (finB m g kp cn)
 low : w.heap.size ≤ fb
 inv : DInv s x W H C.length n i
 kp : KP s x
 small : C.length ≤ 3600
 num : 0 ≤ cn ∧ cn ≤ i ∧ i ≤ 1000
theorem RW.go (h : RW w wr g m s x fb kp cn W H gt mb cb C n i) (hb : Below wr.heap.size wr w2) : RW w w2 g m s x fb kp cn W H gt mb cb C n i := ⟨h.way.go hb, blk_step h.fin hb, h.low, h.inv, h.kp, h.small, h.num⟩
theorem WayM.stepF {s2 : GridS} {x2 : MeshS} {C : List Int} (h : WayM w wr g m s x W H gt mb cb C) (hfb : wr.heap[fb]? = some (finB m g kp cn)) (hl : w.heap.size ≤ fb) (hn : Net w2 g m s2 x2) (hc : Chg (fun b => m.own b ∨ b = fb) wr w2) : WayM w w2 g m s2 x2 W H gt mb cb C := by
 have ngt : ¬ (m.own gt ∨ gt = fb) := by
  rintro (q | rfl)
  ·exact h.net.notown h.box (.inl rfl) (.inr q)
  ·exact blk_ne hfb h.box (by decide) rfl
 have nmb : ¬ (m.own mb ∨ mb = fb) := by
  rintro (q | rfl)
  ·exact (h.low mb (.inr q)).2 rfl
  ·obtain ⟨cs, hcs⟩ := Kd.R_typed h.row mb rfl
   exact blk_ne hfb hcs (by decide) rfl
 exact ⟨hn, hc.blk h.box ngt, hc.R h.row (fun k hk q => by subst hk; exact nmb q), h.low, h.below.trans (hc.below (fun b hb => hb.elim (fun q => (h.low b (.inr q)).1) (fun e => by subst e; exact hl)) h.below.size), h.gtl⟩
theorem RW.start {w1 : World} {C : List Int} (hok : MapOk W H C) (hs : C.length ≤ 3600) (hn : (n : Int) = cnt W H) (hb1 : Below w.heap.size w w1) (hrow : Kd.R (Kd.int .u8) 5 w1 w.heap.size (fun _ => True) (.slice (some ⟨mb, 0, none⟩) C.length cb) C) (hbox : w1.heap[gt]? = some (.cells #[.int .i64 W, .int .i64 H, .slice (some ⟨mb, 0, none⟩) C.length cb] 26 (0, 0))) (hgt : w.heap.size ≤ gt) (hf : FinR w1 w2 W H C g m fb) : RW w w2 g m (grid0 W H C) (mesh0 W H) fb none 0 W H gt mb cb C n 0 := by
 have hs1 := hb1.size
 have hmlt : mb < w1.heap.size := by
  obtain ⟨cs, hcs⟩ := Kd.R_typed hrow mb rfl
  exact blk_lt hcs
 have hr3 : Kd.R (Kd.int .u8) 5 w2 w.heap.size (fun b => b = mb) (.slice (some ⟨mb, 0, none⟩) C.length cb) C := by
  obtain ⟨h0, inner, ho, hr⟩ := Kd.R_below hrow hf.below
  exact ⟨fun k hk => by simp [Value.ownBlock] at hk; exact hk.symm, inner, ho, hr.imp_ (fun _ _ hp => hp)⟩
 refine ⟨⟨hf.net, blk_step hbox hf.below, hr3, fun b hb => ⟨Nat.le_trans hs1 (hf.low.1 b hb), fun e => by have := hf.low.1 b hb; omega⟩, below_step hb1 hf.below, hgt⟩, hf.box, Nat.le_trans hs1 hf.low.2, kinv0 hok hn rfl, fun j hj hnd => ?_, hs, by omega⟩
 have hm := mesh0_len (W := W) (H := H) hn
 rw [hm] at hj
 exact absurd (dirty_first hn hj) hnd
def OldK (wr : World) (kp : Option Addr) (s : GridS) (t : Int) : Prop := kp = none ∨ ∃ rb0 db0 r0, kp = some ⟨rb0, 0, none⟩ ∧ RtM wr rb0 db0 r0 ∧ (r0.goal ≠ t ∨ r0.goal = t ∧ r0.ep ≠ s.ep)
theorem RW.find (h : RW w wr g m s x fb kp cn W H gt mb cb C n i) (hk : i < 1000) {t : Int} (ht : inC s t) (ho : OldK wr kp s t) : Calls Tryz.prog 41 #[.pointer (some ⟨fb, 0, none⟩), .int .i64 t] wr fun e w' => ∃ rb db d x' D, e = .returned (.pointer (some ⟨rb, 0, none⟩)) ∧ RW w w' g m s x' fb (some ⟨rb, 0, none⟩) (cn + 1) W H gt mb cb C n (i + 1) ∧ RtM w' rb db ⟨t, s.ep, d⟩ ∧ FlatD s.W s.H s.C t D ∧ RtOk s.W s.H s.C D d ∧ Fresh s x' ∧ (wr.heap.size ≤ rb ∧ wr.heap.size ≤ db) ∧ Chg (fun b => m.own b ∨ b = fb) wr w' := by
 have hok := h.way.net.grid.ok
 obtain ⟨D, hD⟩ := flatD_ex (t := t) hok ht
 have hc := h.inv.cnt
 have hnm := h.num
 have hil := h.inv.len
 refine (find_new h.way.net (by omega) (fun q => by rw [hil]; exact h.inv.clq q) (fun x' hr hl => h.kp.reb hok hl hr) h.fin (by omega) ho ht hD (by rw [h.inv.dims.2.2]; exact h.small)).mono ?_
 rintro e w' ⟨rb, db, d, x', rfl, hn, hr, hrt, hb, hlow, hch, hdl, hd⟩
 have hfr : Fresh s x' := h.kp.reb hok hn.len hr
 have hcl := cnt_le hok.dim
 have hnl := h.way.net.len
 refine ⟨rb, db, d, x', D, rfl, ⟨h.way.stepF h.fin h.low hn hch, hb, h.low, h.inv.weak.reb h.inv.cnt (by omega) hr, hfr.kp, h.small, by omega⟩, hrt, hD, rtOk_of hfr hdl hd, hfr, hlow, hch⟩
theorem RW.edit (h : RW w wr g m s x fb kp cn W H gt mb cb C n i) (hk : i < 1000) {c : Nat} (hc : c < s.C.length) {y : Int} (hg : GridM w2 g (gEd s c y)) (hch : Chg g.own wr w2) : RW w w2 g m (gEd s c y) x fb kp cn W H gt mb cb C n (i + 1) := by
 have hgr := h.way.net.grid
 have hil := h.inv.len
 have hxl := h.way.net.len
 have hvl := hgr.vlen
 have hnm := h.num
 exact ⟨h.way.step (h.way.net.edit hg hch rfl) (hch.mono (fun b hb => .inl hb)), hch.blk h.fin (fun q => h.way.net.out h.fin (by decide) (by decide) (by decide) (by decide) (by decide) (.inl q)), h.low, h.inv.edit (by omega) c y, h.kp.edit h.inv hgr.ok.dim (by omega) hxl (c := c) (by have := hgr.ok.len; omega) y, h.small, by omega⟩
theorem RtM.own2 {rb db : Nat} {r : RtS} (hn : Net wr g m s x) (h : RtM wr rb db r) : ¬ own2 g m rb ∧ ¬ own2 g m db := by
 obtain ⟨cs, hcs⟩ := h.row.typ
 exact ⟨hn.out h.box (by decide) (by decide) (by decide) (by decide) (by decide), hn.out hcs (by decide) (by decide) (by decide) (by decide) (by decide)⟩
theorem gt_chg {mb' cb' : Nat} {C' : List Int} (w3 : World) : Chg (fun b => b = gt) w3 (((w3.setCell ⟨gt, 0, none⟩ (.int .i64 W)).setCell ⟨gt, 1, none⟩ (.int .i64 H)).setCell ⟨gt, 2, none⟩ (.slice (some ⟨mb', 0, none⟩) C'.length cb')) := (((Chg.refl (fun b => b = gt) w3).set_ (.inl rfl) _).set_ (.inl rfl) _).set_ (.inl rfl) _
theorem RtM.ofGt {rb db : Nat} {r : RtS} (h : RtM wr rb db r) {cs : Array Value} (hx : wr.heap[gt]? = some (.cells cs 26 (0, 0))) (hc : Chg (fun b => b = gt) wr w2) : RtM w2 rb db r := by
 obtain ⟨cs2, hcs⟩ := h.row.typ
 exact h.chg hc (fun e => by subst e; exact blk_ne hx h.box (by decide) rfl) (fun e => by subst e; exact blk_ne hx hcs (by decide) rfl)
theorem RW.store {mb' cb' : Nat} {C' : List Int} (h : RW w wr g m s x fb kp cn W H gt mb cb C n i) (hb : Below wr.heap.size wr w3) (hr : Kd.R (Kd.int .u8) 5 w3 wr.heap.size (fun _ => True) (.slice (some ⟨mb', 0, none⟩) C'.length cb') C') (hl : C'.length = C.length) :
  RW w (((w3.setCell ⟨gt, 0, none⟩ (.int .i64 W)).setCell ⟨gt, 1, none⟩ (.int .i64 H)).setCell ⟨gt, 2, none⟩ (.slice (some ⟨mb', 0, none⟩) C'.length cb')) g m s x fb kp cn W H gt mb' cb' C' n i := by
 have h3 := h.go hb
 exact ⟨h.way.store hb hr, (gt_chg (W := W) (H := H) (gt := gt) (mb' := mb') (cb' := cb') (C' := C') w3).blk h3.fin (fun e => by subst e; exact blk_ne h3.fin h3.way.box (by decide) rfl), h.low, by rw [hl]; exact h.inv, h.kp, by rw [hl]; exact h.small, h.num⟩
end Go.Proofs.YthgehdembghdaaaGreat.P
namespace Go.Proofs.YthgehdembghdaaaGreat.P
open Go.RowKit Go.Proofs.YthgehdembghdaaaGreatW.PrintWords Go.Proofs.YthgehdembghdaaaGreatW.PrintLast Go.Proofs.YthgehdembghdaaaGreatW.PrintMore
open Go.Proofs.YthgehdembghdaaaGreat.Geo Go.Proofs.YthgehdembghdaaaGreat.Dist
set_option linter.unusedVariables false
set_option linter.unusedSimpArgs false
variable {w w' wr w2 : World} {g : Gb} {s : GridS} {m : Mb} {x : MeshS} {C : List Int} {kp : Option Addr} {cn W H : Int} {gt mb cb fb n j : Nat}
def OldE (w : World) (kp : Option Addr) (e : Int) : Prop := kp = none ∨ ∃ rb0 db0 r0, kp = some ⟨rb0, 0, none⟩ ∧ RtM w rb0 db0 r0 ∧ r0.ep < e
theorem OldE.oldK (h : OldE w kp s.ep) (t : Int) : OldK w kp s t := by
  rcases h with h | ⟨rb, db, r, h1, h2, h3⟩
  · exact .inl h
  · refine .inr ⟨rb, db, r, h1, h2, ?_⟩
    by_cases q : r.goal = t
    · exact .inr ⟨q, by omega⟩
    · exact .inl q
theorem OldE.imp {e e2 : Int} (h : OldE w kp e) (he : e ≤ e2) (hr : ∀ rb db r, RtM w rb db r → RtM w' rb db r) : OldE w' kp e2 := by
  rcases h with h | ⟨rb, db, r, h1, h2, h3⟩
  · exact .inl h
  · exact .inr ⟨rb, db, r, h1, hr rb db r h2, by omega⟩
theorem OldE.below {e : Int} (h : OldE w kp e) (hb : Below w.heap.size w w') : OldE w' kp e := h.imp (Int.le_refl _) (fun _ _ _ q => q.below hb)
set_option maxRecDepth 1000000 in
set_option maxHeartbeats 8000000 in
theorem routeExact_calls (w0 h0 : Int) (A2 : Option Addr) (c2 : Nat) (l2 : List Int) (Al : Option Addr) (cL : Nat) (l : List S53) (goal : Int) (w : World)
    (hr : Kd.C (Kd.int .u8) w A2 l2.length l2) (hc2 : l2.length ≤ c2) (hb2 : ∀ y ∈ l2, 0 ≤ y ∧ y ≤ 255) (hl2 : l2.length ≤ 140737488355328) (hl : Kd.C k53 w Al l.length l) :
    Calls Tryz.prog 10 #[.int .i64 w0, .int .i64 h0, .slice A2 l2.length c2, .slice Al l.length cL, .int .i64 goal] w fun e w' => e = .returned (.bool true) ∧ Below w.heap.size w w' := by
  obtain ⟨W, H, C, hmd, hW, hH, hok⟩ := made_some w0 h0 l2 hb2 hl2
  have hu26 := Tryz.underlying26
  have HR := Aside0.mk hr
  have HC2 := Aside0.mk hc2
  have HMD := Aside0.mk (hmd 2000 (Nat.le_refl _))
  have HOK := Aside0.mk hok
  have HL := Aside0.mk hl
  have hcnt := cnt_le HOK.out.dim
  obtain ⟨n, hn⟩ : ∃ n : Nat, (n : Int) = cnt W H := ⟨(cnt W H).toNat, by omega⟩
  have HN := Aside0.mk hn
  have hcl : 1 ≤ C.length ∧ C.length ≤ 1600 := by have := HOK.out.len; have := mul_smallM hW hH; omega
  have HCL := Aside0.mk hcl
  obtain ⟨t, htc, hwt⟩ := within_nat goal (n := C.length) (by omega) (by omega)
  have HWT := Aside0.mk hwt
  have HTU : Aside0 (t < C.length ∧ inC (grid0 W H C) (t : Int)) := ⟨htc, ⟨by omega, by have := HOK.out.len; show (t : Int) < W * H; omega⟩⟩
  have HPOS : Aside0 (0 < C.length) := ⟨by omega⟩
  have iw : IntKind.i64.wrap ((C.length : Int) - 1) = (C.length : Int) - 1 := by rw [IntKind.wrap_i64]; omega
  clear hr hc2 hmd hok hl hb2 hl2 hW hH hcnt hn hcl htc hwt
  go_enter Tryz.func10, Tryz.ntmps10
  go_upto_region 2 with (go_at_call 38; refine (herdsmanref1_Made.calls 2000 w0 h0 A2 c2 l2 W H C _ HR.out HC2.out HMD.out).mono ?_; rintro e w2 ⟨v2, rfl, ho, hb⟩; obtain ⟨mb, cb, rfl, hmb, hml, hmt⟩ := Kd.R_form ho HPOS.out; have HO2 := Aside0.mk ho; have HB2 := Aside0.mk hb; clear ho hb hmb hml hmt)
  have hx := heap_alloc_new w2 (.cells #[.int .i64 W, .int .i64 H, .slice (some ⟨mb, 0, none⟩) C.length cb] 26)
  have HX3 := Aside0.mk hx
  have hb3 := below_alloc (Below.refl w2.heap.size w2) (.cells #[.int .i64 W, .int .i64 H, .slice (some ⟨mb, 0, none⟩) C.length cb] 26)
  have HB3 := Aside0.mk (below_step HB2.out hb3)
  have HO3 := Aside0.mk (Kd.R_below HO2.out hb3)
  have HGT := Aside0.mk HB2.out.size
  have t0 := cell_blk (j := 0) (u := .int .i64 W) hx rfl
  have t1 := cell_blk (j := 1) (u := .int .i64 H) hx rfl
  have t2 := cell_blk (j := 2) (u := .slice (some ⟨mb, 0, none⟩) C.length cb) hx rfl
  clear hx hb3 HO2 HR HMD
  generalize w2.alloc (.cells #[.int .i64 W, .int .i64 H, .slice (some ⟨mb, 0, none⟩) C.length cb] 26) = w3 at *
  generalize w2.heap.size = gt at *
  go_upto_region 5 with (go_at_call 47; refine (finder_calls HOK.out ⟨mb, 0, none⟩ cb _ (Kd.R_reads' HO3.out).2.2 (Kd.R_reads' HO3.out).2.1).mono ?_; rintro e w4 ⟨g, m, fb, rfl, hf⟩; have HRW4 := Aside0.mk (RW.start HOK.out (by have := HCL.out; omega) HN.out HB3.out HO3.out HX3.out HGT.out hf); clear hf)
  clear t0 t1 t2
  have t2 := cell_blk (j := 2) (u := .slice (some ⟨mb, 0, none⟩) C.length cb) HRW4.out.way.box rfl
  go_upto_region 6 with (go_at_call 19; refine (herdsmanref1_Within.calls goal 0 ((C.length : Int) - 1) (t : Int) _ HWT.out).mono ?_; rintro e w5 ⟨rfl, hd⟩; have HRW5 := Aside0.mk (HRW4.out.go hd.below); clear hd)
  clear t2 HRW4
  go_wp2_with fail
  go_loopg [15] 12 (fun gg v15 wr => ∃ (i j : Nat) (s : GridS) (x : MeshS) (kp : Option Addr) (cn : Int) (mb cb : Nat) (C' : List Int), v15 = .int .i64 (i : Int) ∧ i ≤ 12 ∧ 12 - i ≤ gg ∧ Aside0 (RW w wr g m s x fb kp cn W H gt mb cb C' n j ∧ s.C = C' ∧ C'.length = C.length ∧ OldE wr kp s.ep ∧ j ≤ 2 * i))
  case atStart => exact ⟨0, 0, _, _, _, _, mb, cb, C, rfl, by omega, by omega, ⟨HRW5.out, rfl, rfl, .inl rfl, by omega⟩⟩
  case round =>
    clear HRW5
    obtain ⟨i, j, s, x, kp, cn, mb, cb, C', rfl, hi, hgg, HS⟩ := hrel
    have HT1 : Aside0 (inC s (t : Int)) := ⟨by have h1 := HS.out.1.inv.dims; have h2 := HTU.out.2; unfold inC at h2 ⊢; rw [h1.1, h1.2.1]; exact h2⟩
    by_cases hlt : i < l.length ∧ i < 12
    · have d1 : (i : Int) < (l.length : Int) := by omega
      have d2 : (i : Int) < 12 := by omega
      have d0 : (0 : Int) ≤ (i : Int) := by omega
      have HJ : Aside0 (j ≤ 2 * i ∧ i < 12) := ⟨HS.out.2.2.2.2, hlt.2⟩
      have HI := Aside0.mk (And.intro hi (And.intro hgg hlt))
      clear hi hgg hlt
      by_cases h5 : i = 5
      all_goals (first
        | (have e5 : ((i : Int) == 5) = true := by rw [beq_iff_eq]; omega
           clear h5
           go_upto_region 11 with (go_at_call 41; refine (HS.out.1.find (by have := HJ.out; omega) HT1.out (HS.out.2.2.2.1.oldK t)).mono ?_; rintro e wz ⟨rb, db, d, x6, D, rfl, hrw, hrt, hD, hrok, hfr, hlow, hch⟩; have HZ : Aside0 (∃ xz kpz cnz jz, RW w wz g m s xz fb kpz cnz W H gt mb cb C' n jz ∧ jz ≤ 2 * i + 1 ∧ OldE wz kpz (s.ep + 1)) := ⟨⟨_, _, _, _, hrw, by have := HJ.out; omega, .inr ⟨rb, db, _, rfl, hrt, by show s.ep < s.ep + 1; omega⟩⟩⟩; clear hrw hrt hD hrok hfr hlow hch))
        | (have e5 : ((i : Int) == 5) = false := by rw [beq_eq_false_iff_ne]; omega
           clear h5
           go_upto_region 11 with fail
           have HZ : Aside0 (∃ xz kpz cnz jz, RW w wr g m s xz fb kpz cnz W H gt mb cb C' n jz ∧ jz ≤ 2 * i + 1 ∧ OldE wr kpz (s.ep + 1)) := ⟨⟨_, _, _, _, HS.out.1, by have := HJ.out; omega, HS.out.2.2.2.1.imp (by omega) (fun _ _ _ q => q)⟩⟩
           generalize wr = wz at *))
      all_goals (
        clear e5
        have HSC : Aside0 (s.C = C' ∧ C'.length = C.length) := ⟨⟨HS.out.2.1, HS.out.2.2.1⟩⟩
        clear HS
        obtain ⟨xz, kpz, cnz, jz, hz1, hz2, hz3⟩ := HZ.out
        have HRW := Aside0.mk hz1
        have HJZ := Aside0.mk hz2
        have HOE := Aside0.mk hz3
        clear HZ hz1 hz2 hz3
        obtain ⟨adl, hAl, q0, q1⟩ := at_T53 (Kd.C_below HL.out HRW.out.way.below) (i : Int) (by omega) d1
        subst hAl
        rw [Int.toNat_natCast] at q0 q1
        obtain ⟨a0, ha⟩ : ∃ a, a = (rd_T53 l (i : Int)).f0 := ⟨_, rfl⟩
        obtain ⟨b0, hb⟩ : ∃ b, b = (rd_T53 l (i : Int)).f1 := ⟨_, rfl⟩
        rw [← ha] at q0
        rw [← hb] at q1
        have hCl := HSC.out.2
        obtain ⟨c, hc, hwc⟩ := within_nat a0 (n := C'.length) (by have := HCL.out; omega) (by have := HCL.out; omega)
        obtain ⟨y, hwy, hy1, hy2⟩ := cost_some (a := IntKind.u8.wrap b0) (by rw [IntKind.wrap_u8]; omega)
        have iu : IntKind.u8.wrap y = y := by rw [IntKind.wrap_u8]; omega
        have iy : IntKind.i64.wrap y = y := by rw [IntKind.wrap_i64]; omega
        have HWC := Aside0.mk hwc
        have HWY := Aside0.mk hwy
        have HCY : Aside0 (c < C'.length ∧ c < s.C.length ∧ 1 ≤ y ∧ y ≤ 255 ∧ C'.length ≤ 1048576 ∧ 1 ≤ C'.length) := ⟨by have := HCL.out; rw [HSC.out.1]; omega⟩
        have iw : IntKind.i64.wrap ((C'.length : Int) - 1) = (C'.length : Int) - 1 := by rw [IntKind.wrap_i64]; have := HCY.out; omega
        have t2 := cell_blk (j := 2) (u := .slice (some ⟨mb, 0, none⟩) C'.length cb) HRW.out.way.box rfl
        have HEP : Aside0 (s.ep + 1 ≤ 1000000000) := ⟨by have := HRW.out.inv.ep; have := HJZ.out; have := HJ.out; omega⟩
        have HIK : Aside0 (jz < 1000) := ⟨by have := HJZ.out; have := HJ.out; omega⟩
        have HAB := Aside0.mk (And.intro ha hb)
        have hq : ∀ w9, Below w.heap.size w w9 → w9.cell? (adl.add (i * 2)) = some (.int .i64 a0) ∧ w9.cell? ⟨(adl.add (i * 2)).block, (adl.add (i * 2)).off + 1, none⟩ = some (.int .i64 b0) := fun w9 hb9 => by
          obtain ⟨ad9, hA9, r0, r1⟩ := at_T53 (Kd.C_below HL.out hb9) (i : Int) (by omega) d1
          have e9 : adl = ad9 := Option.some.inj hA9
          subst e9
          rw [Int.toNat_natCast] at r0 r1
          exact ⟨by rw [HAB.out.1]; exact r0, by rw [HAB.out.2]; exact r1⟩
        have HTRI : Aside0 (∀ w9 j9, RW w w9 g m s xz fb kpz cnz W H gt mb cb C' n j9 → w9.cell? ⟨gt, 2, none⟩ = some (.slice (some ⟨mb, 0, none⟩) C'.length cb) ∧ w9.cell? (adl.add (i * 2)) = some (.int .i64 a0) ∧ w9.cell? ⟨(adl.add (i * 2)).block, (adl.add (i * 2)).off + 1, none⟩ = some (.int .i64 b0)) := ⟨fun w9 j9 h9 => ⟨cell_blk h9.way.box rfl, (hq w9 h9.way.below).1, (hq w9 h9.way.below).2⟩⟩
        have HRWd : Aside0 (RW w wz.drew g m s xz fb kpz cnz W H gt mb cb C' n jz) := ⟨HRW.out.go (below_drew1 (Below.refl _ _))⟩
        have HOEd : Aside0 (OldE wz.drew kpz (s.ep + 1)) := ⟨HOE.out.below (below_drew1 (Below.refl _ _))⟩
        have k0 := HTRI.out _ _ HRWd.out
        clear ha hb hwc hwy hc hy1 hy2 hCl hq q0 q1 t2
        go_region_held3 (fun w' => w'.cell? ⟨gt, 2, none⟩ = some (.slice (some ⟨mb, 0, none⟩) C'.length cb) ∧ w'.cell? (adl.add (i * 2)) = some (.int .i64 a0) ∧ w'.cell? ⟨(adl.add (i * 2)).block, (adl.add (i * 2)).off + 1, none⟩ = some (.int .i64 b0)) (first | (with_reducible first | exact k0 | exact k5 | exact k6) | go_keep)
          (first
            | (go_at_call 19; with_reducible refine (herdsmanref1_Within.calls a0 0 ((C'.length : Int) - 1) (c : Int) wz.drew HWC.out).mono ?_; rintro e w5 ⟨rfl, hd⟩; have HA5 := Aside0.mk (HRWd.out.go hd.below); have HAT5 := Aside0.mk (HOEd.out.below hd.below); have k5 := HTRI.out _ _ HA5.out; clear hd)
            | (go_at_call 51; refine (herdsmanref1_Cost.calls _ y w5 HWY.out).mono ?_; rintro e w6 ⟨rfl, hd⟩; have HA6 := Aside0.mk (HA5.out.go hd.below); have HAT6 := Aside0.mk (HAT5.out.below hd.below); have k6 := HTRI.out _ _ HA6.out; clear hd))
        go_upto_region 14 with (go_at_call 20; refine (gEdit_calls HA6.out.way.net.grid (c := c) HCY.out.2.1 (x := y) ⟨HCY.out.2.2.1, HCY.out.2.2.2.1⟩ HEP.out).mono ?_; rintro e w7 ⟨rfl, hg, hch⟩; have HA7 := Aside0.mk (HA6.out.edit HIK.out HCY.out.2.1 hg hch); have HAT7 : Aside0 (OldE w7 kpz (s.ep + 1)) := ⟨HAT6.out.imp (Int.le_refl _) (fun rb db r q => q.chg hch (fun z => (RtM.own2 HA6.out.way.net q).1 (.inl z)) (fun z => (RtM.own2 HA6.out.way.net q).2 (.inl z)))⟩; clear hg hch)
        clear k0 k5 k6
        have hx7 := HA7.out.way.box
        have t0 := cell_blk (j := 0) (u := .int .i64 W) hx7 rfl
        have t1 := cell_blk (j := 1) (u := .int .i64 H) hx7 rfl
        have t2 := cell_blk (j := 2) (u := .slice (some ⟨mb, 0, none⟩) C'.length cb) hx7 rfl
        have HED := Aside0.mk (edited_some (W := W) (H := H) (C := C') (c := c) (y := y) HCY.out.1 HCY.out.2.2.2.2.1)
        have HCP : Aside0 (0 < (C'.set c y).length) := ⟨by rw [List.length_set]; have := HCY.out.2.2.2.2.2; omega⟩
        clear hx7
        go_wp2_with (go_at_call 29; refine (herdsmanref11_Edited.calls W H (some ⟨mb, 0, none⟩) cb C' (c : Int) y W H (C'.set c y) _ (Kd.R_reads' HA7.out.way.row).2.2 (Kd.R_reads' HA7.out.way.row).2.1 HED.out).mono ?_; rintro e w8 ⟨v8, rfl, ho, hb⟩; obtain ⟨mb2, cb2, rfl, _, _, _⟩ := Kd.R_form ho HCP.out; have HO8 := Aside0.mk ho; have HB8 := Aside0.mk hb; have hx8 := (HA7.out.go hb).way.box; have HX8 := Aside0.mk hx8; have HAT8 := Aside0.mk (HAT7.out.below hb); have z0 := cell_blk (j := 0) (u := .int .i64 W) hx8 rfl; have z1 := cell_blk (j := 1) (u := .int .i64 H) hx8 rfl; have z2 := cell_blk (j := 2) (u := .slice (some ⟨mb, 0, none⟩) C'.length cb) hx8 rfl; have f0 := free_blk hx8 0; have f1 := free_blk hx8 1; have f2 := free_blk hx8 2; clear ho hb hx8)
        go_roundg (12 - (i + 1))
        case measure => have := HI.out; omega
        case rel =>
          have hh := HI.out
          have hst := HA7.out.store HB8.out HO8.out (by rw [List.length_set])
          rw [List.length_set] at hst
          have hgc : OldE _ kpz (s.ep + 1) := HAT8.out.imp (Int.le_refl _) (fun rb db r q => q.ofGt HX8.out (gt_chg (W := W) (H := H) (gt := gt) (mb' := mb2) (cb' := cb2) (C' := C') w8))
          exact ⟨i + 1, jz + 1, gEd s c y, xz, kpz, cnz, mb2, cb2, C'.set c y, by first | rfl | (rw [w64 (n := (i : Int) + 1) (by omega) (by omega)]; rfl), by omega, Nat.le_refl _, ⟨hst, by show s.C.set c y = _; rw [HSC.out.1], by rw [List.length_set]; exact HSC.out.2, hgc, by have := HJZ.out; omega⟩⟩)
    · have hte : (i < l.length → decide ((i : Int) < 12) = false) := fun q => decide_eq_false (by omega)
      have HJ : Aside0 (j ≤ 2 * i ∧ i ≤ 12) := ⟨HS.out.2.2.2.2, hi⟩
      clear hi hgg
      rcases Nat.lt_or_ge i l.length with h1 | h1
      all_goals (first
        | (have d1 : (i : Int) < (l.length : Int) := by omega
           have d2 := hte h1
           clear hte hlt h1
           go_upto_region 15 with fail)
        | (have d1 : decide ((i : Int) < (l.length : Int)) = false := decide_eq_false (by omega)
           have d1b : decide (i < l.length) = false := decide_eq_false (by omega)
           clear hte hlt h1
           go_upto_region 15 with fail))
      all_goals (
        go_upto_region 16 with (go_at_call 41; refine (HS.out.1.find (by have := HJ.out; omega) HT1.out (HS.out.2.2.2.1.oldK t)).mono ?_; rintro e w9 ⟨rb, db, d, x9, D, rfl, hrw, hrt, hD, hrok, hfr, hlow, hch⟩; have HA9 := Aside0.mk hrw; have HAT9 := Aside0.mk hrt; have HD := Aside0.mk hD; have HRO := Aside0.mk hrok; clear hrw hrt hD hrok hfr hlow hch)
        have hds := HS.out.1.inv.dims
        rw [hds.1, hds.2.1, HS.out.2.1] at HD HRO
        clear hds
        have dt : ((t : Int) == (t : Int)) = true := by simp
        have de : (s.ep == s.ep) = true := by simp
        go_wp2_with (first
          | (go_at_call 44; refine (told15_calls _).mono ?_; rintro e w11 ⟨rfl, hb⟩; have HA11 := Aside0.mk (HA9.out.go hb); have HAT11 := Aside0.mk (HAT9.out.below hb); have t0 := cell_blk (j := 0) (u := .int .i64 W) HA11.out.way.box rfl; have t1 := cell_blk (j := 1) (u := .int .i64 H) HA11.out.way.box rfl; have t2 := cell_blk (j := 2) (u := .slice (some ⟨mb, 0, none⟩) C'.length cb) HA11.out.way.box rfl; clear hb)
          | (go_at_call 49; refine (goal_calls HAT11.out).mono ?_; rintro e w12 ⟨rfl, rfl⟩)
          | (go_at_call 50; refine (epoch_calls HAT11.out).mono ?_; rintro e w12 ⟨rfl, rfl⟩)
          | (go_at_call 52; refine (gEpoch_calls HA11.out.way.net.grid).mono ?_; rintro e w12 ⟨rfl, rfl⟩)
          | (go_at_call 53; refine (exact_calls (W := W) (H := H) (C := C') (D := D) HAT11.out HRO.out HD.out (Kd.R_reads' HA11.out.way.row).2.2 (Kd.R_reads' HA11.out.way.row).2.1).mono ?_; rintro e w13 ⟨rfl, hb⟩; have HB13 := Aside0.mk (below_step HA11.out.way.below hb); clear hb))
        go_ret
        exact ⟨rfl, HB13.out⟩)
def routeExactH.f (k : Nat) (a0 a1 : Int) (l2 : List Int) (l3 : List S53) (a4 : Int) : Option Bool := if (∀ y ∈ l2, 0 ≤ y ∧ y ≤ 255) ∧ l2.length ≤ 140737488355328 then some true else none
theorem routeExactH.calls (k : Nat) (a0 a1 : Int) (A2 : Option Addr) (c2 : Nat) (l2 : List Int) (A3 : Option Addr) (c3 : Nat) (l3 : List S53) (a4 : Int) (r : Bool) (w : World) (hr2 : Kd.C (Kd.int .u8) w A2 l2.length l2) (hc2 : l2.length ≤ c2) (hr3 : Kd.C k53 w A3 l3.length l3) (hc3 : l3.length ≤ c3) (h : routeExactH.f k a0 a1 l2 l3 a4 = some r) : Calls Tryz.prog 10 #[.int .i64 a0, .int .i64 a1, .slice A2 l2.length c2, .slice A3 l3.length c3, .int .i64 a4] w fun e w' => e = .returned (.bool r) ∧ Below w.heap.size w w' := by
  unfold routeExactH.f at h
  split at h
  · rename_i q
    obtain rfl : true = r := Option.some.inj h
    exact routeExact_calls a0 a1 A2 c2 l2 A3 c3 l3 a4 w hr2 hc2 q.1 q.2 hr3
  · cases h
end Go.Proofs.YthgehdembghdaaaGreat.P
namespace Go.Proofs.YthgehdembghdaaaGreat.P
open Go Go.Deep Go.RowKit Go.ChangeShapes Go.WideShapes Go.Proofs.YthgehdembghdaaaGreatW.PrintWords Go.Proofs.YthgehdembghdaaaGreatW.PrintLast Go.Proofs.YthgehdembghdaaaGreatW.PrintMore
set_option linter.unusedVariables false
set_option linter.unusedSimpArgs false
end Go.Proofs.YthgehdembghdaaaGreat.P
namespace Go.Proofs.YthgehdembghdaaaGreat.P
open Go Go.Deep Go.RowKit Go.ChangeShapes Go.WideShapes Go.Proofs.YthgehdembghdaaaGreatW.PrintWords Go.Proofs.YthgehdembghdaaaGreatW.PrintLast Go.Proofs.YthgehdembghdaaaGreatW.PrintMore
set_option linter.unusedVariables false
theorem open_nums {H : Type} {enc : TypeId × Value → H} {w : World} {base : Nat} {held : Bool} {t e : TypeId} {k : IntKind} {fuel : Nat} {cs : List Value} {x : DataW H × List MemPlace} (ht : Tryz.prog.underlying t = some (.slice e)) (he : Tryz.prog.underlying e = some (.int k)) (hc : Tryz.prog.cellsOf e = 1)
  (h : DataW.trod enc Tryz.prog w base (fun _ => true) held fuel t cs = some x) : ∃ (a : Option Addr) (cap : Nat) (l : List Int), cs = [.slice a l.length cap] ∧ Kd.C (Kd.int k) w a l.length l ∧ l.length ≤ cap ∧ l.length ≤ maxLen ∧ ∀ x ∈ l, (Lit.int k x).wf = true := by
 have key : ∀ (a : Option Addr) (len cap : Nat) (zs : List Int), ((a = none ∧ len = 0 ∧ cap = 0 ∧ zs = []) ∨ ∃ x, a = some x ∧ len ≤ cap ∧ cap ≤ maxLen ∧ zs.length = cap ∧ (∀ i, i < zs.length → w.cell? (x.add i) = some (.int k (zs.getD i 0))) ∧ ∀ n ∈ zs, (Lit.int k n).wf = true) →
   ∃ l : List Int, len = l.length ∧ Kd.C (Kd.int k) w a l.length l ∧ l.length ≤ cap ∧ l.length ≤ maxLen ∧ ∀ x ∈ l, (Lit.int k x).wf = true := by
  intro a len cap zs hz
  obtain ⟨l, e, hr, hm, hw, hl⟩ := ReadsInt.ofRowC hz
  exact ⟨l, e, Kd.C_of_reads (d := (0 : Int)) (h1 := fun _ => rfl) hr, hl, hm, hw⟩
 rcases Go.ChangeShapes.open_ints ht he hc h with ⟨hcs, _⟩ | ⟨x, l, c, zs, hcs, _, hl, hm, hz, _, hcell, hwz⟩
 ·obtain ⟨l, e, r⟩ := key none 0 0 [] (.inl ⟨rfl, rfl, rfl, rfl⟩)
  exact ⟨none, 0, l, by rw [hcs, e], r⟩
 ·obtain ⟨ys, e, r⟩ := key (some x) l c zs (.inr ⟨_, rfl, hl, hm, by simpa using hz, hcell, hwz⟩)
  exact ⟨some x, c, ys, by rw [hcs, e], r⟩
set_option maxRecDepth 100000 in
theorem open_slice_nums {H : Type} {enc : TypeId × Value → H} {w : World} {base b0 : Nat} {r : Reach} {held : Bool} {v : Value} {d : DataW H} {p : List MemPlace} {t e : TypeId} {k : IntKind} (ht : Tryz.prog.underlying t = some (.slice e)) (he : Tryz.prog.underlying e = some (.int k)) (hc : Tryz.prog.cellsOf e = 1) (hv : Value.okWide Tryz.prog w r b0 t v) (h : DataW.Trod enc Tryz.prog w base (fun _ => true) held t v d p) :
  ∃ (a : Option Addr) (cap : Nat) (l : List Int), v = .slice a l.length cap ∧ Kd.C (Kd.int k) w a l.length l ∧ l.length ≤ cap ∧ l.length ≤ maxLen ∧ ∀ x ∈ l, (Lit.int k x).wf = true := by
 obtain ⟨A, len, cap, rfl⟩ := okWide_slice ht hv
 obtain ⟨fuel, hf⟩ := h
 obtain ⟨a, cap', l, e2, hr, hl, hm, hw⟩ := open_nums ht he hc hf
 obtain ⟨rfl, rfl, rfl⟩ : A = a ∧ len = l.length ∧ cap = cap' := by simpa [Value.cells] using e2
 exact ⟨A, cap, l, rfl, hr, hl, hm, hw⟩
end Go.Proofs.YthgehdembghdaaaGreat.P
namespace Go.Proofs.YthgehdembghdaaaGreat.P
open Go Go.Deep Go.RowKit Go.ChangeShapes Go.WideShapes Go.Proofs.YthgehdembghdaaaGreatW.PrintWords Go.Proofs.YthgehdembghdaaaGreatW.PrintLast Go.Proofs.YthgehdembghdaaaGreatW.PrintMore
set_option linter.unusedVariables false
set_option linter.unusedSimpArgs false
theorem open_lays {H : Type} {enc : TypeId × Value → H} {w : World} {base : Nat} {spare : Nat → Bool} {held : Bool} {a : Option Addr} {len cap : Nat} {d : DataW H} {ps : List MemPlace} {ts : List TypeId} {ds : List (DataW H)} {j : Nat}
  (hsz : (DataW.weightsEach Tryz.prog ts ds).all (· ≤ reachBytes) = true) (ht : ts[j]? = some 23) (hd : ds[j]? = some d)
  (h : DataW.Trod enc Tryz.prog w base spare held 23 (.slice a len cap) d ps) : ∃ xs : List S53, xs.length = len ∧ Kd.C k53 w a xs.length xs ∧ xs.length ≤ cap ∧ xs.length * 16 ≤ 140737488351232 ∧ ∀ x, x ∈ xs → (Lit.int .i64 x.f0).wf = true ∧ (Lit.int .i64 x.f1).wf = true := by
 obtain ⟨fuel, hf⟩ := h
 have hu := Tryz.underlying23
 rcases open_slice hu hf with ⟨hcs, _⟩ | ⟨ad, l, c, m, n, D, Pl, hcs, hb, hl, hm, hmm, hx, hi⟩
 ·simp [Value.cells] at hcs
  obtain ⟨rfl, rfl, rfl⟩ := hcs
  exact ⟨[], rfl, Kd.C_nil _ _, Nat.le_refl _, by simp, fun x hx => by simp at hx⟩
 ·simp [Value.cells] at hcs
  obtain ⟨rfl, rfl, rfl⟩ := hcs
  have hlm : len ≤ m := by rw [hmm]; split <;> omega
  have c3 : Tryz.prog.cellsOf 35 = 2 := by kernel_rfl
  have c1 : Tryz.prog.cellsOf 3 = 1 := by kernel_rfl
  have each : ∀ i, i < len → ∃ x : S53, ((Lit.int .i64 x.f0).wf = true ∧ (Lit.int .i64 x.f1).wf = true) ∧ ∀ j u, ([.int .i64 x.f0, .int .i64 x.f1] : List Value)[j]? = some u → w.cell? (ad.add (i * 2 + j)) = some u := by
   intro i hil
   obtain ⟨cs', hc, ht'⟩ := hi i (by omega)
   rw [c3] at hc
   obtain ⟨_, hcl, hat⟩ := World.cells?_some hc
   obtain ⟨v0, v1, rfl⟩ : ∃ v0 v1, cs' = [v0, v1] := by
    match cs', hcl with
    | [v0, v1], _ => exact ⟨v0, v1, rfl⟩
   obtain ⟨y0, y1, n', _, _, h0, h1⟩ := Go.ChangeShapes.trod_struct2 Tryz.underlying35 ht'
   rw [c1] at h0 h1
   obtain ⟨i0, e0, _, w0⟩ := DataW.trod_int Tryz.underlying3 (show DataW.trod enc Tryz.prog w base spare held n' 3 [v0] = some y0 from h0)
   obtain ⟨i1, e1, _, w1⟩ := DataW.trod_int Tryz.underlying3 (show DataW.trod enc Tryz.prog w base spare held n' 3 [v1] = some y1 from h1)
   obtain rfl : v0 = .int .i64 i0 := by simpa using e0
   obtain rfl : v1 = .int .i64 i1 := by simpa using e1
   refine ⟨⟨i0, i1⟩, ⟨w0, w1⟩, fun j u hj => ?_⟩
   have hj2 : j < 2 := by
    have := (List.getElem?_eq_some_iff.1 hj).1
    simpa using this
   have := hat j hj2
   rw [← Go.Deep.add_add, this]
   exact hj
  let f : Nat → S53 := fun i => if h : i < len then Classical.choose (each i h) else z53
  have hfs : ∀ i, i < len → ((Lit.int .i64 (f i).f0).wf = true ∧ (Lit.int .i64 (f i).f1).wf = true) ∧ ∀ j u, ([.int .i64 (f i).f0, .int .i64 (f i).f1] : List Value)[j]? = some u → w.cell? (ad.add (i * 2 + j)) = some u := by
   intro i hil
   have := Classical.choose_spec (each i hil)
   simp only [f, dif_pos hil]
   exact this
  have hlen : ((List.range len).map f).length = len := by simp
  refine ⟨(List.range len).map f, hlen, ?_, by rw [hlen]; exact hl, ?_, fun x hx => ?_⟩
  ·rw [hlen]
   refine ⟨by simp, by unfold maxLen at hm; omega, fun h0 => ⟨ad, rfl, fun i p hp => ?_⟩⟩
   obtain ⟨hil, rfl⟩ : i < len ∧ f i = p := by
    have h1 := (List.getElem?_eq_some_iff.1 hp).1
    rw [hlen] at h1
    rw [List.getElem?_map, List.getElem?_range h1] at hp
    exact ⟨h1, by simpa using hp⟩
   exact ⟨_, rfl, k53_mk w (f i), fun j u hj => (hfs i hil).2 j u hj⟩
  ·obtain ⟨hx, _⟩ := Prod.mk.inj hx
   subst hx
   have z := sized_slice hsz ht hd hu
   have hb16 : Tryz.prog.bytesOf 35 = 16 := by kernel_rfl
   have hrb : reachBytes = 140737488351232 := by decide
   rw [hb16, hrb] at z
   simp only [List.length_map, List.length_range] at z ⊢
   omega
  ·obtain ⟨i, hi', rfl⟩ := List.mem_map.1 hx
   exact (hfs i (List.mem_range.1 hi')).1
end Go.Proofs.YthgehdembghdaaaGreat.P
namespace Go.Proofs.YthgehdembghdaaaGreatW.PrintWords
open Go.ChangeShapes Go.WideShapes
theorem sized_ints {H : Type} {enc : TypeId × Value → H} {P : Program} {W : World} {base : Nat} {spare : Nat → Bool} {held : Bool} {t e : TypeId} {k : IntKind} {a : Option Addr} {len cap : Nat} {d : DataW H} {ps : List MemPlace} {ts : List TypeId} {ds : List (DataW H)} {j : Nat}
    (hsz : (DataW.weightsEach P ts ds).all (· ≤ reachBytes) = true) (ht : ts[j]? = some t) (hd : ds[j]? = some d) (hu : P.underlying t = some (.slice e)) (he : P.underlying e = some (.int k)) (hc : P.cellsOf e = 1) {B : Nat} (hB : P.bytesOf e = B)
    (h : DataW.Trod enc P W base spare held t (.slice a len cap) d ps) : len * B ≤ 140737488351232 := by
  obtain ⟨fuel, hf⟩ := h
  rcases open_ints hu he hc hf with ⟨hcs, _⟩ | ⟨x, l, c, zs, hcs, _, hl, _, hz, hx, _, _⟩
  · simp [Value.cells] at hcs
    obtain ⟨rfl, rfl, rfl⟩ := hcs
    simp
  · simp [Value.cells] at hcs
    obtain ⟨rfl, rfl, rfl⟩ := hcs
    obtain ⟨hx, _⟩ := Prod.mk.inj hx
    subst hx
    have z := sized_slice hsz ht hd hu
    rw [hB] at z
    have hl2 : len ≤ zs.length := by
      rw [hz]
      split
      · exact hl
      · exact Nat.le_refl _
    have h1 : (lits (H := H) k (zs.take len)).length + (lits (H := H) k (zs.drop len)).length = zs.length := by
      simp [lits]
      omega
    rw [h1] at z
    exact Nat.le_trans (Nat.mul_le_mul_right _ hl2) z
end Go.Proofs.YthgehdembghdaaaGreatW.PrintWords
