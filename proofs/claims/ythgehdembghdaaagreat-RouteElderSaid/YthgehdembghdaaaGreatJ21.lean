import Derived.Test.YthgehdembghdaaaGreatJ17
import Derived.Test.YthgehdembghdaaaGreatJ20
import Derived.Test.YthgehdembghdaaaGreatJ16
import Derived.Test.YthgehdembghdaaaGreatJ19
import Derived.Test.YthgehdembghdaaaGreatPx0
import Derived.Test.YthgehdembghdaaaGreatPx5
import Derived.Test.YthgehdembghdaaaGreatXBase
import Derived.Deep.Slices
import Derived.Deep.Strs
import Derived.Deep.Fields
import Derived.SizedLaws
import Derived.WalkKit
import Derived.ProofKit
import Derived.OpenShut
import Derived.Lib.SmallJoins
import Derived.Deep.Grids
import Derived.ChangeSlices
namespace Go.Proofs.YthgehdembghdaaaGreat.P
open Go.RowKit Go.Proofs.YthgehdembghdaaaGreatW.PrintWords Go.Proofs.YthgehdembghdaaaGreatW.PrintLast Go.Proofs.YthgehdembghdaaaGreatW.PrintMore
open Go.Proofs.YthgehdembghdaaaGreat.Geo Go.Proofs.YthgehdembghdaaaGreat.Dist
set_option linter.unusedVariables false
set_option linter.unusedSimpArgs false
variable {w w' : World} {W H : Int} {C D d : List Int} {t : Int}
structure RtOk (W H : Int) (C D d : List Int) : Prop where
 len : d.length = C.length
 at_ : ∀ c : Nat, c < C.length → rd d (c : Int) = if (edgeS W H (c : Int) ∧ rd C (c : Int) ≠ 255) ∧ rd D (c : Int) ≠ INF then rd D (c : Int) else farN
theorem rtOk_of {s : GridS} {x : MeshS} (hF : Fresh s x) (hl : d.length = s.C.length) (h : ∀ c : Nat, c < s.C.length → rd d (c : Int) = routeD s x D (c : Int)) : RtOk s.W s.H s.C D d := by
 refine ⟨hl, fun c hc => ?_⟩
 rw [h c hc]
 unfold routeD
 have hM := hF.ok.len
 have e : isNode s x (c : Int) ↔ edgeS s.W s.H (c : Int) ∧ rd s.C (c : Int) ≠ 255 := (isNode_iff hF _).trans ⟨fun q => q.2, fun q => ⟨⟨by omega, by omega⟩, q⟩⟩
 by_cases q : isNode s x (c : Int) ∧ rd D (c : Int) ≠ INF
 ·rw [if_pos q, if_pos ⟨e.1 q.1, q.2⟩]
 ·rw [if_neg q, if_neg (fun z => q ⟨e.2 z.1, z.2⟩)]
def wantE (W H : Int) (C D : List Int) (c : Int) : Int := if (0 ≤ c ∧ c < W * H) ∧ edgeS W H c ∧ rd C c ≠ 255 then rd D c else INF
theorem at_want (hD : FlatD W H C t D) (h : RtOk W H C D d) (c : Int) : atR d c = wantE W H C D c := by
 have hM := hD.ok.len
 unfold atR wantE
 by_cases hc : 0 ≤ c ∧ c < W * H
 ·obtain ⟨n, rfl⟩ : ∃ n : Nat, c = n := ⟨c.toNat, by omega⟩
  have hn : n < C.length := by omega
  have e := h.at_ n hn
  rw [h.len]
  by_cases q : edgeS W H (n : Int) ∧ rd C (n : Int) ≠ 255
  ·by_cases f : rd D (n : Int) ≠ INF
   ·have := hD.small hc f
    have wh := wh_le hD.ok.dim
    rw [if_pos ⟨q, f⟩] at e
    rw [e, if_pos ⟨by omega, by omega, by unfold farN; omega⟩, if_pos ⟨hc, q⟩]
   ·have f' : rd D (n : Int) = INF := by omega
    rw [if_neg (fun z => f z.2)] at e
    rw [e, if_neg (fun z => z.2.2 rfl), if_pos ⟨hc, q⟩, f']
  ·rw [if_neg (fun z => q z.1)] at e
   rw [e, if_neg (fun z => z.2.2 rfl), if_neg (fun z => q z.2)]
 ·rw [if_neg (fun z => hc ⟨z.1, by have := z.2.1; rw [h.len] at this; omega⟩), if_neg (fun z => hc z.1)]
set_option maxRecDepth 1000000 in
set_option maxHeartbeats 8000000 in
theorem exact_calls {rb db : Nat} {r : RtS} (hr : RtM w rb db r) (hd : RtOk W H C D r.dist) (hD : FlatD W H C t D) {A : Addr} {cp : Nat} (hC : Kd.C (Kd.int .u8) w (some A) C.length C) (hcp : C.length ≤ cp) : Calls Tryz.prog 53 #[.pointer (some ⟨rb, 0, none⟩), .agg #[.int .i64 W, .int .i64 H, .slice (some A) C.length cp], .int .i64 t] w fun e w' => e = .returned (.bool true) ∧ Below w.heap.size w w' := by
 have HRT := Aside0.mk hr
 have HD := Aside0.mk hD
 have HC := Aside0.mk hC
 have HCP := Aside0.mk hcp
 have HAW := Aside0.mk (fun c => at_want hD hd c)
 have hcl : 1 ≤ C.length ∧ C.length ≤ 1048576 := by have := hD.ok.len; have := wh_le hD.ok.dim; omega
 have HCL := Aside0.mk hcl
 clear hr hd hD hC hcp hcl
 go_enter Tryz.func53, Tryz.ntmps53
 go_upto_region 1 with fail
 have hx := heap_alloc_new w (.cells #[.int .i64 W, .int .i64 H, .slice (some A) C.length cp] 26)
 have HX := Aside0.mk hx
 have HB1 := Aside0.mk (below_alloc (Below.refl w.heap.size w) (.cells #[.int .i64 W, .int .i64 H, .slice (some A) C.length cp] 26))
 have t0 := cell_blk (j := 0) (u := .int .i64 W) hx rfl
 have t1 := cell_blk (j := 1) (u := .int .i64 H) hx rfl
 have t2 := cell_blk (j := 2) (u := .slice (some A) C.length cp) hx rfl
 clear hx
 generalize w.alloc (.cells #[.int .i64 W, .int .i64 H, .slice (some A) C.length cp] 26) = w1 at *
 obtain ⟨b4, hb4⟩ : ∃ b4, b4 = w.heap.size := ⟨_, rfl⟩
 rw [← hb4] at HX t0 t1 t2 ⊢
 have HB4 := Aside0.mk hb4
 clear hb4
 go_upto_region 2 with (go_at_call 58; refine (flat_calls (w := w1) (A := A) HD.out.ok (Kd.C_below HC.out HB1.out) HCP.out HD.out).mono ?_; rintro e w2 ⟨fb, rfl, hrow, hge, hbl⟩; have HR2 := Aside0.mk hrow; have HB2 := Aside0.mk (below_step HB1.out hbl); have HX2 := Aside0.mk (blk_step HX.out hbl); clear hrow hge hbl)
 clear t0 t1 t2 HX HB1
 go_wp2_with fail
 go_loopg [8] (C.length + 2) (fun gg v8 wr => ∃ (i : Nat), v8 = .int .i64 ((i : Int) - 1) ∧ i ≤ C.length + 2 ∧ C.length + 2 - i ≤ gg ∧ Aside0 (Below w2.heap.size w2 wr))
 case atStart => exact ⟨0, rfl, by omega, by omega, ⟨Below.refl _ _⟩⟩
 case round =>
  obtain ⟨i, rfl, hi, hgg, HBr⟩ := hrel
  by_cases hlt : i < C.length + 2
  ·obtain ⟨c, hc⟩ : ∃ c, c = (i : Int) - 1 := ⟨_, rfl⟩
   rw [← hc]
   have d1 : c ≤ (C.length : Int) := by omega
   have HJ := Aside0.mk (And.intro hi (And.intro hgg (And.intro hlt hc)))
   have HIC := Aside0.mk (rIsCell HD.out.ok.dim c)
   have HIN := Aside0.mk (rIsNode HD.out.ok c 30 (Nat.le_refl _))
   have haw := HAW.out c
   have hML := HD.out.ok.len
   have HXr := Aside0.mk (blk_step HX2.out HBr.out)
   have t0 := cell_blk (j := 0) (u := .int .i64 W) HXr.out rfl
   have t1 := cell_blk (j := 1) (u := .int .i64 H) HXr.out rfl
   by_cases hcell : 0 ≤ c ∧ c < W * H
   ·have hic : decide (0 ≤ c ∧ c < W * H) = true := decide_eq_true hcell
    rw [hic] at HIC
    by_cases hnode : edgeS W H c ∧ rd C c ≠ 255
    ·have hin : decide ((0 ≤ c ∧ c < W * H) ∧ edgeS W H c ∧ rd C c ≠ 255) = true := decide_eq_true ⟨hcell, hnode⟩
     rw [hin] at HIN
     have hw : atR r.dist c = rd D c := by rw [haw]; unfold wantE; rw [if_pos ⟨hcell, hnode⟩]
     obtain ⟨n, hn⟩ : ∃ n : Nat, c = n := ⟨c.toNat, by omega⟩
     have hnl : n < D.length := by rw [HD.out.len]; omega
     have HW := Aside0.mk hw
     have hrr := fun (w9 : World) (hb9 : Below w2.heap.size w2 w9) => (HR2.out.heap (w' := w9) (by obtain ⟨cs, hcs⟩ := HR2.out.typ; exact hb9.block _ (blk_lt hcs)))
     have hcc := fun (w9 : World) (hb9 : Below w2.heap.size w2 w9) => (by
      have := (hrr w9 hb9).cell (j := n) (c := 0) (by simpa using hnl) (by omega) (u := .int .i64 (D.getD n default)) (by rw [getD_toArray]; rfl)
      rw [Nat.mul_one, Nat.add_zero] at this
      rw [this]
      unfold rd
      rw [Int.toNat_natCast]
      rfl : w9.cell? ⟨fb, n, none⟩ = some (.int .i64 (rd D (n : Int))))
     have HCC := Aside0.mk hcc
     have e1 : (0 : Int) ≤ (n : Int) := by omega
     have e2 : (n : Int) < (C.length : Int) := by omega
     have HN := Aside0.mk hn
     clear hML hic hin haw hw hrr hcc hcell hnode hi hgg hlt hc hnl
     subst hn
     have dq : (rd D (n : Int) != rd D (n : Int)) = false := by simp
     go_upto_if 29 with (first
      | (go_at_call 54; refine (herdsmanref1_IsCell.calls W H _ _ _ HIC.out).mono ?_; rintro e w5 ⟨rfl, hd⟩; have HB5 := Aside0.mk (below_step HBr.out hd.below); have HX5 := Aside0.mk (blk_step HXr.out hd.below); have s0 := cell_blk (j := 0) (u := .int .i64 W) HX5.out rfl; have s1 := cell_blk (j := 1) (u := .int .i64 H) HX5.out rfl; have s2 := cell_blk (j := 2) (u := .slice (some A) C.length cp) HX5.out rfl; clear hd)
      | (go_at_call 81; refine (herdsmanref11_IsNode.calls 30 W H (some A) cp C _ _ _ (Kd.C_below HC.out (below_step HB2.out HB5.out)) HCP.out HIN.out).mono ?_; rintro e w6 ⟨rfl, hb⟩; have HB6 := Aside0.mk (below_step HB5.out hb); clear hb))
     have q0 := HCC.out w6 HB6.out
     go_wp2_with (go_at_call 42; refine (at_calls (HRT.out.below (below_step HB2.out HB6.out)) (n : Int)).mono ?_; rw [HW.out]; rintro e w7 ⟨rfl, rfl⟩)
     go_roundg (C.length + 2 - (i + 1))
     case measure => have := HJ.out; omega
     case rel =>
      have hh := HJ.out
      have hl := HCL.out
      exact ⟨i + 1, by first | rfl | (show Value.int .i64 (wrap64 _) = Value.int .i64 _; rw [w64 (by omega) (by omega)]; congr 1; omega) | (show Value.int .i64 _ = Value.int .i64 _; congr 1; omega), by omega, Nat.le_refl _, HB6⟩
    ·have hin : decide ((0 ≤ c ∧ c < W * H) ∧ edgeS W H c ∧ rd C c ≠ 255) = false := decide_eq_false (fun q => hnode q.2)
     rw [hin] at HIN
     have hw : atR r.dist c = 1099511627776 := by rw [haw]; unfold wantE; rw [if_neg (fun q => hnode q.2)]
     have HW := Aside0.mk hw
     clear hML hic hin haw hw hcell hnode hi hgg hlt hc
     go_wp2_with (first
      | (go_at_call 54; refine (herdsmanref1_IsCell.calls W H _ _ _ HIC.out).mono ?_; rintro e w5 ⟨rfl, hd⟩; have HB5 := Aside0.mk (below_step HBr.out hd.below); have HX5 := Aside0.mk (blk_step HXr.out hd.below); have s0 := cell_blk (j := 0) (u := .int .i64 W) HX5.out rfl; have s1 := cell_blk (j := 1) (u := .int .i64 H) HX5.out rfl; have s2 := cell_blk (j := 2) (u := .slice (some A) C.length cp) HX5.out rfl; clear hd)
      | (go_at_call 81; refine (herdsmanref11_IsNode.calls 30 W H (some A) cp C _ _ _ (Kd.C_below HC.out (below_step HB2.out HB5.out)) HCP.out HIN.out).mono ?_; rintro e w6 ⟨rfl, hb⟩; have HB6 := Aside0.mk (below_step HB5.out hb); clear hb)
      | (go_at_call 42; refine (at_calls (HRT.out.below (below_step HB2.out HB6.out)) c).mono ?_; rw [HW.out]; rintro e w7 ⟨rfl, rfl⟩))
     go_roundg (C.length + 2 - (i + 1))
     case measure => have := HJ.out; omega
     case rel =>
      have hh := HJ.out
      have hl := HCL.out
      exact ⟨i + 1, by first | rfl | (show Value.int .i64 (wrap64 _) = Value.int .i64 _; rw [w64 (by omega) (by omega)]; congr 1; omega) | (show Value.int .i64 _ = Value.int .i64 _; congr 1; omega), by omega, Nat.le_refl _, HB6⟩
   ·have hic : decide (0 ≤ c ∧ c < W * H) = false := decide_eq_false hcell
    rw [hic] at HIC
    have hw : atR r.dist c = 1099511627776 := by rw [haw]; unfold wantE; rw [if_neg (fun q => hcell q.1)]
    have HW := Aside0.mk hw
    clear hML hic haw hw hcell hi hgg hlt hc
    go_wp2_with (first
     | (go_at_call 54; refine (herdsmanref1_IsCell.calls W H _ _ _ HIC.out).mono ?_; rintro e w5 ⟨rfl, hd⟩; have HB5 := Aside0.mk (below_step HBr.out hd.below); have HX5 := Aside0.mk (blk_step HXr.out hd.below); have s0 := cell_blk (j := 0) (u := .int .i64 W) HX5.out rfl; have s1 := cell_blk (j := 1) (u := .int .i64 H) HX5.out rfl; have s2 := cell_blk (j := 2) (u := .slice (some A) C.length cp) HX5.out rfl; clear hd)
     | (go_at_call 42; refine (at_calls (HRT.out.below (below_step HB2.out HB5.out)) c).mono ?_; rw [HW.out]; rintro e w7 ⟨rfl, rfl⟩))
    go_roundg (C.length + 2 - (i + 1))
    case measure => have := HJ.out; omega
    case rel =>
     have hh := HJ.out
     have hl := HCL.out
     exact ⟨i + 1, by first | rfl | (show Value.int .i64 (wrap64 _) = Value.int .i64 _; rw [w64 (by omega) (by omega)]; congr 1; omega) | (show Value.int .i64 _ = Value.int .i64 _; congr 1; omega), by omega, Nat.le_refl _, HB5⟩
  ·obtain rfl : i = C.length + 2 := by omega
   have d1 : decide (((C.length + 2 : Nat) : Int) - 1 ≤ (C.length : Int)) = false := decide_eq_false (by omega)
   clear hi hgg hlt
   go_wp2_with fail
   go_ret
   exact ⟨rfl, below_step HB2.out HBr.out⟩
end Go.Proofs.YthgehdembghdaaaGreat.P
namespace Go.Proofs.YthgehdembghdaaaGreat.P
open Go.RowKit Go.Proofs.YthgehdembghdaaaGreatW.PrintWords Go.Proofs.YthgehdembghdaaaGreatW.PrintLast Go.Proofs.YthgehdembghdaaaGreatW.PrintMore
open Go.Proofs.YthgehdembghdaaaGreat.Geo Go.Proofs.YthgehdembghdaaaGreat.Dist
set_option linter.unusedVariables false
set_option linter.unusedSimpArgs false
variable {w w' : World} {g : Gb} {s : GridS} {m : Mb} {x : MeshS}
end Go.Proofs.YthgehdembghdaaaGreat.P
namespace Go.Proofs.YthgehdembghdaaaGreat.P
noncomputable section
open Go.RowKit Go.Proofs.YthgehdembghdaaaGreatW.PrintWords Go.Proofs.YthgehdembghdaaaGreatW.PrintLast Go.Proofs.YthgehdembghdaaaGreatW.PrintMore
attribute [local go_sem] max2_int min2_int max_two min_two max_three min_three max_four min_four   -- for this text's walks alone
set_option linter.unusedVariables false
set_option linter.unusedSimpArgs false
end
end Go.Proofs.YthgehdembghdaaaGreat.P
namespace Go.Proofs.YthgehdembghdaaaGreat.P
open Go.RowKit Go.Proofs.YthgehdembghdaaaGreatW.PrintWords Go.Proofs.YthgehdembghdaaaGreatW.PrintLast Go.Proofs.YthgehdembghdaaaGreatW.PrintMore
open Go.Proofs.YthgehdembghdaaaGreat.Geo Go.Proofs.YthgehdembghdaaaGreat.Dist
set_option linter.unusedVariables false
set_option linter.unusedSimpArgs false
variable {w w' wr w2 : World} {g : Gb} {s : GridS} {m : Mb} {x : MeshS} {W H : Int} {C : List Int} {gt mb cb : Nat}
theorem rd_other {C : List Int} {c : Nat} {y : Int} {d : Int} (hd : 0 ≤ d) (hne : d ≠ (c : Int)) : rd (C.set c y) d = rd C d := by
 obtain ⟨n, rfl⟩ : ∃ n : Nat, d = n := ⟨d.toNat, by omega⟩
 by_cases h : n < C.length
 ·rw [rd_set' _ _ _ _ h, if_neg (by omega)]
 ·unfold rd
  rw [List.getD_eq_getElem?_getD, List.getD_eq_getElem?_getD, List.getElem?_eq_none (by simpa using h), List.getElem?_eq_none (by simpa using h)]
theorem tile_set (h : Dim W H) {i : Int} (hi : inS W H i) {c : Nat} (hc : sec W (c : Int) ≠ i) (y : Int) : tileL W H (C.set c y) i = tileL W H C i ∧ nodesL W H (C.set c y) i = nodesL W H C i := by
 have key : ∀ d, d ∈ gloL W H i → rd (C.set c y) d = rd C d := by
  intro d hd
  have q := (mem_gloL h hi).1 hd
  exact rd_other q.1.1 (fun e => hc (by rw [← e]; exact q.2))
 constructor
 ·unfold tileL
  exact List.map_congr_left key
 ·unfold nodesL
  refine List.filter_congr (fun d hd => ?_)
  rw [key d hd]
theorem part_set (h : Dim W H) {i : Int} (hi : inS W H i) {c : Nat} (hc : sec W (c : Int) ≠ i) (y : Int) {p : Part} (hp : PartOk W H C i p) : PartOk W H (C.set c y) i p := by
 obtain ⟨e1, e2⟩ := tile_set (C := C) h hi hc y
 refine ⟨by rw [e2]; exact hp.nodes, hp.dlen, fun a b ha hb => ?_⟩
 rw [hp.dist a b ha hb]
 unfold distN
 rw [e1]
def KP (s : GridS) (x : MeshS) : Prop := ∀ i : Nat, i < x.ps.length → ¬ dirtyI s x i → PartOk s.W s.H s.C (i : Int) (x.ps.getD i default)
theorem KP.edit {cl n i : Nat} (h : KP s x) (hd : DInv s x W H cl n i) (hdim : Dim s.W s.H) (hv : s.V.length = n) (hx : (x.ps.length : Int) = cnt s.W s.H) {c : Nat} (hc : (c : Int) < s.W * s.H) (y : Int) : KP (gEd s c y) x := by
 intro j hj hn
 have r := sec_rng hdim (c := (c : Int)) (by omega) hc
 have e := hd.dirty hv c y rfl j (by rw [← hd.len]; exact hj)
 have hn1 : ¬ dirtyI s x j := fun q => hn (e.2 (.inl q))
 have hn2 : (j : Nat) ≠ (sec s.W (c : Int)).toNat := fun q => hn (e.2 (.inr q))
 exact part_set hdim ⟨by omega, by omega⟩ (fun q => hn2 (by omega)) y (h j hj hn1)
theorem Fresh.kp (h : Fresh s x) : KP s x := fun i hi _ => h.part i hi
theorem KP.reb {x' : MeshS} (h : KP s x) (hok : MapOk s.W s.H s.C) (hl : (x'.ps.length : Int) = cnt s.W s.H) (hr : RebR s x x') : Fresh s x' := by
 refine ⟨hok, hl, fun i hi => ?_⟩
 rw [hr.len] at hi
 by_cases q : dirtyI s x i
 ·exact (hr.new i hi q).2
 ·rw [hr.old i hi q]; exact h i hi q
theorem kinv0 {n cl : Nat} (hok : MapOk W H C) (hn : (n : Int) = cnt W H) (hc : cl = C.length) : DInv (grid0 W H C) (mesh0 W H) W H cl n 0 := by
 have e : (cnt W H).toNat = n := by omega
 refine ⟨⟨rfl, rfl, hc.symm⟩, by show (List.replicate _ _).length = n; rw [List.length_replicate, e], fun j hj => ?_, fun j hj => ?_, by show (0 : Int) ≤ 1; omega, fun q => absurd (show (0 : Int) = 1 from q) (by omega), by show (1 : Int) ≤ 1 + ((0 : Nat) : Int); omega, by show (0 : Int) ≤ 4096 * ((0 : Nat) : Int); omega⟩
 ·show ((List.replicate (cnt W H).toNat (default : Part)).getD j default).ver ≤ 1
  rw [e, List.getD_eq_getElem?_getD, List.getElem?_replicate, if_pos hj]
  decide
 ·show rd (List.replicate (cnt W H).toNat 1) (j : Int) ≤ 1
  rw [e, rd_get _ (by simpa using hj), List.getElem_replicate]
  decide
theorem within_nat (x : Int) {n : Nat} (h : 1 ≤ n) (hn : n ≤ 1048576) : ∃ p : Nat, p < n ∧ herdsmanref1_Within.f x 0 ((n : Int) - 1) = some (p : Int) := by
 have hw := within_some x (lo := 0) (hi := (n : Int) - 1) (by omega) (by omega) (by omega)
 have r0 := Int.emod_nonneg x (show (n : Int) - 1 - 0 + 1 ≠ 0 by omega)
 have r1 := Int.emod_lt_of_pos x (show 0 < (n : Int) - 1 - 0 + 1 by omega)
 refine ⟨(0 + x % ((n : Int) - 1 - 0 + 1)).toNat, by omega, ?_⟩
 rw [hw, Int.toNat_of_nonneg (by omega)]
end Go.Proofs.YthgehdembghdaaaGreat.P
namespace Go.Proofs.YthgehdembghdaaaGreat.P
open Go.RowKit Go.Proofs.YthgehdembghdaaaGreatW.PrintWords Go.Proofs.YthgehdembghdaaaGreatW.PrintLast Go.Proofs.YthgehdembghdaaaGreatW.PrintMore
open Go.Proofs.YthgehdembghdaaaGreat.Geo Go.Proofs.YthgehdembghdaaaGreat.Dist
set_option linter.unusedVariables false
set_option linter.unusedSimpArgs false
variable {C : List Int} {w w' wr w2 w3 : World} {g : Gb} {s : GridS} {m : Mb} {x : MeshS} {W H : Int} {gt mb cb fb n i : Nat} {kp : Option Addr} {cn : Int}
structure RW (w wr : World) (g : Gb) (m : Mb) (s : GridS) (x : MeshS) (fb : Nat) (kp : Option Addr) (cn : Int) (W H : Int) (gt mb cb : Nat) (C : List Int) (n i : Nat) : Prop where
 way : WayM w wr g m s x W H gt mb cb C
 fin : wr.heap[fb]? = some (finB m g kp cn)
 low : w.heap.size ≤ fb
 inv : DInv s x W H C.length n i
 kp : KP s x
 small : C.length ≤ 3600
 num : 0 ≤ cn ∧ cn ≤ i ∧ i ≤ 1000
theorem RW.go (h : RW w wr g m s x fb kp cn W H gt mb cb C n i) (hb : Below wr.heap.size wr w2) : RW w w2 g m s x fb kp cn W H gt mb cb C n i := ⟨h.way.go hb, blk_step h.fin hb, h.low, h.inv, h.kp, h.small, h.num⟩
theorem WayM.stepF {s2 : GridS} {x2 : MeshS} {C : List Int} (h : WayM w wr g m s x W H gt mb cb C) (hfb : wr.heap[fb]? = some (finB m g kp cn)) (hl : w.heap.size ≤ fb) (hn : Net w2 g m s2 x2) (hc : Chg (fun b => m.own b ∨ b = fb) wr w2) : WayM w w2 g m s2 x2 W H gt mb cb C := by
 have ngt : ¬ (m.own gt ∨ gt = fb) := by
  rintro (q | rfl)
  ·exact h.net.notown h.box (.inl rfl) (.inr q)
  ·exact blk_ne hfb h.box (by decide) rfl
 have nmb : ¬ (m.own mb ∨ mb = fb) := by
  rintro (q | rfl)
  ·exact (h.low mb (.inr q)).2 rfl
  ·obtain ⟨cs, hcs⟩ := Kd.R_typed h.row mb rfl
   exact blk_ne hfb hcs (by decide) rfl
 exact ⟨hn, hc.blk h.box ngt, hc.R h.row (fun k hk q => by subst hk; exact nmb q), h.low, h.below.trans (hc.below (fun b hb => hb.elim (fun q => (h.low b (.inr q)).1) (fun e => by subst e; exact hl)) h.below.size), h.gtl⟩
theorem RW.start {w1 : World} {C : List Int} (hok : MapOk W H C) (hs : C.length ≤ 3600) (hn : (n : Int) = cnt W H) (hb1 : Below w.heap.size w w1) (hrow : Kd.R (Kd.int .u8) 5 w1 w.heap.size (fun _ => True) (.slice (some ⟨mb, 0, none⟩) C.length cb) C) (hbox : w1.heap[gt]? = some (.cells #[.int .i64 W, .int .i64 H, .slice (some ⟨mb, 0, none⟩) C.length cb] 26 (0, 0))) (hgt : w.heap.size ≤ gt) (hf : FinR w1 w2 W H C g m fb) : RW w w2 g m (grid0 W H C) (mesh0 W H) fb none 0 W H gt mb cb C n 0 := by
 have hs1 := hb1.size
 have hmlt : mb < w1.heap.size := by
  obtain ⟨cs, hcs⟩ := Kd.R_typed hrow mb rfl
  exact blk_lt hcs
 have hr3 : Kd.R (Kd.int .u8) 5 w2 w.heap.size (fun b => b = mb) (.slice (some ⟨mb, 0, none⟩) C.length cb) C := by
  obtain ⟨h0, inner, ho, hr⟩ := Kd.R_below hrow hf.below
  exact ⟨fun k hk => by simp [Value.ownBlock] at hk; exact hk.symm, inner, ho, hr.imp_ (fun _ _ hp => hp)⟩
 refine ⟨⟨hf.net, blk_step hbox hf.below, hr3, fun b hb => ⟨Nat.le_trans hs1 (hf.low.1 b hb), fun e => by have := hf.low.1 b hb; omega⟩, below_step hb1 hf.below, hgt⟩, hf.box, Nat.le_trans hs1 hf.low.2, kinv0 hok hn rfl, fun j hj hnd => ?_, hs, by omega⟩
 have hm := mesh0_len (W := W) (H := H) hn
 rw [hm] at hj
 exact absurd (dirty_first hn hj) hnd
def OldK (wr : World) (kp : Option Addr) (s : GridS) (t : Int) : Prop := kp = none ∨ ∃ rb0 db0 r0, kp = some ⟨rb0, 0, none⟩ ∧ RtM wr rb0 db0 r0 ∧ (r0.goal ≠ t ∨ r0.goal = t ∧ r0.ep ≠ s.ep)
theorem RW.find (h : RW w wr g m s x fb kp cn W H gt mb cb C n i) (hk : i < 1000) {t : Int} (ht : inC s t) (ho : OldK wr kp s t) : Calls Tryz.prog 41 #[.pointer (some ⟨fb, 0, none⟩), .int .i64 t] wr fun e w' => ∃ rb db d x' D, e = .returned (.pointer (some ⟨rb, 0, none⟩)) ∧ RW w w' g m s x' fb (some ⟨rb, 0, none⟩) (cn + 1) W H gt mb cb C n (i + 1) ∧ RtM w' rb db ⟨t, s.ep, d⟩ ∧ FlatD s.W s.H s.C t D ∧ RtOk s.W s.H s.C D d ∧ Fresh s x' ∧ (wr.heap.size ≤ rb ∧ wr.heap.size ≤ db) ∧ Chg (fun b => m.own b ∨ b = fb) wr w' := by
 have hok := h.way.net.grid.ok
 obtain ⟨D, hD⟩ := flatD_ex (t := t) hok ht
 have hc := h.inv.cnt
 have hnm := h.num
 have hil := h.inv.len
 refine (find_new h.way.net (by omega) (fun q => by rw [hil]; exact h.inv.clq q) (fun x' hr hl => h.kp.reb hok hl hr) h.fin (by omega) ho ht hD (by rw [h.inv.dims.2.2]; exact h.small)).mono ?_
 rintro e w' ⟨rb, db, d, x', rfl, hn, hr, hrt, hb, hlow, hch, hdl, hd⟩
 have hfr : Fresh s x' := h.kp.reb hok hn.len hr
 have hcl := cnt_le hok.dim
 have hnl := h.way.net.len
 refine ⟨rb, db, d, x', D, rfl, ⟨h.way.stepF h.fin h.low hn hch, hb, h.low, h.inv.weak.reb h.inv.cnt (by omega) hr, hfr.kp, h.small, by omega⟩, hrt, hD, rtOk_of hfr hdl hd, hfr, hlow, hch⟩
theorem RW.edit (h : RW w wr g m s x fb kp cn W H gt mb cb C n i) (hk : i < 1000) {c : Nat} (hc : c < s.C.length) {y : Int} (hg : GridM w2 g (gEd s c y)) (hch : Chg g.own wr w2) : RW w w2 g m (gEd s c y) x fb kp cn W H gt mb cb C n (i + 1) := by
 have hgr := h.way.net.grid
 have hil := h.inv.len
 have hxl := h.way.net.len
 have hvl := hgr.vlen
 have hnm := h.num
 exact ⟨h.way.step (h.way.net.edit hg hch rfl) (hch.mono (fun b hb => .inl hb)), hch.blk h.fin (fun q => h.way.net.out h.fin (by decide) (by decide) (by decide) (by decide) (by decide) (.inl q)), h.low, h.inv.edit (by omega) c y, h.kp.edit h.inv hgr.ok.dim (by omega) hxl (c := c) (by have := hgr.ok.len; omega) y, h.small, by omega⟩
theorem RW.findAny {rb0 db0 : Nat} {r0 : RtS} (h : RW w wr g m s x fb (some ⟨rb0, 0, none⟩) cn W H gt mb cb C n i) (hr : RtM wr rb0 db0 r0) (hk : i < 1000) {t : Int} (ht : inC s t) : Calls Tryz.prog 41 #[.pointer (some ⟨fb, 0, none⟩), .int .i64 t] wr fun e w' => ∃ ad x' kp' cn', e = .returned (.pointer (some ad)) ∧ RW w w' g m s x' fb kp' cn' W H gt mb cb C n (i + 1) ∧ Chg (fun b => m.own b ∨ b = fb) wr w' := by
 by_cases hg : r0.goal = t ∧ r0.ep = s.ep
 ·have hok := h.way.net.grid.ok
  have hc := h.inv.cnt
  have hnm := h.num
  have hil := h.inv.len
  have hcl := cnt_le hok.dim
  have hnl := h.way.net.len
  refine (find_kept h.way.net (by omega) (fun q => by rw [hil]; exact h.inv.clq q) h.fin hr ht hg.1 hg.2).mono ?_
  rintro e w' ⟨x', rfl, hn, hreb, hrt, hb, hch⟩
  have hfr : Fresh s x' := h.kp.reb hok hn.len hreb
  exact ⟨_, x', _, cn, rfl, ⟨h.way.stepF h.fin h.low hn hch, hb, h.low, h.inv.weak.reb h.inv.cnt (by omega) hreb, hfr.kp, h.small, by omega⟩, hch⟩
 ·refine (h.find hk ht (.inr ⟨rb0, db0, r0, rfl, hr, ?_⟩)).mono ?_
  ·by_cases q : r0.goal = t
   ·exact .inr ⟨q, fun z => hg ⟨q, z⟩⟩
   ·exact .inl q
  ·rintro e w' ⟨rb, db, d, x', D, rfl, hrw, _, _, _, _, _, hch⟩
   exact ⟨_, x', _, _, rfl, hrw, hch⟩
theorem RtM.keepF {rb db : Nat} {r : RtS} (h : RtM wr rb db r) (hn : Net wr g m s x) (hfb : wr.heap[fb]? = some (finB m g kp cn)) (hc : Chg (fun b => m.own b ∨ b = fb) wr w2) : RtM w2 rb db r := by
 obtain ⟨cs, hcs⟩ := h.row.typ
 have q := rtNot hn h
 exact h.chg hc (fun e => e.elim q.1 (fun e => by subst e; exact blk_ne hfb h.box (by decide) rfl)) (fun e => e.elim q.2 (fun e => by subst e; exact blk_ne hfb hcs (by decide) rfl))
theorem RW.drop (h : RW w wr g m s x fb kp cn W H gt mb cb C n i) : Calls Tryz.prog 46 #[.pointer (some ⟨fb, 0, none⟩)] wr fun e w' => e = .returned (.tuple #[]) ∧ RW w w' g m s x fb none cn W H gt mb cb C n i ∧ Chg (fun b => m.own b ∨ b = fb) wr w' := by
 refine (fDrop_calls h.fin).mono ?_
 rintro e w' ⟨rfl, hb, hc⟩
 have hc2 := hc.mono (S' := fun b => m.own b ∨ b = fb) (fun b q => .inr q)
 exact ⟨rfl, ⟨h.way.stepF h.fin h.low (h.way.net.fin h.fin hc) hc2, hb, h.low, h.inv, h.kp, h.small, h.num⟩, hc2⟩
theorem RtM.own2 {rb db : Nat} {r : RtS} (hn : Net wr g m s x) (h : RtM wr rb db r) : ¬ own2 g m rb ∧ ¬ own2 g m db := by
 obtain ⟨cs, hcs⟩ := h.row.typ
 exact ⟨hn.out h.box (by decide) (by decide) (by decide) (by decide) (by decide), hn.out hcs (by decide) (by decide) (by decide) (by decide) (by decide)⟩
end Go.Proofs.YthgehdembghdaaaGreat.P
namespace Go.Proofs.YthgehdembghdaaaGreat.P
open Go.RowKit Go.Proofs.YthgehdembghdaaaGreatW.PrintWords Go.Proofs.YthgehdembghdaaaGreatW.PrintLast Go.Proofs.YthgehdembghdaaaGreatW.PrintMore
open Go.Proofs.YthgehdembghdaaaGreat.Geo Go.Proofs.YthgehdembghdaaaGreat.Dist
set_option linter.unusedVariables false
set_option linter.unusedSimpArgs false
variable {w w' wr w2 : World} {g : Gb} {s : GridS} {m : Mb} {x : MeshS}
set_option maxRecDepth 1000000 in
set_option maxHeartbeats 8000000 in
theorem routeElder_calls (w0 h0 : Int) (A2 : Option Addr) (c2 : Nat) (l2 : List Int) (Al : Option Addr) (cL : Nat) (l : List S53) (goal other : Int) (w : World)
    (hr : Kd.C (Kd.int .u8) w A2 l2.length l2) (hc2 : l2.length ≤ c2) (hb2 : ∀ y ∈ l2, 0 ≤ y ∧ y ≤ 255) (hl2 : l2.length ≤ 140737488355328) (hl : Kd.C k53 w Al l.length l) :
    Calls Tryz.prog 11 #[.int .i64 w0, .int .i64 h0, .slice A2 l2.length c2, .slice Al l.length cL, .int .i64 goal, .int .i64 other] w fun e w' => e = .returned (.bool true) ∧ Below w.heap.size w w' := by
  obtain ⟨W, H, C, hmd, hW, hH, hok⟩ := made_some w0 h0 l2 hb2 hl2
  have hu26 := Tryz.underlying26
  have HR := Aside0.mk hr
  have HC2 := Aside0.mk hc2
  have HMD := Aside0.mk (hmd 2000 (Nat.le_refl _))
  have HOK := Aside0.mk hok
  have HL := Aside0.mk hl
  have hcnt := cnt_le HOK.out.dim
  obtain ⟨n, hn⟩ : ∃ n : Nat, (n : Int) = cnt W H := ⟨(cnt W H).toNat, by omega⟩
  have HN := Aside0.mk hn
  have hcl : 1 ≤ C.length ∧ C.length ≤ 1600 := by have := HOK.out.len; have := mul_smallM hW hH; omega
  have HCL := Aside0.mk hcl
  obtain ⟨t, htc, hwt⟩ := within_nat goal (n := C.length) (by omega) (by omega)
  obtain ⟨u, huc, hwu⟩ := within_nat other (n := C.length) (by omega) (by omega)
  have HWT := Aside0.mk hwt
  have HWU := Aside0.mk hwu
  have HTU : Aside0 (t < C.length ∧ u < C.length ∧ inC (grid0 W H C) (t : Int) ∧ inC (grid0 W H C) (u : Int)) := ⟨htc, huc, ⟨by omega, by have := HOK.out.len; show (t : Int) < W * H; omega⟩, ⟨by omega, by have := HOK.out.len; show (u : Int) < W * H; omega⟩⟩
  have HPOS : Aside0 (0 < C.length) := ⟨by omega⟩
  have iw : IntKind.i64.wrap ((C.length : Int) - 1) = (C.length : Int) - 1 := by rw [IntKind.wrap_i64]; omega
  clear hr hc2 hmd hok hl hb2 hl2 hW hH hcnt hn hcl htc hwt huc hwu
  go_enter Tryz.func11, Tryz.ntmps11
  go_upto_region 2 with (go_at_call 38; refine (herdsmanref1_Made.calls 2000 w0 h0 A2 c2 l2 W H C _ HR.out HC2.out HMD.out).mono ?_; rintro e w2 ⟨v2, rfl, ho, hb⟩; obtain ⟨mb, cb, rfl, hmb, hml, hmt⟩ := Kd.R_form ho HPOS.out; have HO2 := Aside0.mk ho; have HB2 := Aside0.mk hb; clear ho hb hmb hml hmt)
  have hx := heap_alloc_new w2 (.cells #[.int .i64 W, .int .i64 H, .slice (some ⟨mb, 0, none⟩) C.length cb] 26)
  have HX3 := Aside0.mk hx
  have hb3 := below_alloc (Below.refl w2.heap.size w2) (.cells #[.int .i64 W, .int .i64 H, .slice (some ⟨mb, 0, none⟩) C.length cb] 26)
  have HB3 := Aside0.mk (below_step HB2.out hb3)
  have HO3 := Aside0.mk (Kd.R_below HO2.out hb3)
  have HGT := Aside0.mk HB2.out.size
  have t0 := cell_blk (j := 0) (u := .int .i64 W) hx rfl
  have t1 := cell_blk (j := 1) (u := .int .i64 H) hx rfl
  have t2 := cell_blk (j := 2) (u := .slice (some ⟨mb, 0, none⟩) C.length cb) hx rfl
  clear hx hb3 HO2 HR HMD
  generalize w2.alloc (.cells #[.int .i64 W, .int .i64 H, .slice (some ⟨mb, 0, none⟩) C.length cb] 26) = w3 at *
  generalize w2.heap.size = gt at *
  go_upto_region 5 with (go_at_call 47; refine (finder_calls HOK.out ⟨mb, 0, none⟩ cb _ (Kd.R_reads' HO3.out).2.2 (Kd.R_reads' HO3.out).2.1).mono ?_; rintro e w4 ⟨g, m, fb, rfl, hf⟩; have HRW4 := Aside0.mk (RW.start HOK.out (by have := HCL.out; omega) HN.out HB3.out HO3.out HX3.out HGT.out hf); clear hf)
  clear t0 t1 t2
  have t2 := cell_blk (j := 2) (u := .slice (some ⟨mb, 0, none⟩) C.length cb) HRW4.out.way.box rfl
  go_upto_region 9 with (first
    | (go_at_call 19; refine (herdsmanref1_Within.calls goal 0 ((C.length : Int) - 1) (t : Int) _ HWT.out).mono ?_; rintro e w5 ⟨rfl, hd⟩; have HRW5 := Aside0.mk (HRW4.out.go hd.below); clear hd)
    | (go_at_call 41; refine (HRW5.out.find (by omega) HTU.out.2.2.1 (.inl rfl)).mono ?_; rintro e w6 ⟨rb, db, d, x6, D, rfl, hrw, hrt, hD, hrok, hfr, hlow, hch⟩; have HRW6 := Aside0.mk hrw; have HRT6 := Aside0.mk hrt; have HD := Aside0.mk hD; have HRO := Aside0.mk hrok; clear hrw hrt hD hrok hfr hlow hch))
  clear t2 HRW4 HRW5
  go_wp2_with fail
  go_loopg [18] 8 (fun gg v18 wr => ∃ (i : Nat) (s : GridS), v18 = .int .i64 (i : Int) ∧ i ≤ 8 ∧ 8 - i ≤ gg ∧ Aside0 (RW w wr g m s x6 fb (some ⟨rb, 0, none⟩) 1 W H gt mb cb C n (i + 1)) ∧ Aside0 (RtM wr rb db ⟨(t : Int), 1, d⟩))
  case atStart => exact ⟨0, _, rfl, by omega, by omega, HRW6, HRT6⟩
  case round =>
    clear HRW6 HRT6
    obtain ⟨i, s, rfl, hi, hgg, HRW, HRT⟩ := hrel
    by_cases hlt : i < l.length ∧ i < 8
    · have d1 : (i : Int) < (l.length : Int) := by omega
      have d2 : (i : Int) < 8 := by omega
      have d0 : (0 : Int) ≤ (i : Int) := by omega
      obtain ⟨adl, hAl, q0, q1⟩ := at_T53 (Kd.C_below HL.out HRW.out.way.below) (i : Int) (by omega) d1
      subst hAl
      rw [Int.toNat_natCast] at q0 q1
      obtain ⟨a0, ha⟩ : ∃ a, a = (rd_T53 l (i : Int)).f0 := ⟨_, rfl⟩
      obtain ⟨b0, hb⟩ : ∃ b, b = (rd_T53 l (i : Int)).f1 := ⟨_, rfl⟩
      rw [← ha] at q0
      rw [← hb] at q1
      obtain ⟨c, hc, hwc⟩ := within_nat a0 (n := C.length) HCL.out.1 (by have := HCL.out; omega)
      have hwy := within_some b0 (lo := 1) (hi := 255) (by omega) (by omega) (by omega)
      have rb0 := Int.emod_nonneg b0 (show (255 : Int) - 1 + 1 ≠ 0 by omega)
      have rb1 := Int.emod_lt_of_pos b0 (show (0 : Int) < 255 - 1 + 1 by omega)
      obtain ⟨y, hy⟩ : ∃ y : Int, y = 1 + b0 % (255 - 1 + 1) := ⟨_, rfl⟩
      rw [← hy] at hwy
      have HWC := Aside0.mk hwc
      have HWY := Aside0.mk hwy
      have HCY : Aside0 (c < C.length ∧ c < s.C.length ∧ 1 ≤ y ∧ y ≤ 255) := ⟨by have := HRW.out.inv.dims.2.2; omega⟩
      have t2 := cell_blk (j := 2) (u := .slice (some ⟨mb, 0, none⟩) C.length cb) HRW.out.way.box rfl
      have HI := Aside0.mk (And.intro hi (And.intro hgg hlt))
      have HEP : Aside0 (s.ep + 1 ≤ 1000000000) := ⟨by have := HRW.out.inv.ep; omega⟩
      have HIK : Aside0 (i + 1 < 1000) := ⟨by omega⟩
      have HAB := Aside0.mk (And.intro ha hb)
      clear ha hb hc hwc hwy rb0 rb1 hy hi hgg hlt
      have hq : ∀ w9, Below w.heap.size w w9 → w9.cell? (adl.add (i * 2)) = some (.int .i64 a0) ∧ w9.cell? ⟨(adl.add (i * 2)).block, (adl.add (i * 2)).off + 1, none⟩ = some (.int .i64 b0) := fun w9 hb9 => by
        obtain ⟨ad9, hA9, r0, r1⟩ := at_T53 (Kd.C_below HL.out hb9) (i : Int) (by omega) d1
        have e9 : adl = ad9 := Option.some.inj hA9
        subst e9
        rw [Int.toNat_natCast] at r0 r1
        exact ⟨by rw [HAB.out.1]; exact r0, by rw [HAB.out.2]; exact r1⟩
      have HTRI : Aside0 (∀ w9 s9 i9, RW w w9 g m s9 x6 fb (some ⟨rb, 0, none⟩) 1 W H gt mb cb C n i9 → w9.cell? ⟨gt, 2, none⟩ = some (.slice (some ⟨mb, 0, none⟩) C.length cb) ∧ w9.cell? (adl.add (i * 2)) = some (.int .i64 a0) ∧ w9.cell? ⟨(adl.add (i * 2)).block, (adl.add (i * 2)).off + 1, none⟩ = some (.int .i64 b0)) := ⟨fun w9 s9 i9 h9 => ⟨cell_blk h9.way.box rfl, (hq w9 h9.way.below).1, (hq w9 h9.way.below).2⟩⟩
      have HRWd : Aside0 (RW w wr.drew g m s x6 fb (some ⟨rb, 0, none⟩) 1 W H gt mb cb C n (i + 1)) := ⟨HRW.out.go (below_drew1 (Below.refl _ _))⟩
      have HRTd : Aside0 (RtM wr.drew rb db ⟨(t : Int), 1, d⟩) := ⟨HRT.out.below (below_drew1 (Below.refl _ _))⟩
      have k0 := HTRI.out _ _ _ HRWd.out
      clear hq q0 q1 t2
      go_upto_region 12 with fail
      go_region_held3 (fun w' => w'.cell? ⟨gt, 2, none⟩ = some (.slice (some ⟨mb, 0, none⟩) C.length cb) ∧ w'.cell? (adl.add (i * 2)) = some (.int .i64 a0) ∧ w'.cell? ⟨(adl.add (i * 2)).block, (adl.add (i * 2)).off + 1, none⟩ = some (.int .i64 b0)) (first | (with_reducible first | exact k0 | exact k5 | exact k6 | exact k7) | go_keep)
        (first
          | (go_at_call 19; with_reducible refine (herdsmanref1_Within.calls a0 0 ((C.length : Int) - 1) (c : Int) wr.drew HWC.out).mono ?_; rintro e w5 ⟨rfl, hd⟩; have HA5 := Aside0.mk (HRWd.out.go hd.below); have HAT5 := Aside0.mk (HRTd.out.below hd.below); have k5 := HTRI.out _ _ _ HA5.out; clear hd)
          | (go_at_call 19; with_reducible refine (herdsmanref1_Within.calls b0 1 255 y w5 HWY.out).mono ?_; rintro e w6 ⟨rfl, hd⟩; have HA6 := Aside0.mk (HA5.out.go hd.below); have HAT6 := Aside0.mk (HAT5.out.below hd.below); have k6 := HTRI.out _ _ _ HA6.out; clear hd)
          | (go_at_call 19; with_reducible refine (herdsmanref1_Within.calls b0 1 255 y wr.drew HWY.out).mono ?_; rintro e w5 ⟨rfl, hd⟩; have HA5 := Aside0.mk (HRWd.out.go hd.below); have HAT5 := Aside0.mk (HRTd.out.below hd.below); have k5 := HTRI.out _ _ _ HA5.out; clear hd)
          | (go_at_call 19; with_reducible refine (herdsmanref1_Within.calls a0 0 ((C.length : Int) - 1) (c : Int) w5 HWC.out).mono ?_; rintro e w6 ⟨rfl, hd⟩; have HA6 := Aside0.mk (HA5.out.go hd.below); have HAT6 := Aside0.mk (HAT5.out.below hd.below); have k6 := HTRI.out _ _ _ HA6.out; clear hd)
          | (go_at_call 20; refine (gEdit_calls HA6.out.way.net.grid (c := c) HCY.out.2.1 (x := y) HCY.out.2.2 HEP.out).mono ?_; rintro e w7 ⟨rfl, hg, hch⟩; have HA7 := Aside0.mk (HA6.out.edit HIK.out HCY.out.2.1 hg hch); have hn7 := RtM.own2 HA6.out.way.net HAT6.out; have HAT7 := Aside0.mk (HAT6.out.chg hch (fun q => hn7.1 (.inl q)) (fun q => hn7.2 (.inl q))); have k7 := HTRI.out _ _ _ HA7.out; clear hg hch hn7))
      all_goals (
        go_wp2_with fail
        go_roundg (8 - (i + 1))
        case measure => have := HI.out; omega
        case rel =>
          have hh := HI.out
          exact ⟨i + 1, gEd s c y, by first | rfl | (rw [w64 (n := (i : Int) + 1) (by omega) (by omega)]; rfl), by omega, Nat.le_refl _, HA7, HAT7⟩)
    · have hte : (i < l.length → decide ((i : Int) < 8) = false) := fun q => decide_eq_false (by omega)
      have HI8 := Aside0.mk hi
      clear hi hgg
      have HUI : Aside0 (inC s (u : Int)) := ⟨by have h1 := HRW.out.inv.dims; have h2 := HTU.out.2.2.2; unfold inC at h2 ⊢; rw [h1.1, h1.2.1]; exact h2⟩
      have t2 := cell_blk (j := 2) (u := .slice (some ⟨mb, 0, none⟩) C.length cb) HRW.out.way.box rfl
      rcases Nat.lt_or_ge i l.length with h1 | h1
      all_goals (first
        | (have d1 : (i : Int) < (l.length : Int) := by omega
           have d2 := hte h1
           clear hte hlt h1
           go_upto_region 14 with fail)
        | (have d1 : decide ((i : Int) < (l.length : Int)) = false := decide_eq_false (by omega)
           have d1b : decide (i < l.length) = false := decide_eq_false (by omega)
           clear hte hlt h1
           go_upto_region 14 with fail))
      all_goals (
        go_upto_region 16 with (first
          | (go_at_call 19; refine (herdsmanref1_Within.calls other 0 ((C.length : Int) - 1) (u : Int) _ HWU.out).mono ?_; rintro e w8 ⟨rfl, hd⟩; have HA8 := Aside0.mk (HRW.out.go hd.below); have HAT8 := Aside0.mk (HRT.out.below hd.below); clear hd)
          | (go_at_call 41; refine (HA8.out.findAny HAT8.out (by have := HI8.out; omega) HUI.out).mono ?_; rintro e w9 ⟨ad9, x9, kp9, cn9, rfl, hrw, hch⟩; have HA9 := Aside0.mk hrw; have HAT9 := Aside0.mk (HAT8.out.keepF HA8.out.way.net HA8.out.fin hch); clear hrw hch)
          | (go_at_call 46; refine HA9.out.drop.mono ?_; rintro e w10 ⟨rfl, hrw, hch⟩; have HA10 := Aside0.mk hrw; have HAT10 := Aside0.mk (HAT9.out.keepF HA9.out.way.net HA9.out.fin hch); clear hrw hch))
        have dt : ((t : Int) == (t : Int)) = true := by simp
        go_wp2_with (first
          | (go_at_call 44; refine (told15_calls _).mono ?_; rintro e w11 ⟨rfl, hb⟩; have HA11 := Aside0.mk (HA10.out.go hb); have HAT11 := Aside0.mk (HAT10.out.below hb); have t0 := cell_blk (j := 0) (u := .int .i64 W) HA11.out.way.box rfl; have t1 := cell_blk (j := 1) (u := .int .i64 H) HA11.out.way.box rfl; have t2 := cell_blk (j := 2) (u := .slice (some ⟨mb, 0, none⟩) C.length cb) HA11.out.way.box rfl; clear hb)
          | (go_at_call 49; refine (goal_calls HAT11.out).mono ?_; rintro e w12 ⟨rfl, rfl⟩)
          | (go_at_call 50; refine (epoch_calls HAT11.out).mono ?_; rintro e w12 ⟨rfl, rfl⟩)
          | (go_at_call 53; refine (exact_calls (W := W) (H := H) (C := C) (D := D) HAT11.out HRO.out HD.out (Kd.R_reads' HA11.out.way.row).2.2 (Kd.R_reads' HA11.out.way.row).2.1).mono ?_; rintro e w13 ⟨rfl, hb⟩; have HB13 := Aside0.mk (below_step HA11.out.way.below hb); clear hb))
        go_ret
        exact ⟨rfl, HB13.out⟩)
def routeElderH.f (k : Nat) (a0 a1 : Int) (l2 : List Int) (l3 : List S53) (a4 a5 : Int) : Option Bool := if (∀ y ∈ l2, 0 ≤ y ∧ y ≤ 255) ∧ l2.length ≤ 140737488355328 then some true else none
theorem routeElderH.calls (k : Nat) (a0 a1 : Int) (A2 : Option Addr) (c2 : Nat) (l2 : List Int) (A3 : Option Addr) (c3 : Nat) (l3 : List S53) (a4 a5 : Int) (r : Bool) (w : World) (hr2 : Kd.C (Kd.int .u8) w A2 l2.length l2) (hc2 : l2.length ≤ c2) (hr3 : Kd.C k53 w A3 l3.length l3) (hc3 : l3.length ≤ c3) (h : routeElderH.f k a0 a1 l2 l3 a4 a5 = some r) : Calls Tryz.prog 11 #[.int .i64 a0, .int .i64 a1, .slice A2 l2.length c2, .slice A3 l3.length c3, .int .i64 a4, .int .i64 a5] w fun e w' => e = .returned (.bool r) ∧ Below w.heap.size w w' := by
  unfold routeElderH.f at h
  split at h
  · rename_i q
    obtain rfl : true = r := Option.some.inj h
    exact routeElder_calls a0 a1 A2 c2 l2 A3 c3 l3 a4 a5 w hr2 hc2 q.1 q.2 hr3
  · cases h
end Go.Proofs.YthgehdembghdaaaGreat.P
namespace Go.Proofs.YthgehdembghdaaaGreat.P
open Go Go.Deep Go.RowKit Go.ChangeShapes Go.WideShapes Go.Proofs.YthgehdembghdaaaGreatW.PrintWords Go.Proofs.YthgehdembghdaaaGreatW.PrintLast Go.Proofs.YthgehdembghdaaaGreatW.PrintMore
set_option linter.unusedVariables false
set_option linter.unusedSimpArgs false
end Go.Proofs.YthgehdembghdaaaGreat.P
namespace Go.Proofs.YthgehdembghdaaaGreat.P
open Go Go.Deep Go.RowKit Go.ChangeShapes Go.WideShapes Go.Proofs.YthgehdembghdaaaGreatW.PrintWords Go.Proofs.YthgehdembghdaaaGreatW.PrintLast Go.Proofs.YthgehdembghdaaaGreatW.PrintMore
set_option linter.unusedVariables false
theorem open_nums {H : Type} {enc : TypeId × Value → H} {w : World} {base : Nat} {held : Bool} {t e : TypeId} {k : IntKind} {fuel : Nat} {cs : List Value} {x : DataW H × List MemPlace} (ht : Tryz.prog.underlying t = some (.slice e)) (he : Tryz.prog.underlying e = some (.int k)) (hc : Tryz.prog.cellsOf e = 1)
  (h : DataW.trod enc Tryz.prog w base (fun _ => true) held fuel t cs = some x) : ∃ (a : Option Addr) (cap : Nat) (l : List Int), cs = [.slice a l.length cap] ∧ Kd.C (Kd.int k) w a l.length l ∧ l.length ≤ cap ∧ l.length ≤ maxLen ∧ ∀ x ∈ l, (Lit.int k x).wf = true := by
 have key : ∀ (a : Option Addr) (len cap : Nat) (zs : List Int), ((a = none ∧ len = 0 ∧ cap = 0 ∧ zs = []) ∨ ∃ x, a = some x ∧ len ≤ cap ∧ cap ≤ maxLen ∧ zs.length = cap ∧ (∀ i, i < zs.length → w.cell? (x.add i) = some (.int k (zs.getD i 0))) ∧ ∀ n ∈ zs, (Lit.int k n).wf = true) →
   ∃ l : List Int, len = l.length ∧ Kd.C (Kd.int k) w a l.length l ∧ l.length ≤ cap ∧ l.length ≤ maxLen ∧ ∀ x ∈ l, (Lit.int k x).wf = true := by
  intro a len cap zs hz
  obtain ⟨l, e, hr, hm, hw, hl⟩ := ReadsInt.ofRowC hz
  exact ⟨l, e, Kd.C_of_reads (d := (0 : Int)) (h1 := fun _ => rfl) hr, hl, hm, hw⟩
 rcases Go.ChangeShapes.open_ints ht he hc h with ⟨hcs, _⟩ | ⟨x, l, c, zs, hcs, _, hl, hm, hz, _, hcell, hwz⟩
 ·obtain ⟨l, e, r⟩ := key none 0 0 [] (.inl ⟨rfl, rfl, rfl, rfl⟩)
  exact ⟨none, 0, l, by rw [hcs, e], r⟩
 ·obtain ⟨ys, e, r⟩ := key (some x) l c zs (.inr ⟨_, rfl, hl, hm, by simpa using hz, hcell, hwz⟩)
  exact ⟨some x, c, ys, by rw [hcs, e], r⟩
set_option maxRecDepth 100000 in
theorem open_slice_nums {H : Type} {enc : TypeId × Value → H} {w : World} {base b0 : Nat} {r : Reach} {held : Bool} {v : Value} {d : DataW H} {p : List MemPlace} {t e : TypeId} {k : IntKind} (ht : Tryz.prog.underlying t = some (.slice e)) (he : Tryz.prog.underlying e = some (.int k)) (hc : Tryz.prog.cellsOf e = 1) (hv : Value.okWide Tryz.prog w r b0 t v) (h : DataW.Trod enc Tryz.prog w base (fun _ => true) held t v d p) :
  ∃ (a : Option Addr) (cap : Nat) (l : List Int), v = .slice a l.length cap ∧ Kd.C (Kd.int k) w a l.length l ∧ l.length ≤ cap ∧ l.length ≤ maxLen ∧ ∀ x ∈ l, (Lit.int k x).wf = true := by
 obtain ⟨A, len, cap, rfl⟩ := okWide_slice ht hv
 obtain ⟨fuel, hf⟩ := h
 obtain ⟨a, cap', l, e2, hr, hl, hm, hw⟩ := open_nums ht he hc hf
 obtain ⟨rfl, rfl, rfl⟩ : A = a ∧ len = l.length ∧ cap = cap' := by simpa [Value.cells] using e2
 exact ⟨A, cap, l, rfl, hr, hl, hm, hw⟩
end Go.Proofs.YthgehdembghdaaaGreat.P
namespace Go.Proofs.YthgehdembghdaaaGreat.P
open Go Go.Deep Go.RowKit Go.ChangeShapes Go.WideShapes Go.Proofs.YthgehdembghdaaaGreatW.PrintWords Go.Proofs.YthgehdembghdaaaGreatW.PrintLast Go.Proofs.YthgehdembghdaaaGreatW.PrintMore
set_option linter.unusedVariables false
set_option linter.unusedSimpArgs false
theorem open_lays {H : Type} {enc : TypeId × Value → H} {w : World} {base : Nat} {spare : Nat → Bool} {held : Bool} {a : Option Addr} {len cap : Nat} {d : DataW H} {ps : List MemPlace} {ts : List TypeId} {ds : List (DataW H)} {j : Nat}
  (hsz : (DataW.weightsEach Tryz.prog ts ds).all (· ≤ reachBytes) = true) (ht : ts[j]? = some 23) (hd : ds[j]? = some d)
  (h : DataW.Trod enc Tryz.prog w base spare held 23 (.slice a len cap) d ps) : ∃ xs : List S53, xs.length = len ∧ Kd.C k53 w a xs.length xs ∧ xs.length ≤ cap ∧ xs.length * 16 ≤ 140737488351232 ∧ ∀ x, x ∈ xs → (Lit.int .i64 x.f0).wf = true ∧ (Lit.int .i64 x.f1).wf = true := by
 obtain ⟨fuel, hf⟩ := h
 have hu := Tryz.underlying23
 rcases open_slice hu hf with ⟨hcs, _⟩ | ⟨ad, l, c, m, n, D, Pl, hcs, hb, hl, hm, hmm, hx, hi⟩
 ·simp [Value.cells] at hcs
  obtain ⟨rfl, rfl, rfl⟩ := hcs
  exact ⟨[], rfl, Kd.C_nil _ _, Nat.le_refl _, by simp, fun x hx => by simp at hx⟩
 ·simp [Value.cells] at hcs
  obtain ⟨rfl, rfl, rfl⟩ := hcs
  have hlm : len ≤ m := by rw [hmm]; split <;> omega
  have c3 : Tryz.prog.cellsOf 35 = 2 := by kernel_rfl
  have c1 : Tryz.prog.cellsOf 3 = 1 := by kernel_rfl
  have each : ∀ i, i < len → ∃ x : S53, ((Lit.int .i64 x.f0).wf = true ∧ (Lit.int .i64 x.f1).wf = true) ∧ ∀ j u, ([.int .i64 x.f0, .int .i64 x.f1] : List Value)[j]? = some u → w.cell? (ad.add (i * 2 + j)) = some u := by
   intro i hil
   obtain ⟨cs', hc, ht'⟩ := hi i (by omega)
   rw [c3] at hc
   obtain ⟨_, hcl, hat⟩ := World.cells?_some hc
   obtain ⟨v0, v1, rfl⟩ : ∃ v0 v1, cs' = [v0, v1] := by
    match cs', hcl with
    | [v0, v1], _ => exact ⟨v0, v1, rfl⟩
   obtain ⟨y0, y1, n', _, _, h0, h1⟩ := Go.ChangeShapes.trod_struct2 Tryz.underlying35 ht'
   rw [c1] at h0 h1
   obtain ⟨i0, e0, _, w0⟩ := DataW.trod_int Tryz.underlying3 (show DataW.trod enc Tryz.prog w base spare held n' 3 [v0] = some y0 from h0)
   obtain ⟨i1, e1, _, w1⟩ := DataW.trod_int Tryz.underlying3 (show DataW.trod enc Tryz.prog w base spare held n' 3 [v1] = some y1 from h1)
   obtain rfl : v0 = .int .i64 i0 := by simpa using e0
   obtain rfl : v1 = .int .i64 i1 := by simpa using e1
   refine ⟨⟨i0, i1⟩, ⟨w0, w1⟩, fun j u hj => ?_⟩
   have hj2 : j < 2 := by
    have := (List.getElem?_eq_some_iff.1 hj).1
    simpa using this
   have := hat j hj2
   rw [← Go.Deep.add_add, this]
   exact hj
  let f : Nat → S53 := fun i => if h : i < len then Classical.choose (each i h) else z53
  have hfs : ∀ i, i < len → ((Lit.int .i64 (f i).f0).wf = true ∧ (Lit.int .i64 (f i).f1).wf = true) ∧ ∀ j u, ([.int .i64 (f i).f0, .int .i64 (f i).f1] : List Value)[j]? = some u → w.cell? (ad.add (i * 2 + j)) = some u := by
   intro i hil
   have := Classical.choose_spec (each i hil)
   simp only [f, dif_pos hil]
   exact this
  have hlen : ((List.range len).map f).length = len := by simp
  refine ⟨(List.range len).map f, hlen, ?_, by rw [hlen]; exact hl, ?_, fun x hx => ?_⟩
  ·rw [hlen]
   refine ⟨by simp, by unfold maxLen at hm; omega, fun h0 => ⟨ad, rfl, fun i p hp => ?_⟩⟩
   obtain ⟨hil, rfl⟩ : i < len ∧ f i = p := by
    have h1 := (List.getElem?_eq_some_iff.1 hp).1
    rw [hlen] at h1
    rw [List.getElem?_map, List.getElem?_range h1] at hp
    exact ⟨h1, by simpa using hp⟩
   exact ⟨_, rfl, k53_mk w (f i), fun j u hj => (hfs i hil).2 j u hj⟩
  ·obtain ⟨hx, _⟩ := Prod.mk.inj hx
   subst hx
   have z := sized_slice hsz ht hd hu
   have hb16 : Tryz.prog.bytesOf 35 = 16 := by kernel_rfl
   have hrb : reachBytes = 140737488351232 := by decide
   rw [hb16, hrb] at z
   simp only [List.length_map, List.length_range] at z ⊢
   omega
  ·obtain ⟨i, hi', rfl⟩ := List.mem_map.1 hx
   exact (hfs i (List.mem_range.1 hi')).1
end Go.Proofs.YthgehdembghdaaaGreat.P
namespace Go.Proofs.YthgehdembghdaaaGreatW.PrintWords
open Go.ChangeShapes Go.WideShapes
theorem sized_ints {H : Type} {enc : TypeId × Value → H} {P : Program} {W : World} {base : Nat} {spare : Nat → Bool} {held : Bool} {t e : TypeId} {k : IntKind} {a : Option Addr} {len cap : Nat} {d : DataW H} {ps : List MemPlace} {ts : List TypeId} {ds : List (DataW H)} {j : Nat}
    (hsz : (DataW.weightsEach P ts ds).all (· ≤ reachBytes) = true) (ht : ts[j]? = some t) (hd : ds[j]? = some d) (hu : P.underlying t = some (.slice e)) (he : P.underlying e = some (.int k)) (hc : P.cellsOf e = 1) {B : Nat} (hB : P.bytesOf e = B)
    (h : DataW.Trod enc P W base spare held t (.slice a len cap) d ps) : len * B ≤ 140737488351232 := by
  obtain ⟨fuel, hf⟩ := h
  rcases open_ints hu he hc hf with ⟨hcs, _⟩ | ⟨x, l, c, zs, hcs, _, hl, _, hz, hx, _, _⟩
  · simp [Value.cells] at hcs
    obtain ⟨rfl, rfl, rfl⟩ := hcs
    simp
  · simp [Value.cells] at hcs
    obtain ⟨rfl, rfl, rfl⟩ := hcs
    obtain ⟨hx, _⟩ := Prod.mk.inj hx
    subst hx
    have z := sized_slice hsz ht hd hu
    rw [hB] at z
    have hl2 : len ≤ zs.length := by
      rw [hz]
      split
      · exact hl
      · exact Nat.le_refl _
    have h1 : (lits (H := H) k (zs.take len)).length + (lits (H := H) k (zs.drop len)).length = zs.length := by
      simp [lits]
      omega
    rw [h1] at z
    exact Nat.le_trans (Nat.mul_le_mul_right _ hl2) z
end Go.Proofs.YthgehdembghdaaaGreatW.PrintWords
