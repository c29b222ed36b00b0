import Derived.Test.YthgehdembghdaaaGreatJ19
import Derived.Test.YthgehdembghdaaaGreatJ16
import Derived.Test.YthgehdembghdaaaGreatXLawS
import Derived.Test.YthgehdembghdaaaGreatXBorder2
import Derived.Test.YthgehdembghdaaaGreatXInto1
import Derived.Test.YthgehdembghdaaaGreatJ17
namespace Go.Proofs.YthgehdembghdaaaGreat.P
open Go.RowKit Go.Proofs.YthgehdembghdaaaGreatW.PrintWords Go.Proofs.YthgehdembghdaaaGreatW.PrintLast Go.Proofs.YthgehdembghdaaaGreatW.PrintMore
open Go.Proofs.YthgehdembghdaaaGreat.Geo Go.Proofs.YthgehdembghdaaaGreat.Dist
set_option linter.unusedVariables false
set_option linter.unusedSimpArgs false
variable {w w' : World} {g : Gb} {m : Mb} {s : GridS} {x : MeshS} {fb : Nat} {D : List Int}
set_option maxRecDepth 1000000 in
set_option maxHeartbeats 8000000 in
theorem search_calls {kp : Option Addr} {n : Int} (h : Net w g m s x) (hF : Fresh s x) (hfb : w.heap[fb]? = some (finB m g kp n)) {t : Int} (ht : inC s t) (hD : FlatD s.W s.H s.C t D) (hs : s.C.length ≤ 3600) : Calls Tryz.prog 92 #[.pointer (some ⟨fb, 0, none⟩), .int .i64 t] w fun e w' => ∃ rb db d, e = .returned (.pointer (some ⟨rb, 0, none⟩)) ∧ RtM w' rb db ⟨t, s.ep, d⟩ ∧ (w.heap.size ≤ rb ∧ w.heap.size ≤ db) ∧ Below w.heap.size w w' ∧ d.length = s.C.length ∧ ∀ c : Nat, c < s.C.length → rd d (c : Int) = routeD s x D (c : Int) := by
 have HM := Aside0.mk h
 have HF := Aside0.mk hF
 have HD := Aside0.mk hD
 have HT := Aside0.mk ht
 have HS := Aside0.mk hs
 have HB0 := Aside0.mk hfb
 have hc1 : Aside0 (∀ (w9 : World) (hb9 : Below w.heap.size w w9), w9.cell? ⟨fb, 1, none⟩ = some (.pointer (some ⟨g.gb, 0, none⟩)) ∧ w9.cell? ⟨fb, 0, none⟩ = some (.pointer (some ⟨m.xb, 0, none⟩))) := ⟨fun w9 hb9 => ⟨cell_blk (blk_step hfb hb9) rfl, cell_blk (blk_step hfb hb9) rfl⟩⟩
 obtain ⟨c1, c0⟩ := hc1.out w (Below.refl _ _)
 have hn : (s.C.length : Int) = s.W * s.H := hF.ok.len
 have iw : IntKind.i64.wrap (s.W * s.H) = (s.C.length : Int) := by rw [← hn, IntKind.wrap_i64]; omega
 clear h hF hD ht hs hfb hn
 go_enter Tryz.func92, Tryz.ntmps92
 go_upto_region 2 with (go_at_call 87; refine (gSize_calls HM.out.grid).mono ?_; rintro e w1 ⟨rfl, hd⟩; have HB1 := Aside0.mk hd.below; have c1 := pw_cell_below hd.below c1; clear hd)
 have hn1 : 1 ≤ s.C.length ∧ s.C.length ≤ 1048576 := by have h1 := HT.out; unfold inC at h1; have h2 := HF.out.ok.len; have h3 := HS.out; omega
 have HN1 := Aside0.mk hn1
 clear hn1
 go_upto_region 3 with (first
  | (go_at_call 52; refine (gEpoch_calls (HM.out.below HB1.out).grid).mono ?_; rintro e w2 ⟨rfl, rfl⟩)
  | (go_at_call 114; refine (rep_madeD _ 1 s.C.length HN1.out 2147483647 _ (cell_blk (heap_alloc_new _ _) rfl)).mono ?_; rintro e w3 ⟨db, rfl, hb3, hge, hlt, hrow⟩; have HB3 := Aside0.mk (below_step (below_alloc HB1.out _) hb3); have HR3 := Aside0.mk hrow; have HL3 := Aside0.mk (And.intro (Nat.le_trans (below_alloc HB1.out (.cells #[.int .i32 2147483647] 21)).size hge) hlt); clear hb3 hge hlt hrow))
 obtain ⟨o, ho⟩ : ∃ o, o = Obj.cells #[.int .i64 t, .int .i64 s.ep, .slice (some ⟨db, 0, none⟩) s.C.length s.C.length] 131 (0, 0) := ⟨_, rfl⟩
 have HRT : Aside0 (RtM (w3.alloc o) w3.heap.size db ⟨t, s.ep, List.replicate s.C.length farN⟩) := ⟨by
  rw [ho]
  refine ⟨?_, ?_, fun c hc => ?_⟩
  ·rw [heap_alloc_new]
   show _ = some (Obj.cells #[_, _, .slice (some ⟨db, 0, none⟩) (List.replicate s.C.length farN).length (List.replicate s.C.length farN).length] _ _)
   rw [List.length_replicate]
  ·show RowIn encD 1 21 db (List.replicate s.C.length farN).length (List.replicate s.C.length farN).toArray _
   rw [List.length_replicate]
   exact HR3.out.heap (heap_alloc_old _ _ HL3.out.2)
  ·have hc' : c < (List.replicate s.C.length farN).length := hc
   show 0 ≤ rd (List.replicate s.C.length farN) (c : Int) ∧ rd (List.replicate s.C.length farN) (c : Int) ≤ farN
   rw [rd_get _ hc', List.getElem_replicate]
   decide⟩
 have HB4 := Aside0.mk (below_alloc HB3.out o)
 have HRB := Aside0.mk HB3.out.size
 rw [← ho]
 generalize w3.heap.size = rb at *
 generalize w3.alloc o = w4 at *
 clear ho HR3 HB1 HB3 c1
 go_upto_region 4 with (go_at_call 115; refine (hNew_calls _).mono ?_; rintro e w5 ⟨hb, rfl, hlb, hh, hbl⟩; have HH5 := Aside0.mk hh; have HB5 := Aside0.mk hbl; clear hh hbl hlb)
 have HS5 : Aside0 (SM w w5 rb db ⟨t, s.ep, List.replicate s.C.length farN⟩ hb (.slice none 0 0) []) := ⟨⟨below_step HB4.out HB5.out, HRT.out.below HB5.out, HH5.out.down HB4.out.size, ⟨HRB.out, HL3.out.1⟩⟩⟩
 clear HH5 HB5 HRT HB4
 go_upto_region 5 with (go_at_call 116; refine (within_calls (HM.out.below HS5.out.below).grid (blk_step HB0.out HS5.out.below) HT.out).mono ?_; rintro e w6 ⟨mb, kq, rfl, hmv, hbl, hlm⟩; have HMV := Aside0.mk hmv; have HS6 := Aside0.mk (HS5.out.go hbl); clear hmv hbl hlm)
 have hst : where_Sector.f s.W s.H t = some (sec s.W t) := by rw [wSector HF.out.ok.dim, if_pos (show 0 ≤ t ∧ t < s.W * s.H from HT.out)]
 have HST := Aside0.mk hst
 have hsr := sec_rng HF.out.ok.dim HT.out.1 HT.out.2
 obtain ⟨si, hsi⟩ : ∃ si : Nat, sec s.W t = si := ⟨(sec s.W t).toNat, by omega⟩
 have hsl : si < x.ps.length := by have := HF.out.len; omega
 obtain ⟨N, hN⟩ : ∃ N, N = (x.ps.getD si default).nodes := ⟨_, rfl⟩
 have HSI := Aside0.mk (And.intro hsi (And.intro hsl hN))
 have c2 := (hc1.out w6 HS6.out.below).2
 have HMN := Aside0.mk (fun (w9 : World) (h9 : Net w9 g m s x) => mNodes_calls h9 hsl)
 rw [← hN] at HMN
 rw [hsi] at HST
 clear hst hsr hsi hsl hN c1 c0 HS5
 go_region_held3 (fun w' => w'.cell? ⟨fb, 0, none⟩ = some (.pointer (some ⟨m.xb, 0, none⟩))) (first | (with_reducible exact c2) | (with_reducible exact k2) | (with_reducible exact k3) | go_keep)
  (first
   | (go_at_call 21; go_loud (with_reducible refine (where_Sector.calls _ _ t _ _ HST.out).mono ?_); rintro e w7 ⟨rfl, hd⟩; have k2 := pw_cell_below hd.below c2; have HS7 := Aside0.mk (HS6.out.drew.go hd.below); have HMV7 := Aside0.mk (HMV.out.heap (w' := w7) (hd.below.block _ HMV.out.lt)); clear hd)
   | (go_at_call 26; go_loud (refine (HMN.out _ (HM.out.below HS7.out.below)).mono ?_; rintro e w8 ⟨v8, rfl, hv, hbl⟩; obtain ⟨An, nn, en⟩ := Kd.R_slice hv; subst en; have k3 := pw_cell_below hbl k2; have HS8 := Aside0.mk (HS7.out.go hbl); have HMV8 := Aside0.mk (HMV7.out.heap (hbl.block _ HMV7.out.lt)); have HV8 := Aside0.mk hv; clear hbl hv)))
 have HNN : Aside0 (∀ i : Nat, i < N.length → ∃ a : Nat, rd N (i : Int) = a ∧ a < s.C.length ∧ isNode s x (a : Int)) := ⟨fun i hi => by have e := HSI.out.2.2; subst e; exact nodes_nat HF.out HT.out HSI.out.1 hi⟩
 have HNL : Aside0 (N.length ≤ 256) := ⟨by have e := HSI.out.2.2; subst e; exact nodes_few HF.out HT.out HSI.out.1⟩
 have HI8 : Aside0 (SrI s x D (List.replicate s.C.length farN) [] (-1) 0) := ⟨SrI.first HF.out⟩
 rename_i hheld_
 clear hheld_ HS6 HS7 HMV HMV7 HMN k2 k3 c2 iw
 obtain ⟨B7, hB7⟩ : ∃ B7, B7 = w7.heap.size := ⟨_, rfl⟩
 rw [← hB7] at HV8
 clear hB7
 go_wp2_with fail
 go_loopg [54] N.length (fun gg v54 wr => ∃ (i : Nat) (d : List Int) (L : List Heap.E) (sv : Value), v54 = .int .i64 i ∧ i ≤ N.length ∧ N.length - i ≤ gg ∧ Aside0 (SM w wr rb db ⟨t, s.ep, d⟩ hb sv L) ∧ Aside0 (MapV wr mb kq (withinF s.W s.H s.C t)) ∧ Aside0 (RowN wr B7 (.slice An N.length nn) N) ∧ Aside0 (SrI s x D d L (-1) 0) ∧ Aside0 (∀ i' : Nat, i' < i → ∀ q, withinF s.W s.H s.C t (rd N (i' : Int)) = some q → rd d (rd N (i' : Int)) ≤ q))
 case atStart => exact ⟨0, _, [], _, rfl, Nat.zero_le _, Nat.le_refl _, HS8, HMV8, HV8, HI8, ⟨fun i' hi' => absurd hi' (Nat.not_lt_zero _)⟩⟩
 case round =>
  clear HS8 HMV8 HV8 HI8
  obtain ⟨i, d, L, sv, rfl, hi, hgg, HS9, HMV, HV, HI, HSd⟩ := hrel
  by_cases hlt : i < N.length
  ·have d1 : (i : Int) < (N.length : Int) := by omega
   obtain ⟨adN, hAN, hx⟩ := Kd.at_int (Kd.R_reads' HV.out).2.2 (i : Int) (by omega) d1
   subst hAN
   obtain ⟨a, ha, hac, han⟩ := HNN.out i hlt
   rw [Int.toNat_natCast, ha] at hx
   have w64a : W64 (a : Int) := by have := HS.out; unfold W64; omega
   have hlk := HMV.out.look w64a 0
   have HA := Aside0.mk (And.intro ha (And.intro hac han))
   have HJ := Aside0.mk (And.intro hi (And.intro hgg hlt))
   clear ha hac han hi hgg hlt
   cases hM : withinF s.W s.H s.C t (a : Int) with
   | none =>
    rw [hM] at hlk
    have hlk2 : Sem.run Tryz.prog (Instr.lookup 150 (.map (some mb)) (.int .i64 (a : Int)) true) wr = .ok (.tuple #[.int .i64 0, .bool false]) wr := hlk
    have HMN := Aside0.mk hM
    clear hlk hM
    go_wp2_with fail
    go_roundg (N.length - (i + 1))
    case measure => have := HJ.out; omega
    case rel =>
     have hh := HJ.out
     have hl := HNL.out
     refine ⟨i + 1, d, L, sv, by first | rfl | (rw [w64 (n := (i : Int) + 1) (by omega) (by omega)]; rfl), by omega, Nat.le_refl _, HS9, HMV, HV, HI, ⟨fun i' hi' q hq => ?_⟩⟩
     by_cases e : i' = i
     ·subst e
      rw [HA.out.1, HMN.out] at hq
      cases hq
     ·exact HSd.out i' (by omega) q hq
   | some q =>
    rw [hM] at hlk
    have hlk2 : Sem.run Tryz.prog (Instr.lookup 150 (.map (some mb)) (.int .i64 (a : Int)) true) wr = .ok (.tuple #[.int .i64 q, .bool true]) wr := hlk
    have HWD := Aside0.mk (within_D HD.out hM)
    have HMQ := Aside0.mk hM
    have hcl : a < d.length := by rw [HI.out.len]; exact HA.out.2.1
    have hkk : 0 ≤ q ∧ q ≤ 9000000000000 := by have := HWD.out; omega
    by_cases hlt : q < rd d (a : Int)
    ·have HNR := Aside0.mk (near_yes HS9.out.rt hcl hkk hlt)
     have hnr := HS9.out.near hcl (k := q) (by have := HWD.out; unfold farN; omega)
     have HSA := Aside0.mk hnr.1
     have HCA := Aside0.mk hnr.2
     have HLT := Aside0.mk hlt
     clear hlk hM hcl hkk hlt hnr
     go_wp2_with (first
      | (go_at_call 117; refine HNR.out.mono ?_; rintro e w9 ⟨rfl, hw9⟩; rw [← hw9] at HSA HCA; clear hw9)
      | (go_at_call 118; refine (hPush_calls HSA.out.heap HSA.out.below.size (HI.out.few HS.out) q (a : Int)).mono ?_; rintro e w10 ⟨rfl, sv10, L10, hh, hp, hc⟩; have HSB := Aside0.mk (HSA.out.push hc hh).1; have HCB := Aside0.mk (HSA.out.push hc hh).2; have HP10 := Aside0.mk hp; clear hh hp hc))
     have hpu := HI.out.push HF.out (c := a) (k := q) HA.out.2.2 HLT.out HWD.out.2.1 HWD.out.1 HP10.out
     go_roundg (N.length - (i + 1))
     case measure => have := HJ.out; omega
     case rel =>
      have hh := HJ.out
      have hl := HNL.out
      refine ⟨i + 1, _, L10, sv10, by first | rfl | (rw [w64 (n := (i : Int) + 1) (by omega) (by omega)]; rfl), by omega, Nat.le_refl _, HSB, ⟨HSA.out.mapK HCB.out (HS9.out.mapK HCA.out HMV.out)⟩, ⟨HSA.out.rowK HCB.out (HS9.out.rowK HCA.out HV.out)⟩, ⟨hpu.1⟩, ⟨fun i' hi' q' hq => ?_⟩⟩
      by_cases e : i' = i
      ·subst e
       rw [HA.out.1, HMQ.out] at hq
       injection hq with hq
       subst hq
       rw [HA.out.1, rd_putL (by rw [HI.out.len]; exact HA.out.2.1), if_pos rfl]
       exact Int.le_refl _
      ·have h1 := HSd.out i' (by omega) q' hq
       obtain ⟨b, hb, _, _⟩ := HNN.out i' (by omega)
       rw [hb] at h1 ⊢
       exact Int.le_trans (hpu.2.2 b) h1
    ·have HNR := Aside0.mk (near_no HS9.out.rt hcl hkk hlt)
     have HLT := Aside0.mk hlt
     clear hlk hM hcl hkk hlt
     go_wp2_with (go_at_call 117; refine HNR.out.mono ?_; rintro e w9 ⟨rfl, rfl⟩)
     go_roundg (N.length - (i + 1))
     case measure => have := HJ.out; omega
     case rel =>
      have hh := HJ.out
      have hl := HNL.out
      refine ⟨i + 1, d, L, sv, by first | rfl | (rw [w64 (n := (i : Int) + 1) (by omega) (by omega)]; rfl), by omega, Nat.le_refl _, HS9, HMV, HV, HI, ⟨fun i' hi' q' hq => ?_⟩⟩
      by_cases e : i' = i
      ·subst e
       rw [HA.out.1, HMQ.out] at hq
       injection hq with hq
       subst hq
       rw [HA.out.1]
       have := HLT.out
       omega
      ·exact HSd.out i' (by omega) q' hq
  ·obtain rfl : i = N.length := by omega
   have d1 : decide (((N.length : Nat) : Int) < (N.length : Int)) = false := by simp
   have HSD : Aside0 (∀ a, isNode s x a → Two s.W s.H s.C a t → distN s.W s.H s.C (sec s.W t) a t < INF → rd d a ≤ distN s.W s.H s.C (sec s.W t) a t) := ⟨fun a ha q hq => by
    obtain ⟨i, hi, e⟩ := nodes_all HF.out HT.out HSI.out.1 ha q.s
    rw [← HSI.out.2.2] at hi e
    have := HSd.out i hi (distN s.W s.H s.C (sec s.W t) a t) (by rw [e]; unfold withinF; rw [if_pos ⟨q.ob, q.a, q.s, hq⟩])
    rw [e] at this
    exact this⟩
   clear hi hgg hlt HV HMV HSd HNN
   go_wp2_with (go_at_call 119; refine (hPop_calls HS9.out.heap HS9.out.below.size (by have := HI.out.few HS.out; omega)).mono ?_; rintro e w10 ⟨v9, v10, v11, sv10, L10, rfl, hp, hh, hc⟩; have HSA := Aside0.mk (HS9.out.push hc hh).1; have HP10 := Aside0.mk hp; clear hh hp hc)
   obtain ⟨G1, hG1⟩ : ∃ G1, G1 = (2 * sumR d + L.length).toNat := ⟨_, rfl⟩
   have hsn : 0 ≤ sumR d := sumTo_nonneg _ (fun i hi => (HI.out.rng i hi).1)
   go_loopg [14, 15, 16] G1 (fun gg v14 v15 v16 wr => ∃ (d : List Int) (L L' : List Heap.E) (sv : Value), Aside0 (PopV L L' v14 v15 v16) ∧ Aside0 (SM w wr rb db ⟨t, s.ep, d⟩ hb sv L') ∧ Aside0 (SrI s x D d L (-1) 0) ∧ Aside0 (∀ a, isNode s x a → Two s.W s.H s.C a t → distN s.W s.H s.C (sec s.W t) a t < INF → rd d a ≤ distN s.W s.H s.C (sec s.W t) a t) ∧ Aside0 (2 * sumR d + L.length ≤ gg))
   case atStart => exact ⟨d, L, L10, sv10, HP10, HSA, HI, HSD, ⟨by omega⟩⟩
   case round =>
    clear hsn hG1 HP10 HSA HI HSD HS9
    obtain ⟨d, L, L', sv, HP, HSM, HI, HSD, HQ⟩ := hrel
    rcases HP.out with ⟨rfl, rfl, rfl, rfl⟩ | ⟨k1, c, rfl, rfl, rfl, hp, hmin⟩
    ·go_wp2_with fail
     go_ret
     exact ⟨rb, db, d, rfl, HSM.out.rt, HSM.out.low, HSM.out.below, HI.out.len, SrI.fin HF.out HD.out (by have := HS.out; omega) HI.out HSD.out⟩
    ·have HPM := Aside0.mk hp
     have hw := HI.out.wait (k1, c) (hp.mem_iff.1 (List.mem_cons_self ..))
     obtain ⟨cn, hcn, hcl⟩ := node_nat HF.out hw.1
     have hcn' : c = (cn : Int) := hcn
     subst hcn'
     have hcd : cn < d.length := by rw [HI.out.len]; exact hcl
     obtain ⟨q1, q2⟩ := HSM.out.rt.at_ hcd
     have hrg := HI.out.rng cn hcd
     have c2 := cell_blk (j := 2) (u := .slice (some ⟨db, 0, none⟩) d.length d.length) HSM.out.rt.box rfl
     obtain ⟨y, hy⟩ : ∃ y, y = rd d (cn : Int) := ⟨_, rfl⟩
     have q1' : wr.cell? ⟨db, cn, none⟩ = some (.int .i32 y) := by rw [hy]; exact q1
     rw [← hy] at hrg
     have hw2 : y ≤ k1 ∧ k1 < farN := by have h1 := hw.2; rw [← hcn, ← hy] at h1; exact h1
     have iw : IntKind.i64.wrap y = y := by unfold farN at hrg; rw [IntKind.wrap_i64]; omega
     have e1 : (0 : Int) ≤ (cn : Int) := by omega
     have e2 : (cn : Int) < (d.length : Int) := by omega
     have hlen := hp.length_eq
     rw [List.length_cons] at hlen
     have HCN : Aside0 (isNode s x (cn : Int) ∧ cn < d.length ∧ (0 ≤ y ∧ y ≤ farN) ∧ (y ≤ k1 ∧ k1 < farN) ∧ y = rd d (cn : Int) ∧ L'.length + 1 = L.length) := ⟨⟨hw.1, hcd, hrg, hw2, hy, hlen⟩⟩
     by_cases hst : y < k1
     ·have HI2 : Aside0 (SrI s x D d L' (-1) 0) := ⟨HI.out.stale hp (by rw [← hy]; exact hst)⟩
      clear hp hw hcn hcd q1 hrg hy hw2 hlen
      go_wp2_with (go_at_call 119; refine (hPop_calls HSM.out.heap HSM.out.below.size (by have := HI2.out.few HS.out; omega)).mono ?_; rintro e w10 ⟨v9, v10, v11, sv10, L10, rfl, hp, hh, hc⟩; have HSA := Aside0.mk (HSM.out.push hc hh).1; have HP10 := Aside0.mk hp; clear hh hp hc)
      have hq := HQ.out
      have hcn2 := HCN.out.2.2.2.2.2
      have hsn : 0 ≤ sumR d := sumTo_nonneg _ (fun i hi => (HI2.out.rng i hi).1)
      go_roundg (gk - 1)
      case measure => omega
      case rel => exact ⟨d, L', L10, sv10, HP10, HSA, HI2, HSD, ⟨by omega⟩⟩
     ·have d3 : decide (y < k1) = false := decide_eq_false hst
      have hky : k1 = y := by omega
      have HI2 : Aside0 (SrI s x D d L' (cn : Int) 0) := ⟨HI.out.pop hp (by rw [← hy]; exact hky)⟩
      obtain ⟨E, hE⟩ : ∃ E, E = intoM s x (cn : Int) := ⟨_, rfl⟩
      have HE := Aside0.mk hE
      have HKY := Aside0.mk hky
      have HDC : Aside0 (rd D (cn : Int) ≤ y) := ⟨by have h1 := (HI.out.node cn hcd (by rw [← hy]; omega)).2; rw [← hy] at h1; exact h1⟩
      have HCL := Aside0.mk hcl
      have HEL : Aside0 (E.length ≤ 260) := ⟨by rw [hE]; exact into_len HF.out _⟩
      have c0 := (hc1.out wr HSM.out.below).2
      clear hp hw hcn hcd q1 hrg hy hw2 hlen hst hky hE
      go_upto_region 17 with (go_at_call 34; refine (mInto_calls (HM.out.below HSM.out.below) HF.out.good (cn : Int)).mono ?_; rw [← HE.out]; rintro e w7 ⟨v7, rfl, ho, hd⟩; obtain ⟨A7, n7, rfl⟩ := Kd.R_slice ho; have HO7 := Aside0.mk ho; have HS7 := Aside0.mk (HSM.out.go hd); clear ho hd)
      clear c0 c2 q1' iw d3 q2
      obtain ⟨B8, hB8⟩ : ∃ B8, B8 = wr.heap.size := ⟨_, rfl⟩
      rw [← hB8] at HO7
      clear hB8
      obtain ⟨G0, hG0⟩ : ∃ G0, G0 = gk := ⟨gk, rfl⟩
      have HG0 := Aside0.mk hG0
      have HQ0 : Aside0 (2 * sumR d + L'.length + 1 ≤ G0) := ⟨by have := HQ.out; have := HCN.out.2.2.2.2.2; omega⟩
      clear hG0
      go_loopg [106] E.length (fun gg v106 wr => ∃ (j : Nat) (d : List Int) (L2 : List Heap.E) (sv : Value), v106 = .int .i64 (j : Int) ∧ j ≤ E.length ∧ E.length - j ≤ gg ∧ Aside0 (SM w wr rb db ⟨t, s.ep, d⟩ hb sv L2) ∧ Aside0 (Kd.R k53 53 wr B8 (fun _ => True) (.slice A7 E.length n7) E) ∧ Aside0 (SrI s x D d L2 (cn : Int) j) ∧ Aside0 (∀ a, isNode s x a → Two s.W s.H s.C a t → distN s.W s.H s.C (sec s.W t) a t < INF → rd d a ≤ distN s.W s.H s.C (sec s.W t) a t) ∧ Aside0 (rd d (cn : Int) = y ∧ 2 * sumR d + L2.length + 1 ≤ G0))
      case atStart => exact ⟨0, d, L', sv, rfl, Nat.zero_le _, Nat.le_refl _, HS7, HO7, HI2, HSD, ⟨⟨HCN.out.2.2.2.2.1.symm, HQ0.out⟩⟩⟩
      case round =>
       clear HS7 HO7 HI2 HSD
       obtain ⟨j, d', L2, sv2, rfl, hj, hgg, HSM, HO, HI, HSD, HQ2⟩ := hrel
       by_cases hlt : j < E.length
       ·have d1 : (j : Int) < (E.length : Int) := by omega
        have d0 : (0 : Int) ≤ (j : Int) := by omega
        obtain ⟨adE, hAE, p0, p1⟩ := at_T53 (Kd.R_reads' HO.out).2.2 (j : Int) d0 d1
        subst hAE
        rw [edge_getR E hlt, Int.toNat_natCast] at p0 p1
        have hlt' : j < (intoM s x (cn : Int)).length := by rw [← HE.out]; exact hlt
        have hEj : E[j] = (intoM s x (cn : Int))[j]'hlt' := by have e := HE.out; subst e; rfl
        have hm : E[j] ∈ intoM s x (cn : Int) := by rw [hEj]; exact List.getElem_mem hlt'
        obtain ⟨hb1, hb2, hb3, hb4, hb5, e', he', _, _⟩ := into_back HF.out E[j] hm
        have hbn : isNode s x E[j].f0 := ((mem_into HF.out e').1 he').1
        have hle := edge_le HF.out HD.out hm
        obtain ⟨tn, htn, htl⟩ := node_nat HF.out hbn
        obtain ⟨cc, hcc⟩ : ∃ cc, cc = E[j].f1 := ⟨_, rfl⟩
        rw [htn] at p0 hb2 hbn hle
        rw [← hcc] at p1 hb3 hb4 hle
        have hcost := rd_cost HF.out.ok (c := (cn : Int)) HCN.out.1.1.1 HCN.out.1.1.2
        have hDc := HDC.out
        have HK : Aside0 ((0 ≤ y + cc ∧ y + cc ≤ 9000000000000) ∧ rd D (tn : Int) ≤ y + cc ∧ tn < d'.length ∧ isNode s x (tn : Int) ∧ tn ≠ cn ∧ 1 ≤ cc) := ⟨by have h1 := HCN.out.2.2.1; have h2 : cc < 1099511627776 := hb4; have h3 := HI.out.len; unfold farN at h1; exact ⟨⟨by omega, by omega⟩, by omega, by omega, hbn, by omega, by omega⟩⟩
        have HJ : Aside0 (j ≤ E.length ∧ E.length - j ≤ gk ∧ ∃ q : j < (intoM s x (cn : Int)).length, ((intoM s x (cn : Int))[j]'q).f0 = (tn : Int) ∧ ((intoM s x (cn : Int))[j]'q).f1 = cc) := ⟨hj, hgg, hlt', by rw [← hEj]; exact htn, by rw [← hEj]; exact hcc.symm⟩
        have iw : IntKind.i64.wrap (k1 + cc) = k1 + cc := by have h1 := HK.out.1; have h2 := HKY.out; rw [IntKind.wrap_i64]; omega
        clear hj hgg hlt' hEj hm hb1 hb2 hb3 hb4 hb5 he' hbn hle htn htl hcc hcost hDc
        go_upto_region 19 with fail
        have hba := below_alloc (Below.refl wr.heap.size wr) (.cells #[.int .i64 (tn : Int), .int .i64 cc] 53)
        have HSA := Aside0.mk (HSM.out.go hba)
        have HOA := Aside0.mk (Kd.R_below HO.out hba)
        have hnb := heap_alloc_new wr (.cells #[.int .i64 (tn : Int), .int .i64 cc] 53)
        have HNB := Aside0.mk hnb
        have r0 := cell_blk (j := 0) (u := .int .i64 (tn : Int)) hnb rfl
        have r1 := cell_blk (j := 1) (u := .int .i64 cc) hnb rfl
        have hdn : wr.heap.size ≠ db := by obtain ⟨cs, hcs⟩ := HSM.out.rt.row.typ; have := blk_lt hcs; omega
        have HDN := Aside0.mk hdn
        clear hba hnb p0 p1 hdn
        generalize wr.alloc (.cells #[.int .i64 (tn : Int), .int .i64 cc] 53) = wA at *
        generalize wr.heap.size = nb at *
        have hkk := HK.out.1
        have hky := HKY.out
        rw [← hky] at hkk
        by_cases hlt : k1 + cc < rd d' (tn : Int)
        ·have HNR := Aside0.mk (near_yes HSA.out.rt HK.out.2.2.1 hkk hlt)
         have hnr := HSA.out.near HK.out.2.2.1 (k := k1 + cc) (by have := (HI.out.rng tn HK.out.2.2.1).2; unfold farN at this ⊢; omega)
         have HSB := Aside0.mk hnr.1
         have HCB := Aside0.mk hnr.2
         have HLT := Aside0.mk hlt
         have r0' := (cfarN (w := wA) (p := ⟨db, tn, none⟩) (a := ⟨nb, 0, none⟩) HDN.out (.int .i32 (k1 + cc))).trans r0
         have r1' := (cfarN (w := wA) (p := ⟨db, tn, none⟩) (a := ⟨nb, 1, none⟩) HDN.out (.int .i32 (k1 + cc))).trans r1
         clear hkk hlt hnr hky
         go_wp2_with (first
          | (go_at_call 117; refine HNR.out.mono ?_; rintro e w9 ⟨rfl, hw9⟩; rw [← hw9] at HSB HCB r0' r1'; clear hw9)
          | (go_at_call 118; refine (hPush_calls HSB.out.heap HSB.out.below.size (HI.out.few HS.out) (k1 + cc) (tn : Int)).mono ?_; rintro e w10 ⟨rfl, sv10, L10, hh, hp, hc⟩; have HSC := Aside0.mk (HSB.out.push hc hh).1; have HCC := Aside0.mk (HSB.out.push hc hh).2; have HP10 := Aside0.mk hp; clear hh hp hc))
         have hky := HKY.out
         have hpu := HI.out.push HF.out (c := tn) (k := k1 + cc) HK.out.2.2.2.1 HLT.out (by have := HK.out.1; omega) (by have := HK.out.2.1; omega) HP10.out
         have hst2 : rd (d'.set tn (k1 + cc)) (cn : Int) = y := by rw [rd_putL HK.out.2.2.1, if_neg (fun q => HK.out.2.2.2.2.1 q.symm)]; exact HQ2.out.1
         have hll := HP10.out.length_eq
         rw [List.length_cons] at hll
         go_roundg (E.length - (j + 1))
         case measure => have := HJ.out; omega
         case rel =>
          have hh := HJ.out
          have hl := HEL.out
          obtain ⟨q, q0, q1⟩ := hh.2.2
          refine ⟨j + 1, _, L10, sv10, by first | rfl | (rw [w64 (n := (j : Int) + 1) (by omega) (by omega)]; rfl), by omega, Nat.le_refl _, HSC, ⟨HSB.out.edgeK HCC.out (HSA.out.edgeK HCB.out HOA.out)⟩, ⟨hpu.1.step q ?_⟩, ⟨fun a ha qa hq => ?_⟩, ⟨⟨hst2, by have := HQ2.out.2; have := hpu.2.1; omega⟩⟩⟩
          ·rw [q0, q1, hst2, rd_putL HK.out.2.2.1, if_pos rfl]
           omega
          ·obtain ⟨b, hb, _⟩ := node_nat HF.out ha
           have h1 := HSD.out a ha qa hq
           have h2 := hpu.2.2 b
           rw [hb] at h1 ⊢
           exact Int.le_trans h2 h1
        ·have HNR := Aside0.mk (near_no HSA.out.rt HK.out.2.2.1 hkk hlt)
         have HLT := Aside0.mk hlt
         clear hkk hlt hky
         go_wp2_with (go_at_call 117; refine HNR.out.mono ?_; rintro e w9 ⟨rfl, rfl⟩)
         have hky := HKY.out
         go_roundg (E.length - (j + 1))
         case measure => have := HJ.out; omega
         case rel =>
          have hh := HJ.out
          have hl := HEL.out
          obtain ⟨q, q0, q1⟩ := hh.2.2
          exact ⟨j + 1, d', L2, sv2, by first | rfl | (rw [w64 (n := (j : Int) + 1) (by omega) (by omega)]; rfl), by omega, Nat.le_refl _, HSA, HOA, ⟨HI.out.step q (by rw [q0, q1, HQ2.out.1]; have := HLT.out; omega)⟩, HSD, HQ2⟩
       ·obtain rfl : j = E.length := by omega
        have d1 : decide (((E.length : Nat) : Int) < (E.length : Int)) = false := by simp
        have HI3 : Aside0 (SrI s x D d' L2 (-1) 0) := ⟨HI.out.done (by rw [← HE.out]; exact Nat.le_refl _)⟩
        clear hj hgg hlt HO HI
        go_wp2_with (go_at_call 119; refine (hPop_calls HSM.out.heap HSM.out.below.size (by have := HI3.out.few HS.out; omega)).mono ?_; rintro e w10 ⟨v9, v10, v11, sv10, L10, rfl, hp, hh, hc⟩; have HSA := Aside0.mk (HSM.out.push hc hh).1; have HP10 := Aside0.mk hp; clear hh hp hc)
        have hq2 := HQ2.out.2
        have hg0 := HG0.out
        have hsn : 0 ≤ sumR d' := sumTo_nonneg _ (fun i hi => (HI3.out.rng i hi).1)
        go_roundg (G0 - 1)
        case measure => omega
        case rel => exact ⟨d', L2, L10, sv10, HP10, HSA, HI3, HSD, ⟨by omega⟩⟩
end Go.Proofs.YthgehdembghdaaaGreat.P
namespace Go.Proofs.YthgehdembghdaaaGreat.P
open Go.RowKit Go.Proofs.YthgehdembghdaaaGreatW.PrintWords Go.Proofs.YthgehdembghdaaaGreatW.PrintLast Go.Proofs.YthgehdembghdaaaGreatW.PrintMore
open Go.Proofs.YthgehdembghdaaaGreat.Geo Go.Proofs.YthgehdembghdaaaGreat.Dist
set_option linter.unusedVariables false
set_option linter.unusedSimpArgs false
variable {w w' : World} {g : Gb} {m : Mb} {s : GridS} {x : MeshS} {fb : Nat} {D : List Int} {kp : Option Addr} {n : Int}
theorem Net.out (h : Net w g m s x) {b : Nat} {cs : Array Value} {ty : TypeId} (hb : w.heap[b]? = some (.cells cs ty (0, 0))) (n1 : 104 ≠ ty) (n2 : 5 ≠ ty) (n3 : 2 ≠ ty) (n4 : 108 ≠ ty) (n5 : 111 ≠ ty) : ¬ own2 g m b := by
 obtain ⟨pvs, hm⟩ := h.mesh
 obtain ⟨c1, h1⟩ := h.grid.typM
 obtain ⟨c2, h2⟩ := h.grid.typV
 obtain ⟨c3, h3⟩ := hm.typ
 rintro ((rfl | rfl | rfl) | (rfl | rfl))
 ·exact blk_ne h.grid.blk hb n1 rfl
 ·exact blk_ne h1 hb n2 rfl
 ·exact blk_ne h2 hb n3 rfl
 ·exact blk_ne hm.blk hb n4 rfl
 ·exact blk_ne h3 hb n5 rfl
theorem Net.fin (h : Net w g m s x) (hfb : w.heap[fb]? = some (finB m g kp n)) (hc : Chg (fun b => b = fb) w w') : Net w' g m s x :=
 h.chg hc (fun b hb e => by subst e; exact h.out hfb (by decide) (by decide) (by decide) (by decide) (by decide) hb) (by rintro k rfl cs; exact ⟨typ_ne hfb (by decide), typ_ne hfb (by decide)⟩)
theorem RtM.fin {rb db : Nat} {r : RtS} (h : RtM w rb db r) (hfb : w.heap[fb]? = some (finB m g kp n)) (hc : Chg (fun b => b = fb) w w') : RtM w' rb db r := by
 obtain ⟨cs, hcs⟩ := h.row.typ
 exact h.chg hc (fun e => by subst e; exact blk_ne hfb h.box (by decide) rfl) (fun e => by subst e; exact blk_ne hfb hcs (by decide) rfl)
theorem finNot (h : Net w g m s x) (hfb : w.heap[fb]? = some (finB m g kp n)) : ¬ m.own fb := by
 obtain ⟨pvs, hm⟩ := h.mesh
 obtain ⟨cs, hcs⟩ := hm.typ
 rintro (e | e)
 ·subst e
  rw [hm.blk] at hfb
  exact cells_ne (by decide) (Option.some.inj hfb)
 ·subst e
  rw [hcs] at hfb
  exact cells_ne (by decide) (Option.some.inj hfb)
theorem rtNot {rb db : Nat} {r : RtS} (h : Net w g m s x) (hr : RtM w rb db r) : ¬ m.own rb ∧ ¬ m.own db := by
 obtain ⟨pvs, hm⟩ := h.mesh
 obtain ⟨cs, hcs⟩ := hm.typ
 obtain ⟨cs2, hcs2⟩ := hr.row.typ
 have hbx := hr.box
 constructor
 ·rintro (rfl | rfl)
  ·exact blk_ne hm.blk hbx (by decide) rfl
  ·exact blk_ne hcs hbx (by decide) rfl
 ·rintro (rfl | rfl)
  ·exact blk_ne hm.blk hcs2 (by decide) rfl
  ·exact blk_ne hcs hcs2 (by decide) rfl
set_option maxRecDepth 1000000 in
set_option maxHeartbeats 8000000 in
theorem find_new (h : Net w g m s x) (hx : x.cnt ≤ 100000000) (hcl : x.clean = s.ep → dirtyL s x x.ps.length = []) (hfr : ∀ x', RebR s x x' → (x'.ps.length : Int) = cnt s.W s.H → Fresh s x') (hfb : w.heap[fb]? = some (finB m g kp n)) (hn : 0 ≤ n ∧ n ≤ 1000000000) {t : Int} (hk : kp = none ∨ ∃ rb0 db0 r0, kp = some ⟨rb0, 0, none⟩ ∧ RtM w rb0 db0 r0 ∧ (r0.goal ≠ t ∨ r0.goal = t ∧ r0.ep ≠ s.ep)) (ht : inC s t) (hD : FlatD s.W s.H s.C t D) (hs : s.C.length ≤ 3600) : Calls Tryz.prog 41 #[.pointer (some ⟨fb, 0, none⟩), .int .i64 t] w fun e w' => ∃ rb db d x', e = .returned (.pointer (some ⟨rb, 0, none⟩)) ∧ Net w' g m s x' ∧ RebR s x x' ∧ RtM w' rb db ⟨t, s.ep, d⟩ ∧ w'.heap[fb]? = some (finB m g (some ⟨rb, 0, none⟩) (n + 1)) ∧ (w.heap.size ≤ rb ∧ w.heap.size ≤ db) ∧ Chg (fun b => m.own b ∨ b = fb) w w' ∧ d.length = s.C.length ∧ ∀ c : Nat, c < s.C.length → rd d (c : Int) = routeD s x' D (c : Int) := by
 have c1 := cell_blk (j := 1) (u := .pointer (some ⟨g.gb, 0, none⟩)) hfb rfl
 have c0 := cell_blk (j := 0) (u := .pointer (some ⟨m.xb, 0, none⟩)) hfb rfl
 have hcr := rd_cost h.grid.ok ht.1 ht.2
 have hcf : costF s.C t = rd s.C t := by unfold costF; rw [if_pos ⟨ht.1, by have := h.grid.ok.len; have := ht.2; omega⟩]
 have d1 : (rd s.C t == 0) = false := by rw [beq_eq_false_iff_ne]; omega
 have HM := Aside0.mk h
 have HB := Aside0.mk hfb
 have HN := Aside0.mk hn
 have HT := Aside0.mk (And.intro ht (And.intro hD hs))
 have HR := Aside0.mk (mRebuild_calls h hx hcl)
 have HFR := Aside0.mk hfr
 have HK := Aside0.mk hk
 clear h hfb ht hD hs hcr hx hcl hfr hn hk
 go_enter Tryz.func41, Tryz.ntmps41
 go_upto_region 4 with (first
  | (go_at_call 89; refine (gCost_calls HM.out.grid t).mono ?_; rw [hcf]; rintro e w1 ⟨rfl, rfl⟩)
  | (go_at_call 23; refine HR.out.mono ?_; rintro e w2 ⟨x', rfl, hnet, hreb, hch⟩; have HM2 := Aside0.mk hnet; have HRB := Aside0.mk hreb; have HC2 := Aside0.mk hch; clear hnet hreb hch))
 have hfb2 : w2.heap[fb]? = some (finB m g kp n) := HC2.out.blk HB.out (finNot HM.out HB.out)
 have HB2 := Aside0.mk hfb2
 have c2 := cell_blk (j := 2) (u := .pointer kp) hfb2 rfl
 have c1 := cell_blk (j := 1) (u := .pointer (some ⟨g.gb, 0, none⟩)) hfb2 rfl
 clear hfb2 c0
 obtain ⟨kp0, hkp⟩ : ∃ kp0, kp0 = kp := ⟨_, rfl⟩
 rw [← hkp] at HB2
 have HKP := Aside0.mk hkp
 clear hkp
 rcases HK.out with hkp | ⟨rb0, db0, r0, hkp, hr0, hne | ⟨heq, hne⟩⟩
 all_goals rw [hkp] at c2
 case' inl =>
  go_quiet (fail)
 case' inr.inl =>
  have hn2 := rtNot HM.out hr0
  have q0 := cell_blk (j := 0) (u := .int .i64 r0.goal) (hr0.chg HC2.out hn2.1 hn2.2).box rfl
  have d2 : (r0.goal != t) = true := by rw [bne_iff_ne]; exact hne
  clear hr0 hn2
  go_quiet (fail)
 case' inr.inr =>
  have hn2 := rtNot HM.out hr0
  have q0 := cell_blk (j := 0) (u := .int .i64 r0.goal) (hr0.chg HC2.out hn2.1 hn2.2).box rfl
  have q1 := cell_blk (j := 1) (u := .int .i64 r0.ep) (hr0.chg HC2.out hn2.1 hn2.2).box rfl
  have d2 : (r0.goal != t) = false := by rw [heq]; simp
  have d3 : (r0.ep != s.ep) = true := by rw [bne_iff_ne]; exact hne
  clear hr0 hn2 heq hne
  go_quiet ((go_at_call 52; refine (gEpoch_calls (HM2.out.below (pw_below_drewN (Below.refl w2.heap.size w2) _)).grid).mono ?_; rintro e w9 ⟨rfl, rfl⟩; exact ⟨rfl, _, rfl⟩))
 all_goals
  rename_i nq
  have HM3 := Aside0.mk (HM2.out.below (pw_below_drewN (Below.refl w2.heap.size w2) nq))
  have HB3 : Aside0 ((w2.drewN nq).heap[fb]? = some (finB m g kp0 n)) := ⟨by rw [drewN_heap']; exact HB2.out⟩
  have HC3 := Aside0.mk (HC2.out.trans (Chg.of_below (pw_below_drewN (Below.refl w2.heap.size w2) nq) m.own))
  have hf3 := HFR.out x' HRB.out (by rw [HRB.out.len]; exact HM.out.len)
  have HF3 := Aside0.mk hf3
  clear HM2 HB2 HC2 c2 hf3
  generalize w2.drewN nq = w3 at *
  go_upto_region 6 with (go_at_call 92; refine (search_calls HM3.out HF3.out HB3.out HT.out.1 HT.out.2.1 HT.out.2.2).mono ?_; rintro e w4 ⟨rb, db, d, rfl, hrt, hlow, hbl, hdl, hd⟩; have HRT := Aside0.mk hrt; have HLW := Aside0.mk (And.intro hlow (And.intro hdl hd)); have HB4 := Aside0.mk (blk_step HB3.out hbl); have c2 := cell_blk (j := 2) (u := .pointer kp0) HB4.out rfl; have f2 := free_blk HB4.out 2; have HM4 := Aside0.mk (HM3.out.below hbl); have HC4 := Aside0.mk (HC3.out.trans (Chg.of_below hbl m.own)); clear hrt hlow hbl hdl hd)
  have hb5 := set_blk HB4.out 2 (.pointer (some ⟨rb, 0, none⟩))
  have hb5' : (w4.setCell ⟨fb, 2, none⟩ (.pointer (some ⟨rb, 0, none⟩))).heap[fb]? = some (finB m g (some ⟨rb, 0, none⟩) n) := hb5
  have HB5 := Aside0.mk hb5'
  have c2' := cell_blk (j := 2) (u := .pointer (some ⟨rb, 0, none⟩)) hb5' rfl
  have c3 := cell_blk (j := 3) (u := .int .u64 n) hb5' rfl
  have f3 := free_blk hb5' 3
  have HA := Aside0.mk (add_some HN.out)
  have hcs : Chg (fun b => b = fb) w4 (w4.setCell ⟨fb, 2, none⟩ (.pointer (some ⟨rb, 0, none⟩))) := (Chg.refl (fun b => b = fb) w4).set_ (.inl rfl) _
  have HCS := Aside0.mk hcs
  clear hb5 hb5' c2 f2 hcs
  generalize w4.setCell ⟨fb, 2, none⟩ (.pointer (some ⟨rb, 0, none⟩)) = w5 at *
  go_wp2_with (go_at_call 74; refine (tally_Add.calls n 1 (n + 1) _ HA.out).mono ?_; rintro e w6 ⟨rfl, ⟨q, rfl⟩⟩)
  go_ret
  have hc7 : Chg (fun b => b = fb) w4 ((w5.drewN q).setCell ⟨fb, 3, none⟩ (.int .u64 (n + 1))) := (HCS.out.trans (Chg.of_below (pw_below_drewN (Below.refl w5.heap.size w5) q) _)).set_ (.inl rfl) _
  have hb7 : ((w5.drewN q).setCell ⟨fb, 3, none⟩ (.int .u64 (n + 1))).heap[fb]? = some (finB m g (some ⟨rb, 0, none⟩) (n + 1)) := set_blk (w := w5.drewN q) (by rw [drewN_heap']; exact HB5.out) 3 (.int .u64 (n + 1))
  refine ⟨rb, db, d, x', rfl, HM4.out.fin HB4.out hc7, HRB.out, HRT.out.fin HB4.out hc7, hb7, ⟨Nat.le_trans HC3.out.size HLW.out.1.1, Nat.le_trans HC3.out.size HLW.out.1.2⟩, ?_, HLW.out.2.1, HLW.out.2.2⟩
  exact (HC4.out.mono (fun b hb => .inl hb)).trans (hc7.mono (fun b hb => .inr hb))
end Go.Proofs.YthgehdembghdaaaGreat.P
namespace Go.Proofs.YthgehdembghdaaaGreat.P
open Go.RowKit Go.Proofs.YthgehdembghdaaaGreatW.PrintWords Go.Proofs.YthgehdembghdaaaGreatW.PrintLast Go.Proofs.YthgehdembghdaaaGreatW.PrintMore
open Go.Proofs.YthgehdembghdaaaGreat.Geo Go.Proofs.YthgehdembghdaaaGreat.Dist
set_option linter.unusedVariables false
set_option linter.unusedSimpArgs false
variable {w w' : World} {g : Gb} {s : GridS} {m : Mb} {x : MeshS}
def grid0 (W H : Int) (C : List Int) : GridS := ⟨W, H, C, 1, List.replicate (cnt W H).toNat 1⟩
def mesh0 (W H : Int) : MeshS := ⟨List.replicate (cnt W H).toNat default, 0, 0⟩
structure BuiltR (w w' : World) (W H : Int) (C : List Int) (mb cb : Nat) (g : Gb) (m : Mb) : Prop where
 net : Net w' g m (grid0 W H C) (mesh0 W H)
 row : Kd.R (Kd.int .u8) 5 w' w.heap.size (fun _ => True) (.slice (some ⟨mb, 0, none⟩) C.length cb) C
 le : C.length ≤ cb
 apart : ∀ b, own2 g m b → w.heap.size ≤ b ∧ b ≠ mb
 below : Below w.heap.size w w'
end Go.Proofs.YthgehdembghdaaaGreat.P
namespace Go.Proofs.YthgehdembghdaaaGreat.P
open Go.RowKit Go.Proofs.YthgehdembghdaaaGreatW.PrintWords Go.Proofs.YthgehdembghdaaaGreatW.PrintLast Go.Proofs.YthgehdembghdaaaGreatW.PrintMore
open Go.Proofs.YthgehdembghdaaaGreat.Geo Go.Proofs.YthgehdembghdaaaGreat.Dist
set_option linter.unusedVariables false
set_option linter.unusedSimpArgs false
variable {w w' : World} {g : Gb} {s : GridS} {m : Mb} {x : MeshS}
def ones17 : List Int := List.replicate 17 1
def s17 : GridS := grid0 17 1 ones17
theorem ok17 : MapOk 17 1 ones17 := ⟨⟨by decide, by decide⟩, by decide, fun y hy => by rw [ones17, List.mem_replicate] at hy; omega⟩
structure T14 (w wr : World) (gt mb : Nat) (D : List Int) : Prop where
 box : wr.heap[gt]? = some (.cells #[.int .i64 17, .int .i64 1, .slice (some ⟨mb, 0, none⟩) 17 17] 26 (0, 0))
 row : Kd.R (Kd.int .u8) 5 wr 0 (fun b => b = mb) (.slice (some ⟨mb, 0, none⟩) D.length 17) D
 len : D.length = 17
 low : w.heap.size ≤ gt ∧ w.heap.size ≤ mb
 below : Below w.heap.size w wr
theorem T14.ne {wr : World} {gt mb : Nat} {D : List Int} (h : T14 w wr gt mb D) : gt ≠ mb := by
 obtain ⟨c1, h1⟩ := Kd.R_typed h.row _ rfl
 exact blk_ne h.box h1 (by decide)
theorem T14.set {wr : World} {gt mb : Nat} {D : List Int} (h : T14 w wr gt mb D) (i : Nat) : T14 w (wr.setCell ⟨mb, i, none⟩ (.int .u8 1)) gt mb (D.set i 1) := by
 have hv := Kd.R_putn h.row (i : Int) 1
 rw [Int.toNat_natCast] at hv
 exact ⟨blk_far h.box (p := ⟨mb, i, none⟩) h.ne _, by rw [List.length_set]; exact hv, by rw [List.length_set]; exact h.len, h.low, h.below.setCell h.low.2 _⟩
theorem run_b17 : ∀ W : World, (Instr.makeSlice 22 (.int .i64 17) (.int .i64 17)).run Tryz.prog W = .ok (.slice (some ⟨W.heap.size, 0, none⟩) 17 17) (W.alloc (.cells (madeCells #[.int .u8 0] 17) 5)) :=
 print_make_of (P := Tryz.prog) 22 5 (.int .u8 0) 1 Tryz.underlying22 info5 rfl (by decide) 17 (by omega)
end Go.Proofs.YthgehdembghdaaaGreat.P
namespace Go.Proofs.YthgehdembghdaaaGreat.P
open Go.RowKit Go.Proofs.YthgehdembghdaaaGreatW.PrintWords Go.Proofs.YthgehdembghdaaaGreatW.PrintLast Go.Proofs.YthgehdembghdaaaGreatW.PrintMore
open Go.Proofs.YthgehdembghdaaaGreat.Geo Go.Proofs.YthgehdembghdaaaGreat.Dist
set_option linter.unusedVariables false
set_option linter.unusedSimpArgs false
variable {w w' : World} {g : Gb} {s : GridS} {m : Mb} {x : MeshS}
structure DInv (s : GridS) (x : MeshS) (W H : Int) (cl n i : Nat) : Prop where
 dims : s.W = W ∧ s.H = H ∧ s.C.length = cl
 len : x.ps.length = n
 ver : ∀ j, j < n → (x.ps.getD j default).ver ≤ s.ep
 vv : ∀ j : Nat, j < n → rd s.V (j : Int) ≤ s.ep
 cle : x.clean ≤ s.ep
 clq : x.clean = s.ep → dirtyL s x n = []
 ep : s.ep ≤ 1 + (i : Int)
 cnt : x.cnt ≤ 4096 * (i : Int)
def Marks (s : GridS) (x : MeshS) (n : Nat) (B : List Bool) : Prop := B.length = n ∧ ∀ j : Nat, j < n → rdOf false B (j : Int) = decide (dirtyI s x j)
def gEd (s : GridS) (c : Nat) (y : Int) : GridS := { s with C := s.C.set c y, ep := s.ep + 1, V := s.V.set (sec s.W (c : Int)).toNat (s.ep + 1) }
theorem DInv.weak {W H : Int} {cl n i : Nat} (h : DInv s x W H cl n i) : DInv s x W H cl n (i + 1) := ⟨h.dims, h.len, h.ver, h.vv, h.cle, h.clq, by have := h.ep; omega, by have := h.cnt; omega⟩
theorem DInv.edit {W H : Int} {cl n i : Nat} (h : DInv s x W H cl n i) (hv : s.V.length = n) (c : Nat) (y : Int) : DInv (gEd s c y) x W H cl n (i + 1) := by
 have e := h.ep
 refine ⟨⟨h.dims.1, h.dims.2.1, by show (s.C.set c y).length = cl; rw [List.length_set]; exact h.dims.2.2⟩, h.len, fun j hj => ?_, fun j hj => ?_, ?_, fun q => ?_, ?_, ?_⟩
 ·have := h.ver j hj; show _ ≤ s.ep + 1; omega
 ·show rd (s.V.set _ _) _ ≤ s.ep + 1
  rw [rd_set' _ _ _ _ (by omega)]
  have := h.vv j hj
  split <;> omega
 ·have := h.cle; show _ ≤ s.ep + 1; omega
 ·have := h.cle
  have q' : x.clean = s.ep + 1 := q
  omega
 ·show s.ep + 1 ≤ _; omega
 ·have := h.cnt; omega
theorem DInv.dirty {W H : Int} {cl n i : Nat} (h : DInv s x W H cl n i) (hv : s.V.length = n) (c : Nat) (y : Int) {q : Nat} (hq : (sec s.W (c : Int)).toNat = q) : ∀ j, j < n → (dirtyI (gEd s c y) x j ↔ dirtyI s x j ∨ j = q) := by
 intro j hj
 have e : rd (gEd s c y).V (j : Int) = if q = j then s.ep + 1 else rd s.V (j : Int) := by
  show rd (s.V.set _ _) _ = _
  rw [rd_set' _ _ _ _ (by omega), hq]
 have := h.ver j hj
 unfold dirtyI
 rw [e]
 by_cases b : q = j
 ·rw [if_pos b]; constructor
  ·intro _; exact .inr b.symm
  ·intro _; omega
 ·rw [if_neg b]; constructor
  ·exact .inl
  ·rintro (r | r)
   ·exact r
   ·exact absurd r.symm b
theorem reb_clean {n : Nat} {x' : MeshS} (h : RebR s x x') (hl : x.ps.length = n) : dirtyL s x' n = [] := by
 apply List.eq_nil_iff_forall_not_mem.2
 intro c hc
 obtain ⟨i, hi, hd, _⟩ := mem_dirty.1 hc
 by_cases q : dirtyI s x i
 ·exact hd (h.new i (by omega) q).1
 ·unfold dirtyI at hd
  rw [h.old i (by omega) q] at hd
  exact q hd
theorem DInv.reb {W H : Int} {cl n i : Nat} {x' : MeshS} (h : DInv s x W H cl n (i + 1)) (h2 : x.cnt ≤ 4096 * (i : Int)) (hn : n ≤ 4096) (hr : RebR s x x') : DInv s x' W H cl n (i + 1) := by
 have hl := h.len
 have hle := dirty_len s x x.ps.length
 refine ⟨h.dims, hr.len.trans hl, fun j hj => ?_, h.vv, by rw [hr.clean]; exact Int.le_refl _, fun _ => reb_clean hr hl, h.ep, by rw [hr.cnt]; omega⟩
 by_cases q : dirtyI s x j
 ·rw [(hr.new j (by omega) q).1]; exact h.vv j hj
 ·rw [hr.old j (by omega) q]; exact h.ver j hj
structure DLoop (w wr : World) (g : Gb) (m : Mb) (s : GridS) (x : MeshS) (W H : Int) (gt mb cb db : Nat) (cl : Nat) (B : List Bool) : Prop where
 net : Net wr g m s x
 box : wr.heap[gt]? = some (.cells #[.int .i64 W, .int .i64 H, .slice (some ⟨mb, 0, none⟩) cl cb] 26 (0, 0))
 row : Kd.R Kd.bool 4 wr w.heap.size (fun b => b = db) (.slice (some ⟨db, 0, none⟩) B.length B.length) B
 low : ∀ b, own2 g m b → w.heap.size ≤ b
 below : Below w.heap.size w wr
variable {wr w2 : World} {W H : Int} {gt mb cb db cl : Nat} {B : List Bool}
theorem Net.odds (h : Net w g m s x) {b : Nat} (hb : own2 g m b) : ∃ cs t, w.heap[b]? = some (.cells cs t (0, 0)) ∧ (t = 104 ∨ t = 5 ∨ t = 2 ∨ t = 108 ∨ t = 111) := by
 obtain ⟨pvs, hm⟩ := h.mesh
 obtain ⟨c1, h1⟩ := h.grid.typM
 obtain ⟨c2, h2⟩ := h.grid.typV
 obtain ⟨c3, h3⟩ := hm.typ
 rcases hb with (rfl | rfl | rfl) | (rfl | rfl)
 ·exact ⟨_, _, h.grid.blk, .inl rfl⟩
 ·exact ⟨_, _, h1, .inr (.inl rfl)⟩
 ·exact ⟨_, _, h2, .inr (.inr (.inl rfl))⟩
 ·exact ⟨_, _, hm.blk, .inr (.inr (.inr (.inl rfl)))⟩
 ·exact ⟨_, _, h3, .inr (.inr (.inr (.inr rfl)))⟩
theorem Net.notown (h : Net w g m s x) {b : Nat} {cs : Array Value} {t : TypeId} (hb : w.heap[b]? = some (.cells cs t (0, 0))) (ht : t = 26 ∨ t = 4) : ¬ own2 g m b := by
 intro q
 obtain ⟨cs', t', h1, h2⟩ := h.odds q
 rw [hb] at h1
 injection h1 with h1
 injection h1 with _ h1 _
 rcases ht with rfl | rfl <;> rcases h2 with h2 | h2 | h2 | h2 | h2 <;> (rw [h2] at h1; revert h1; decide)
end Go.Proofs.YthgehdembghdaaaGreat.P
namespace Go.Proofs.YthgehdembghdaaaGreat.P
open Go.RowKit Go.Proofs.YthgehdembghdaaaGreatW.PrintWords Go.Proofs.YthgehdembghdaaaGreatW.PrintLast Go.Proofs.YthgehdembghdaaaGreatW.PrintMore
open Go.Proofs.YthgehdembghdaaaGreat.Geo Go.Proofs.YthgehdembghdaaaGreat.Dist
set_option linter.unusedVariables false
set_option linter.unusedSimpArgs false
variable {w w' wr w2 : World} {g : Gb} {s : GridS} {m : Mb} {x : MeshS} {W H : Int} {C : List Int} {gt mb cb : Nat}
structure WayM (w wr : World) (g : Gb) (m : Mb) (s : GridS) (x : MeshS) (W H : Int) (gt mb cb : Nat) (C : List Int) : Prop where
 net : Net wr g m s x
 box : wr.heap[gt]? = some (.cells #[.int .i64 W, .int .i64 H, .slice (some ⟨mb, 0, none⟩) C.length cb] 26 (0, 0))
 row : Kd.R (Kd.int .u8) 5 wr w.heap.size (fun b => b = mb) (.slice (some ⟨mb, 0, none⟩) C.length cb) C
 low : ∀ b, own2 g m b → w.heap.size ≤ b ∧ b ≠ mb
 below : Below w.heap.size w wr
 gtl : w.heap.size ≤ gt
theorem WayM.step {s2 : GridS} {x2 : MeshS} (h : WayM w wr g m s x W H gt mb cb C) (hn : Net w2 g m s2 x2) (hc : Chg (own2 g m) wr w2) : WayM w w2 g m s2 x2 W H gt mb cb C :=
 ⟨hn, hc.blk h.box (h.net.notown h.box (.inl rfl)), hc.R h.row (fun k hk q => (h.low k q).2 hk), h.low, h.below.trans (hc.below (fun b hb => (h.low b hb).1) h.below.size), h.gtl⟩
theorem WayM.go (h : WayM w wr g m s x W H gt mb cb C) (hb : Below wr.heap.size wr w2) : WayM w w2 g m s x W H gt mb cb C := h.step (h.net.below hb) (Chg.of_below hb _)
theorem dirty_first {n : Nat} (hn : (n : Int) = cnt W H) {j : Nat} (hj : j < n) : dirtyI (grid0 W H C) (mesh0 W H) j := by
 have : (cnt W H).toNat = n := by omega
 show (((List.replicate (cnt W H).toNat (default : Part)).getD j default).ver) ≠ rd (List.replicate (cnt W H).toNat 1) (j : Int)
 rw [this, rd_get _ (by simpa using hj), List.getElem_replicate, List.getD_eq_getElem?_getD, List.getElem?_replicate, if_pos hj]
 decide
theorem mesh0_len {n : Nat} (hn : (n : Int) = cnt W H) : (mesh0 W H).ps.length = n := by
 show (List.replicate (cnt W H).toNat (default : Part)).length = n
 rw [List.length_replicate]
 omega
end Go.Proofs.YthgehdembghdaaaGreat.P
namespace Go.Proofs.YthgehdembghdaaaGreat.P
open Go.RowKit Go.Proofs.YthgehdembghdaaaGreatW.PrintWords Go.Proofs.YthgehdembghdaaaGreatW.PrintLast Go.Proofs.YthgehdembghdaaaGreatW.PrintMore
open Go.Proofs.YthgehdembghdaaaGreat.Geo Go.Proofs.YthgehdembghdaaaGreat.Dist
set_option linter.unusedVariables false
set_option linter.unusedSimpArgs false
variable {w w' : World} {g : Gb} {m : Mb} {W H : Int} {C : List Int} {fb : Nat}
theorem fresh0 (hok : MapOk W H C) {x' : MeshS} (h : RebR (grid0 W H C) (mesh0 W H) x') (hl : (x'.ps.length : Int) = cnt W H) : Fresh (grid0 W H C) x' := by
 have hn : (((cnt W H).toNat : Nat) : Int) = cnt W H := by have := cnt_le hok.dim; omega
 have hm := mesh0_len hn
 refine ⟨hok, hl, fun i hi => ?_⟩
 rw [h.len, hm] at hi
 exact (h.new i (by rw [hm]; exact hi) (dirty_first hn hi)).2
structure FinR (w w' : World) (W H : Int) (C : List Int) (g : Gb) (m : Mb) (fb : Nat) : Prop where
 net : Net w' g m (grid0 W H C) (mesh0 W H)
 box : w'.heap[fb]? = some (finB m g none 0)
 low : (∀ b, own2 g m b → w.heap.size ≤ b) ∧ w.heap.size ≤ fb
 below : Below w.heap.size w w'
set_option maxRecDepth 100000 in
set_option maxHeartbeats 4000000 in
theorem finder_calls (hok : MapOk W H C) (ad : Addr) (cb : Nat) (w : World) (hr : Kd.C (Kd.int .u8) w (some ad) C.length C) (hle : C.length ≤ cb) : Calls Tryz.prog 47 #[.agg #[.int .i64 W, .int .i64 H, .slice (some ad) C.length cb]] w fun e w' => ∃ g m fb, e = .returned (.tuple #[.pointer (some ⟨g.gb, 0, none⟩), .pointer (some ⟨fb, 0, none⟩)]) ∧ FinR w w' W H C g m fb := by
 have HR := Aside0.mk hr
 have HLE := Aside0.mk hle
 have HOK := Aside0.mk hok
 clear hr hle hok
 go_enter Tryz.func47, Tryz.ntmps47
 go_upto_region 1 with fail
 have hb1 := below_alloc (Below.refl w.heap.size w) (.cells #[.int .i64 W, .int .i64 H, .slice (some ad) C.length cb] 26)
 have hx := heap_alloc_new w (.cells #[.int .i64 W, .int .i64 H, .slice (some ad) C.length cb] 26)
 have t0 := cell_blk (j := 0) (u := .int .i64 W) hx rfl
 have t1 := cell_blk (j := 1) (u := .int .i64 H) hx rfl
 have t2 := cell_blk (j := 2) (u := .slice (some ad) C.length cb) hx rfl
 have HB1 := Aside0.mk hb1
 clear hb1 hx
 generalize w.alloc (.cells #[.int .i64 W, .int .i64 H, .slice (some ad) C.length cb] 26) = w1 at *
 go_wp2_with (first
  | (go_at_call 39; refine (gNew_calls HOK.out ad cb _ (Kd.C_below HR.out HB1.out) HLE.out).mono ?_; rintro e w2 ⟨g, rfl, hg, hb, hlow⟩; have HG2 := Aside0.mk hg; have HB2 := Aside0.mk (below_step HB1.out hb); have HL2 := Aside0.mk (fun b hb2 => Nat.le_trans HB1.out.size (hlow b hb2)); clear hg hb hlow)
  | (go_at_call 37; refine (mNew_calls HG2.out).mono ?_; rintro e w3 ⟨m, rfl, hn, hb, hlow⟩; have HN3 := Aside0.mk hn; have HB3 := Aside0.mk (below_step HB2.out hb); have HL3 := Aside0.mk (fun b hb2 => Nat.le_trans HB2.out.size (hlow b hb2)); clear hn hb hlow)
  | (go_at_call 40; refine (fNew_calls (m := m) (g := g) _).mono ?_; rintro e w4 ⟨rfl, hx, hb⟩; have HX4 := Aside0.mk hx; have HN4 := Aside0.mk (HN3.out.below hb); have HB4 := Aside0.mk (below_step HB3.out hb); have HL4 := Aside0.mk HB3.out.size; clear hx hb))
 go_ret2
 exact ⟨g, m, _, rfl, HN4.out, HX4.out, ⟨fun b hb => hb.elim (HL2.out b) (HL3.out b), HL4.out⟩, HB4.out⟩
theorem flat17 {D : List Int} (h : FlatD 17 1 ones17 0 D) : ∀ c : Int, 0 ≤ c → c < 17 → rd D c = c := by
 have hone : ∀ c : Int, 0 ≤ c → c < 17 → rd ones17 c = 1 := by
  intro c h0 h1
  obtain ⟨n, rfl⟩ : ∃ n : Nat, c = n := ⟨c.toNat, by omega⟩
  rw [rd_get ones17 (by simp [ones17]; omega)]
  exact List.getElem_replicate ..
 have up : ∀ n : Nat, n < 17 → rd D (n : Int) ≤ n := by
  intro n
  induction n with
  | zero => intro _; have := h.self (by rw [hone 0 (by omega) (by omega)]; decide); show rd D 0 ≤ 0; omega
  | succ n ih =>
   intro hn
   have ho : ¬ OutE 17 1 ((n + 1 : Nat) : Int) 3 := by unfold OutE; omega
   have e : nbS 17 ((n + 1 : Nat) : Int) 3 = (n : Int) := by simp [nbS] <;> omega
   have := h.up (c := ((n + 1 : Nat) : Int)) (d := 3) ⟨by omega, by omega⟩ (by omega) ho (by rw [hone _ (by omega) (by omega)]; decide) (by rw [e, hone _ (by omega) (by omega)]; decide)
   rw [e, hone _ (by omega) (by omega)] at this
   have := ih (by omega)
   omega
 have lo : ∀ (m : Nat) (c : Int), 0 ≤ c → c < 17 → rd D c ≤ (m : Int) → c ≤ rd D c := by
  intro m
  induction m with
  | zero =>
   intro c h0 h1 hm
   rcases h.att (c := c) ⟨h0, by omega⟩ with e | ⟨_, ⟨e, _⟩ | ⟨d, hd, ho, _, e⟩⟩
   ·unfold INF at e; omega
   ·have := (h.rng (c := c) ⟨h0, by omega⟩).1; omega
   ·have nr := nb_rng h.ok.dim h0 (by omega) hd ho
    have := (h.rng nr).1
    rw [hone _ nr.1 (by omega)] at e
    omega
  | succ m ih =>
   intro c h0 h1 hm
   rcases h.att (c := c) ⟨h0, by omega⟩ with e | ⟨_, ⟨e, _⟩ | ⟨d, hd, ho, _, e⟩⟩
   ·unfold INF at e; omega
   ·have := (h.rng (c := c) ⟨h0, by omega⟩).1; omega
   ·have nr := nb_rng h.ok.dim h0 (by omega) hd ho
    rw [hone _ nr.1 (by omega)] at e
    have := ih _ nr.1 (by omega) (by omega)
    have hb : c - 1 ≤ nbS 17 c d := by
     unfold OutE at ho
     rcases s4 hd with rfl | rfl | rfl | rfl
     ·exfalso; omega
     ·simp [nbS]; omega
     ·exfalso; omega
     ·simp [nbS]
    omega
 intro c h0 h1
 obtain ⟨n, rfl⟩ : ∃ n : Nat, c = n := ⟨c.toNat, by omega⟩
 have := up n (by omega)
 have := lo n (n : Int) h0 h1 this
 omega
theorem at17 {x : MeshS} {D d : List Int} (hF : Fresh s17 x) (hD : FlatD 17 1 ones17 0 D) (hl : d.length = 17) (h : ∀ c : Nat, c < 17 → rd d (c : Int) = routeD s17 x D (c : Int)) : atR d 15 = 15 ∧ atR d 16 = 16 ∧ atR d 3 = INF := by
 have f := flat17 hD
 have n15 : isNode s17 x 15 := (isNode_iff hF 15).2 ⟨by decide, by decide, by decide⟩
 have n16 : isNode s17 x 16 := (isNode_iff hF 16).2 ⟨by decide, by decide, by decide⟩
 have n3 : ¬ isNode s17 x 3 := fun q => by have := ((isNode_iff hF 3).1 q).2.1; revert this; decide
 have e15 := h 15 (by omega)
 have e16 := h 16 (by omega)
 have e3 := h 3 (by omega)
 unfold routeD at e15 e16 e3
 rw [if_pos ⟨n15, by rw [show ((15 : Nat) : Int) = 15 from rfl, f 15 (by omega) (by omega)]; decide⟩] at e15
 rw [if_pos ⟨n16, by rw [show ((16 : Nat) : Int) = 16 from rfl, f 16 (by omega) (by omega)]; decide⟩] at e16
 rw [if_neg (fun q => n3 q.1)] at e3
 have e15' : rd d 15 = 15 := e15.trans (f 15 (by omega) (by omega))
 have e16' : rd d 16 = 16 := e16.trans (f 16 (by omega) (by omega))
 have e3' : rd d 3 = farN := e3
 unfold atR
 rw [e15', e16', e3', hl]
 exact ⟨by decide, by decide, by decide⟩
set_option maxRecDepth 100000 in
set_option maxHeartbeats 8000000 in
theorem told15_calls (w : World) : Calls Tryz.prog 44 #[] w fun e w' => e = .returned (.bool true) ∧ Below w.heap.size w w' := by
 have hmk := run_b17
 go_enter Tryz.func44, Tryz.ntmps44
 go_upto_region 2 with ((with_reducible refine gate_dst (N := 1) rfl ?_); refine box_event ?hg (N := 1) ?hd (cs := #[.int .i64 0, .int .i64 0, .slice none 0 0]) (t := 26) ?hr ?_; (case hd => rfl); (case hg => rfl); (case hr => first | (go_simp; done) | (go_simp; rfl)); intro gt hg w1 hbox hb; have z0 : w1.cell? ⟨gt, 0, none⟩ = _ := cell_blk hbox rfl; have z1 : w1.cell? ⟨gt, 1, none⟩ = _ := cell_blk hbox rfl; have z2 : w1.cell? ⟨gt, 2, none⟩ = _ := cell_blk hbox rfl; have f0 := free_blk hbox 0; have f1 := free_blk hbox 1; have f2 := free_blk hbox 2; have HX1 := Aside0.mk hbox; have HB1 := Aside0.mk hb; have HG1 := Aside0.mk hg; clear hbox hb hg)
 obtain ⟨w4, hw4⟩ : ∃ w4, w4 = (((w1.setCell ⟨gt, 0, none⟩ (.int .i64 17)).setCell ⟨gt, 1, none⟩ (.int .i64 1)).setCell ⟨gt, 2, none⟩ (.slice (some ⟨w.heap.size, 0, none⟩) 17 17)) := ⟨_, rfl⟩
 rw [← hw4]
 obtain ⟨mb, hmb⟩ : ∃ mb, mb = w.heap.size := ⟨_, rfl⟩
 have hst : T14 w w4 gt mb (List.replicate 17 0) := by
  have hb0 : Below w.heap.size w (w.alloc (.cells (madeCells #[.int .u8 0] 17) 5)) := below_alloc (Below.refl _ _) _
  have hlo : w.heap.size ≤ gt := by rw [HG1.out]; exact hb0.size
  have hr0 : Kd.R (Kd.int .u8) 5 (w.alloc (.cells (madeCells #[.int .u8 0] 17) 5)) 0 (fun b => b = mb) (.slice (some ⟨mb, 0, none⟩) (List.replicate 17 (0 : Int)).length 17) (List.replicate 17 0) := by
   rw [hmb]
   refine Kd.R_of_own ?_ (fun k hk => by simp [Value.ownBlock] at hk; exact hk.symm)
   rw [List.length_replicate]
   exact own_made_of w 0 5 17 (Nat.zero_le _) (by omega)
  have hne : ∀ k, k = mb → k ≠ gt := by
   intro k hk e
   rw [hk, hmb, HG1.out, World.size_alloc] at e
   omega
  have hr1 := Kd.R_below hr0 HB1.out
  refine ⟨?_, ?_, by simp, ⟨hlo, by omega⟩, ?_⟩
  ·rw [hw4, ← hmb]; exact set_blk (set_blk (set_blk HX1.out 0 _) 1 _) 2 _
  ·rw [hw4]; exact Kd.R_far (Kd.R_far (Kd.R_far hr1 (p := ⟨gt, 0, none⟩) hne _) (p := ⟨gt, 1, none⟩) hne _) (p := ⟨gt, 2, none⟩) hne _
  ·rw [hw4]; exact (((hb0.trans (Below.mono HB1.out hb0.size)).setCell hlo _).setCell hlo _).setCell hlo _
 rw [← hmb]
 have HST := Aside0.mk hst
 clear hst hw4 hmb z0 z1 z2 f0 f1 f2 HX1 HB1 HG1 hmk
 go_wp2_with fail
 go_loopg [2] 17 (fun gg v2 wr => ∃ (k : Nat) (D : List Int), v2 = .int .i64 k ∧ k ≤ 17 ∧ 17 - k ≤ gg ∧ Aside0 (∀ j : Nat, j < k → rd D (j : Int) = 1) ∧ Aside0 (T14 w wr gt mb D))
 case atStart => exact ⟨0, _, rfl, Nat.zero_le _, Nat.le_refl _, ⟨fun j hj => absurd hj (by omega)⟩, HST⟩
 case round =>
  clear HST
  obtain ⟨k, D, rfl, hk, hgg, HV, HT⟩ := hrel
  by_cases hlt : k < 17
  ·have d1 : (k : Int) < 17 := by omega
   have e1 : (0 : Int) ≤ (k : Int) := by omega
   have z2 := cell_blk (j := 2) (u := .slice (some ⟨mb, 0, none⟩) 17 17) HT.out.box rfl
   have hv := Kd.R_celln 0 HT.out.row (k : Int) e1 (by rw [HT.out.len]; exact d1)
   rw [Int.toNat_natCast] at hv
   obtain ⟨vc, vf⟩ := hv
   have HI := Aside0.mk (And.intro hk (And.intro hgg hlt))
   clear hk hgg hlt
   go_wp2_with fail
   go_roundg (17 - (k + 1))
   case measure => have := HI.out; omega
   case rel =>
    have hh := HI.out
    exact ⟨k + 1, D.set k 1, by first | rfl | (rw [w64 (n := (k : Int) + 1) (by omega) (by omega)]; rfl), by omega, Nat.le_refl _, ⟨fun j hj => by
     rw [rd_set' _ _ _ _ (by rw [HT.out.len]; omega)]
     by_cases q : k = j
     ·rw [if_pos q]
     ·rw [if_neg q]; exact HV.out j (by omega)⟩, ⟨HT.out.set k⟩⟩
  ·obtain rfl : k = 17 := by omega
   clear hk hgg hlt
   have hD : D = ones17 := rep_of HT.out.len HV.out
   subst hD
   have z0 := cell_blk (j := 0) (u := .int .i64 17) HT.out.box rfl
   have z1 := cell_blk (j := 1) (u := .int .i64 1) HT.out.box rfl
   have z2 := cell_blk (j := 2) (u := .slice (some ⟨mb, 0, none⟩) 17 17) HT.out.box rfl
   clear HV
   obtain ⟨D17, hD17⟩ := flatD_ex (t := 0) ok17 ⟨by omega, by omega⟩
   have HD := Aside0.mk hD17
   clear hD17
   go_upto_region 10 with (first
    | (go_at_call 47; refine (finder_calls ok17 ⟨mb, 0, none⟩ 17 _ (Kd.R_reads' HT.out.row).2.2 (Kd.R_reads' HT.out.row).2.1).mono ?_; rintro e w5 ⟨g, m, fb, rfl, hf⟩; have HF5 := Aside0.mk hf; have HB5 := Aside0.mk (below_step HT.out.below hf.below); clear hf z0 z1 z2)
    | (go_at_call 41; refine (find_new (t := 0) (D := D17) HF5.out.net (by decide) (fun q => absurd q (by decide)) (fun x' hr hl => fresh0 ok17 hr hl) HF5.out.box (by omega) (.inl rfl) ⟨by omega, by decide⟩ HD.out (by decide)).mono ?_; rintro e w6 ⟨rb, db, d, x6, rfl, hn, hr, hrt, hbx, hlw, hc, hdl, hd⟩; have HR6 := Aside0.mk hr; have HN6 := Aside0.mk hn; have HRT6 := Aside0.mk hrt; have HX6 := Aside0.mk hbx; have HD6 := Aside0.mk (And.intro hdl hd); have HC6 := Aside0.mk hc; clear hn hr hrt hbx hlw hc hdl hd))
   have hf6 := fresh0 ok17 HR6.out (HN6.out.len)
   have hat := at17 hf6 HD.out HD6.out.1 HD6.out.2
   have HAT := Aside0.mk hat
   clear hf6 hat
   go_wp2_with (first
    | (go_at_call 42; with_reducible refine (at_calls HRT6.out 15).mono ?_; rw [show atR _ 15 = 15 from HAT.out.1]; rintro e w7 ⟨rfl, rfl⟩)
    | (go_at_call 42; with_reducible refine (at_calls HRT6.out 16).mono ?_; rw [show atR _ 16 = 16 from HAT.out.2.1]; rintro e w7 ⟨rfl, rfl⟩)
    | (go_at_call 42; with_reducible refine (at_calls HRT6.out 3).mono ?_; rw [show atR _ 3 = 1099511627776 from HAT.out.2.2]; rintro e w7 ⟨rfl, rfl⟩)
    | (go_at_call 48; with_reducible refine (fCount_calls HX6.out).mono ?_; rintro e w7 ⟨rfl, rfl⟩))
   go_ret
   refine ⟨rfl, HB5.out.trans (HC6.out.below (fun b hb => ?_) HB5.out.size)⟩
   have hsz := HT.out.below.size
   rcases hb with hb | rfl
   ·exact Nat.le_trans hsz (HF5.out.low.1 b (.inr hb))
   ·exact Nat.le_trans hsz HF5.out.low.2
end Go.Proofs.YthgehdembghdaaaGreat.P
namespace Go.Proofs.YthgehdembghdaaaGreat.P
open Go.RowKit Go.Proofs.YthgehdembghdaaaGreatW.PrintWords Go.Proofs.YthgehdembghdaaaGreatW.PrintLast Go.Proofs.YthgehdembghdaaaGreatW.PrintMore
open Go.Proofs.YthgehdembghdaaaGreat.Geo Go.Proofs.YthgehdembghdaaaGreat.Dist
set_option linter.unusedVariables false
set_option linter.unusedSimpArgs false
variable {w w' : World} {W H : Int} {C D d : List Int} {t : Int}
structure RtOk (W H : Int) (C D d : List Int) : Prop where
 len : d.length = C.length
 at_ : ∀ c : Nat, c < C.length → rd d (c : Int) = if (edgeS W H (c : Int) ∧ rd C (c : Int) ≠ 255) ∧ rd D (c : Int) ≠ INF then rd D (c : Int) else farN
theorem rtOk_of {s : GridS} {x : MeshS} (hF : Fresh s x) (hl : d.length = s.C.length) (h : ∀ c : Nat, c < s.C.length → rd d (c : Int) = routeD s x D (c : Int)) : RtOk s.W s.H s.C D d := by
 refine ⟨hl, fun c hc => ?_⟩
 rw [h c hc]
 unfold routeD
 have hM := hF.ok.len
 have e : isNode s x (c : Int) ↔ edgeS s.W s.H (c : Int) ∧ rd s.C (c : Int) ≠ 255 := (isNode_iff hF _).trans ⟨fun q => q.2, fun q => ⟨⟨by omega, by omega⟩, q⟩⟩
 by_cases q : isNode s x (c : Int) ∧ rd D (c : Int) ≠ INF
 ·rw [if_pos q, if_pos ⟨e.1 q.1, q.2⟩]
 ·rw [if_neg q, if_neg (fun z => q ⟨e.2 z.1, z.2⟩)]
def wantE (W H : Int) (C D : List Int) (c : Int) : Int := if (0 ≤ c ∧ c < W * H) ∧ edgeS W H c ∧ rd C c ≠ 255 then rd D c else INF
theorem at_want (hD : FlatD W H C t D) (h : RtOk W H C D d) (c : Int) : atR d c = wantE W H C D c := by
 have hM := hD.ok.len
 unfold atR wantE
 by_cases hc : 0 ≤ c ∧ c < W * H
 ·obtain ⟨n, rfl⟩ : ∃ n : Nat, c = n := ⟨c.toNat, by omega⟩
  have hn : n < C.length := by omega
  have e := h.at_ n hn
  rw [h.len]
  by_cases q : edgeS W H (n : Int) ∧ rd C (n : Int) ≠ 255
  ·by_cases f : rd D (n : Int) ≠ INF
   ·have := hD.small hc f
    have wh := wh_le hD.ok.dim
    rw [if_pos ⟨q, f⟩] at e
    rw [e, if_pos ⟨by omega, by omega, by unfold farN; omega⟩, if_pos ⟨hc, q⟩]
   ·have f' : rd D (n : Int) = INF := by omega
    rw [if_neg (fun z => f z.2)] at e
    rw [e, if_neg (fun z => z.2.2 rfl), if_pos ⟨hc, q⟩, f']
  ·rw [if_neg (fun z => q z.1)] at e
   rw [e, if_neg (fun z => z.2.2 rfl), if_neg (fun z => q z.2)]
 ·rw [if_neg (fun z => hc ⟨z.1, by have := z.2.1; rw [h.len] at this; omega⟩), if_neg (fun z => hc z.1)]
set_option maxRecDepth 1000000 in
set_option maxHeartbeats 8000000 in
theorem exact_calls {rb db : Nat} {r : RtS} (hr : RtM w rb db r) (hd : RtOk W H C D r.dist) (hD : FlatD W H C t D) {A : Addr} {cp : Nat} (hC : Kd.C (Kd.int .u8) w (some A) C.length C) (hcp : C.length ≤ cp) : Calls Tryz.prog 53 #[.pointer (some ⟨rb, 0, none⟩), .agg #[.int .i64 W, .int .i64 H, .slice (some A) C.length cp], .int .i64 t] w fun e w' => e = .returned (.bool true) ∧ Below w.heap.size w w' := by
 have HRT := Aside0.mk hr
 have HD := Aside0.mk hD
 have HC := Aside0.mk hC
 have HCP := Aside0.mk hcp
 have HAW := Aside0.mk (fun c => at_want hD hd c)
 have hcl : 1 ≤ C.length ∧ C.length ≤ 1048576 := by have := hD.ok.len; have := wh_le hD.ok.dim; omega
 have HCL := Aside0.mk hcl
 clear hr hd hD hC hcp hcl
 go_enter Tryz.func53, Tryz.ntmps53
 go_upto_region 1 with fail
 have hx := heap_alloc_new w (.cells #[.int .i64 W, .int .i64 H, .slice (some A) C.length cp] 26)
 have HX := Aside0.mk hx
 have HB1 := Aside0.mk (below_alloc (Below.refl w.heap.size w) (.cells #[.int .i64 W, .int .i64 H, .slice (some A) C.length cp] 26))
 have t0 := cell_blk (j := 0) (u := .int .i64 W) hx rfl
 have t1 := cell_blk (j := 1) (u := .int .i64 H) hx rfl
 have t2 := cell_blk (j := 2) (u := .slice (some A) C.length cp) hx rfl
 clear hx
 generalize w.alloc (.cells #[.int .i64 W, .int .i64 H, .slice (some A) C.length cp] 26) = w1 at *
 obtain ⟨b4, hb4⟩ : ∃ b4, b4 = w.heap.size := ⟨_, rfl⟩
 rw [← hb4] at HX t0 t1 t2 ⊢
 have HB4 := Aside0.mk hb4
 clear hb4
 go_upto_region 2 with (go_at_call 58; refine (flat_calls (w := w1) (A := A) HD.out.ok (Kd.C_below HC.out HB1.out) HCP.out HD.out).mono ?_; rintro e w2 ⟨fb, rfl, hrow, hge, hbl⟩; have HR2 := Aside0.mk hrow; have HB2 := Aside0.mk (below_step HB1.out hbl); have HX2 := Aside0.mk (blk_step HX.out hbl); clear hrow hge hbl)
 clear t0 t1 t2 HX HB1
 go_wp2_with fail
 go_loopg [8] (C.length + 2) (fun gg v8 wr => ∃ (i : Nat), v8 = .int .i64 ((i : Int) - 1) ∧ i ≤ C.length + 2 ∧ C.length + 2 - i ≤ gg ∧ Aside0 (Below w2.heap.size w2 wr))
 case atStart => exact ⟨0, rfl, by omega, by omega, ⟨Below.refl _ _⟩⟩
 case round =>
  obtain ⟨i, rfl, hi, hgg, HBr⟩ := hrel
  by_cases hlt : i < C.length + 2
  ·obtain ⟨c, hc⟩ : ∃ c, c = (i : Int) - 1 := ⟨_, rfl⟩
   rw [← hc]
   have d1 : c ≤ (C.length : Int) := by omega
   have HJ := Aside0.mk (And.intro hi (And.intro hgg (And.intro hlt hc)))
   have HIC := Aside0.mk (rIsCell HD.out.ok.dim c)
   have HIN := Aside0.mk (rIsNode HD.out.ok c 30 (Nat.le_refl _))
   have haw := HAW.out c
   have hML := HD.out.ok.len
   have HXr := Aside0.mk (blk_step HX2.out HBr.out)
   have t0 := cell_blk (j := 0) (u := .int .i64 W) HXr.out rfl
   have t1 := cell_blk (j := 1) (u := .int .i64 H) HXr.out rfl
   by_cases hcell : 0 ≤ c ∧ c < W * H
   ·have hic : decide (0 ≤ c ∧ c < W * H) = true := decide_eq_true hcell
    rw [hic] at HIC
    by_cases hnode : edgeS W H c ∧ rd C c ≠ 255
    ·have hin : decide ((0 ≤ c ∧ c < W * H) ∧ edgeS W H c ∧ rd C c ≠ 255) = true := decide_eq_true ⟨hcell, hnode⟩
     rw [hin] at HIN
     have hw : atR r.dist c = rd D c := by rw [haw]; unfold wantE; rw [if_pos ⟨hcell, hnode⟩]
     obtain ⟨n, hn⟩ : ∃ n : Nat, c = n := ⟨c.toNat, by omega⟩
     have hnl : n < D.length := by rw [HD.out.len]; omega
     have HW := Aside0.mk hw
     have hrr := fun (w9 : World) (hb9 : Below w2.heap.size w2 w9) => (HR2.out.heap (w' := w9) (by obtain ⟨cs, hcs⟩ := HR2.out.typ; exact hb9.block _ (blk_lt hcs)))
     have hcc := fun (w9 : World) (hb9 : Below w2.heap.size w2 w9) => (by
      have := (hrr w9 hb9).cell (j := n) (c := 0) (by simpa using hnl) (by omega) (u := .int .i64 (D.getD n default)) (by rw [getD_toArray]; rfl)
      rw [Nat.mul_one, Nat.add_zero] at this
      rw [this]
      unfold rd
      rw [Int.toNat_natCast]
      rfl : w9.cell? ⟨fb, n, none⟩ = some (.int .i64 (rd D (n : Int))))
     have HCC := Aside0.mk hcc
     have e1 : (0 : Int) ≤ (n : Int) := by omega
     have e2 : (n : Int) < (C.length : Int) := by omega
     have HN := Aside0.mk hn
     clear hML hic hin haw hw hrr hcc hcell hnode hi hgg hlt hc hnl
     subst hn
     have dq : (rd D (n : Int) != rd D (n : Int)) = false := by simp
     go_upto_if 29 with (first
      | (go_at_call 54; refine (herdsmanref1_IsCell.calls W H _ _ _ HIC.out).mono ?_; rintro e w5 ⟨rfl, hd⟩; have HB5 := Aside0.mk (below_step HBr.out hd.below); have HX5 := Aside0.mk (blk_step HXr.out hd.below); have s0 := cell_blk (j := 0) (u := .int .i64 W) HX5.out rfl; have s1 := cell_blk (j := 1) (u := .int .i64 H) HX5.out rfl; have s2 := cell_blk (j := 2) (u := .slice (some A) C.length cp) HX5.out rfl; clear hd)
      | (go_at_call 81; refine (herdsmanref11_IsNode.calls 30 W H (some A) cp C _ _ _ (Kd.C_below HC.out (below_step HB2.out HB5.out)) HCP.out HIN.out).mono ?_; rintro e w6 ⟨rfl, hb⟩; have HB6 := Aside0.mk (below_step HB5.out hb); clear hb))
     have q0 := HCC.out w6 HB6.out
     go_wp2_with (go_at_call 42; refine (at_calls (HRT.out.below (below_step HB2.out HB6.out)) (n : Int)).mono ?_; rw [HW.out]; rintro e w7 ⟨rfl, rfl⟩)
     go_roundg (C.length + 2 - (i + 1))
     case measure => have := HJ.out; omega
     case rel =>
      have hh := HJ.out
      have hl := HCL.out
      exact ⟨i + 1, by first | rfl | (show Value.int .i64 (wrap64 _) = Value.int .i64 _; rw [w64 (by omega) (by omega)]; congr 1; omega) | (show Value.int .i64 _ = Value.int .i64 _; congr 1; omega), by omega, Nat.le_refl _, HB6⟩
    ·have hin : decide ((0 ≤ c ∧ c < W * H) ∧ edgeS W H c ∧ rd C c ≠ 255) = false := decide_eq_false (fun q => hnode q.2)
     rw [hin] at HIN
     have hw : atR r.dist c = 1099511627776 := by rw [haw]; unfold wantE; rw [if_neg (fun q => hnode q.2)]
     have HW := Aside0.mk hw
     clear hML hic hin haw hw hcell hnode hi hgg hlt hc
     go_wp2_with (first
      | (go_at_call 54; refine (herdsmanref1_IsCell.calls W H _ _ _ HIC.out).mono ?_; rintro e w5 ⟨rfl, hd⟩; have HB5 := Aside0.mk (below_step HBr.out hd.below); have HX5 := Aside0.mk (blk_step HXr.out hd.below); have s0 := cell_blk (j := 0) (u := .int .i64 W) HX5.out rfl; have s1 := cell_blk (j := 1) (u := .int .i64 H) HX5.out rfl; have s2 := cell_blk (j := 2) (u := .slice (some A) C.length cp) HX5.out rfl; clear hd)
      | (go_at_call 81; refine (herdsmanref11_IsNode.calls 30 W H (some A) cp C _ _ _ (Kd.C_below HC.out (below_step HB2.out HB5.out)) HCP.out HIN.out).mono ?_; rintro e w6 ⟨rfl, hb⟩; have HB6 := Aside0.mk (below_step HB5.out hb); clear hb)
      | (go_at_call 42; refine (at_calls (HRT.out.below (below_step HB2.out HB6.out)) c).mono ?_; rw [HW.out]; rintro e w7 ⟨rfl, rfl⟩))
     go_roundg (C.length + 2 - (i + 1))
     case measure => have := HJ.out; omega
     case rel =>
      have hh := HJ.out
      have hl := HCL.out
      exact ⟨i + 1, by first | rfl | (show Value.int .i64 (wrap64 _) = Value.int .i64 _; rw [w64 (by omega) (by omega)]; congr 1; omega) | (show Value.int .i64 _ = Value.int .i64 _; congr 1; omega), by omega, Nat.le_refl _, HB6⟩
   ·have hic : decide (0 ≤ c ∧ c < W * H) = false := decide_eq_false hcell
    rw [hic] at HIC
    have hw : atR r.dist c = 1099511627776 := by rw [haw]; unfold wantE; rw [if_neg (fun q => hcell q.1)]
    have HW := Aside0.mk hw
    clear hML hic haw hw hcell hi hgg hlt hc
    go_wp2_with (first
     | (go_at_call 54; refine (herdsmanref1_IsCell.calls W H _ _ _ HIC.out).mono ?_; rintro e w5 ⟨rfl, hd⟩; have HB5 := Aside0.mk (below_step HBr.out hd.below); have HX5 := Aside0.mk (blk_step HXr.out hd.below); have s0 := cell_blk (j := 0) (u := .int .i64 W) HX5.out rfl; have s1 := cell_blk (j := 1) (u := .int .i64 H) HX5.out rfl; have s2 := cell_blk (j := 2) (u := .slice (some A) C.length cp) HX5.out rfl; clear hd)
     | (go_at_call 42; refine (at_calls (HRT.out.below (below_step HB2.out HB5.out)) c).mono ?_; rw [HW.out]; rintro e w7 ⟨rfl, rfl⟩))
    go_roundg (C.length + 2 - (i + 1))
    case measure => have := HJ.out; omega
    case rel =>
     have hh := HJ.out
     have hl := HCL.out
     exact ⟨i + 1, by first | rfl | (show Value.int .i64 (wrap64 _) = Value.int .i64 _; rw [w64 (by omega) (by omega)]; congr 1; omega) | (show Value.int .i64 _ = Value.int .i64 _; congr 1; omega), by omega, Nat.le_refl _, HB5⟩
  ·obtain rfl : i = C.length + 2 := by omega
   have d1 : decide (((C.length + 2 : Nat) : Int) - 1 ≤ (C.length : Int)) = false := decide_eq_false (by omega)
   clear hi hgg hlt
   go_wp2_with fail
   go_ret
   exact ⟨rfl, below_step HB2.out HBr.out⟩
end Go.Proofs.YthgehdembghdaaaGreat.P
namespace Go.Proofs.YthgehdembghdaaaGreat.P
open Go.RowKit Go.Proofs.YthgehdembghdaaaGreatW.PrintWords Go.Proofs.YthgehdembghdaaaGreatW.PrintLast Go.Proofs.YthgehdembghdaaaGreatW.PrintMore
open Go.Proofs.YthgehdembghdaaaGreat.Geo Go.Proofs.YthgehdembghdaaaGreat.Dist
set_option linter.unusedVariables false
set_option linter.unusedSimpArgs false
variable {w w' : World} {g : Gb} {s : GridS} {m : Mb} {x : MeshS}
end Go.Proofs.YthgehdembghdaaaGreat.P
