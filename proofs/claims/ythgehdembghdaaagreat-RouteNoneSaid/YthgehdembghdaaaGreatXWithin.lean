/-
 WALKED BY HAND: a finder: within.
-/
import Derived.Test.YthgehdembghdaaaGreatJ15
import Derived.Test.YthgehdembghdaaaGreatXIMap
import Derived.Test.YthgehdembghdaaaGreatXWhere
import Derived.Test.YthgehdembghdaaaGreatPx15
import Derived.Test.YthgehdembghdaaaGreatJ10
namespace Go.Proofs.YthgehdembghdaaaGreat.P
open Go.RowKit Go.Proofs.YthgehdembghdaaaGreatW.PrintWords Go.Proofs.YthgehdembghdaaaGreatW.PrintLast Go.Proofs.YthgehdembghdaaaGreatW.PrintMore
open Go.Proofs.YthgehdembghdaaaGreat.Geo Go.Proofs.YthgehdembghdaaaGreat.Dist
set_option linter.unusedVariables false
set_option linter.unusedSimpArgs false
variable {w w' : World} {g : Gb} {s : GridS} {fb : Nat}
def finC (mp : Value) (g : Gb) (kp : Value) (n : Value) : Array Value := #[mp, .pointer (some ⟨g.gb, 0, none⟩), kp, n]
structure WM (w wr : World) (hb : Nat) (sv : Value) (L : List Heap.E) (mb k : Nat) (M : Int → Option Int) : Prop where
 below : Below w.heap.size w wr
 heap : Hp wr w.heap.size hb sv L
 map : MapV wr mb k M
 low : w.heap.size ≤ mb
variable {wr w2 : World} {hb mb k k2 : Nat} {sv sv2 : Value} {L L2 : List Heap.E} {M M2 : Int → Option Int}
theorem WM.go (h : WM w wr hb sv L mb k M) (hb2 : Below wr.heap.size wr w2) : WM w w2 hb sv L mb k M := ⟨below_step h.below hb2, h.heap.below hb2, h.map.heap (hb2.block _ h.map.lt), h.low⟩
theorem WM.mapNot (h : WM w wr hb sv L mb k M) : ¬ HeapS hb sv mb := by
 obtain ⟨es, clock, h1⟩ := h.map.blk
 exact h.heap.not h1 (fun _ => map_ne) (fun _ => map_ne)
theorem WM.turn (h : WM w wr hb sv L mb k M) (hc : Chg (HeapS hb sv) wr w2) (h2 : Hp w2 w.heap.size hb sv2 L2) : WM w w2 hb sv2 L2 mb k M :=
 ⟨h.below.trans (hc.below (fun b q => h.heap.ge q) h.below.size), h2, h.map.heap (hc.block _ h.map.lt h.mapNot), h.low⟩
theorem WM.store (h : WM w wr hb sv L mb k M) (hg : wr.grownBy w2 (some mb)) (hm : MapV w2 mb k2 M2) : WM w w2 hb sv L mb k2 M2 := by
 have hc : Chg (fun b => b = mb) wr w2 := Chg.of_grown hg (fun b e => (Option.some.inj e).symm)
 exact ⟨h.below.trans (hc.below (fun b q => by subst q; exact h.low) h.below.size), h.heap.chg hc (fun c q e => h.mapNot (e ▸ q)), hm, h.low⟩
set_option maxRecDepth 1000000 in
set_option maxHeartbeats 8000000 in
theorem within_calls {mp kp n : Value} (h : GridM w g s) (hf : w.heap[fb]? = some (.cells (finC mp g kp n) 129 (0, 0))) {t : Int} (ht : inC s t) : Calls Tryz.prog 116 #[.pointer (some ⟨fb, 0, none⟩), .int .i64 t] w fun e w' => ∃ mb k, e = .returned (.map (some mb)) ∧ MapV w' mb k (withinF s.W s.H s.C t) ∧ Below w.heap.size w w' ∧ w.heap.size ≤ mb := by
 have hmm := @run_makeMap Tryz.prog
 have c1 := cell_blk (j := 1) (u := .pointer (some ⟨g.gb, 0, none⟩)) hf rfl
 have HG := Aside0.mk h
 have HF := Aside0.mk hf
 have HT := Aside0.mk ht
 have htl : 0 ≤ t ∧ t < (s.C.length : Int) := by have := h.ok.len; unfold inC at ht; omega
 have hcf : costF s.C t = rd s.C t := by unfold costF; rw [if_pos htl]
 clear h hf ht htl
 by_cases hw : rd s.C t = 255
 ·have HW := Aside0.mk hw
  have d1 : (rd s.C t == 255) = true := by rw [hw]; rfl
  go_enter Tryz.func116, Tryz.ntmps116
  go_upto_region 3 with (go_at_call 87; refine (gSize_calls HG.out).mono ?_; rintro e w1 ⟨rfl, hd⟩; have HB1 := Aside0.mk hd.below; have c1 := pw_cell_below hd.below c1; clear hd)
  have HM2 := Aside0.mk (MapV.made w1)
  have hb2 := below_alloc HB1.out (.map #[] 0)
  have HB2 := Aside0.mk hb2
  have c1 := pw_cell_below (below_alloc (Below.refl w1.heap.size w1) (.map #[] 0)) c1
  have HL := Aside0.mk (HB1.out.size)
  generalize w1.heap.size = mb at *
  generalize w1.alloc (.map #[] 0) = w2 at *
  clear hb2
  go_wp2_with (go_at_call 89; refine (gCost_calls (HG.out.below HB2.out) t).mono ?_; rw [hcf]; rintro e w3 ⟨rfl, rfl⟩)
  go_ret
  exact ⟨mb, 0, rfl, HM2.out.congr (fun v => within_wall HW.out v), HB2.out, HL.out⟩
 ·have hsl : s.C.length ≤ 1048576 := HG.out.clen.1
  have HSL := Aside0.mk hsl
  have HO := Aside0.mk hw
  have d1 : (rd s.C t == 255) = false := by rw [beq_eq_false_iff_ne]; exact hw
  clear hw hsl
  go_enter Tryz.func116, Tryz.ntmps116
  go_upto_region 3 with (go_at_call 87; refine (gSize_calls HG.out).mono ?_; rintro e w1 ⟨rfl, hd⟩; have HB1 := Aside0.mk hd.below; have c1 := pw_cell_below hd.below c1; clear hd)
  have HM2 := Aside0.mk (MapV.made w1)
  have hb2 := below_alloc HB1.out (.map #[] 0)
  have HB2 := Aside0.mk hb2
  have c1 := pw_cell_below (below_alloc (Below.refl w1.heap.size w1) (.map #[] 0)) c1
  have HL := Aside0.mk (HB1.out.size)
  generalize w1.heap.size = mb at *
  generalize w1.alloc (.map #[] 0) = w2 at *
  clear hb2
  go_upto_region 5 with (go_at_call 89; refine (gCost_calls (HG.out.below HB2.out) t).mono ?_; rw [hcf]; rintro e w3 ⟨rfl, rfl⟩)
  go_upto_region 6 with (go_at_call 115; refine (hNew_calls _).mono ?_; rintro e w4 ⟨hb, rfl, hlb, hh, hbl⟩; have HH4 := Aside0.mk hh; have HB4 := Aside0.mk hbl; clear hh hbl hlb)
  have HW4 : Aside0 (WM w w4 hb (.slice none 0 0) [] mb 0 (fun _ => none)) := ⟨⟨below_step HB2.out HB4.out, HH4.out.down HB2.out.size, HM2.out.heap (HB4.out.block _ HM2.out.lt), HL.out⟩⟩
  clear HH4 HM2
  go_upto_region 7 with (go_at_call 118; refine (hPush_calls HW4.out.heap HW4.out.below.size (by simp) 0 t).mono ?_; rintro e w5 ⟨rfl, sv5, L5, hh, hp, hc⟩; have HW5 := Aside0.mk (HW4.out.turn hc hh); have HP5 := Aside0.mk hp; clear hh hp hc)
  have HI5 : Aside0 (WithI s.W s.H s.C t (fun _ => none) L5 (-1) 4) := ⟨WithI.first HG.out.ok HT.out HO.out HP5.out⟩
  have HL5 : Aside0 (L5.length = 1) := ⟨by rw [HP5.out.length_eq]; rfl⟩
  clear HW4 HP5 HB4
  go_wp2_with (go_at_call 119; refine (hPop_calls HW5.out.heap HW5.out.below.size (by rw [HL5.out]; omega)).mono ?_; rintro e w6 ⟨v9, v10, v11, sv6, L6, rfl, hp, hh, hc⟩; have HW6 := Aside0.mk (HW5.out.turn hc hh); have HP6 := Aside0.mk hp; clear hh hp hc)
  clear c1 HB1
  go_loopg [9, 10, 11] (5 * s.C.length + 1) (fun gg v9 v10 v11 wr => ∃ (M : Int → Option Int) (k : Nat) (L L' : List Heap.E) (sv : Value) (c0 : Int), Aside0 (PopV L L' v9 v10 v11) ∧ Aside0 (WM w wr hb sv L' mb k M) ∧ Aside0 (WithI s.W s.H s.C t M L c0 4) ∧ Aside0 ((k : Int) + unk M s.C.length ≤ s.C.length ∧ (L.length : Int) + 5 * unk M s.C.length ≤ gg ∧ (L.length : Int) + 5 * unk M s.C.length ≤ 5 * s.C.length + 1))
  case atStart =>
   have hu := unk_le (fun _ => none) s.C.length
   have hl := HL5.out
   exact ⟨fun _ => none, 0, L5, L6, sv6, -1, HP6, HW6, HI5, ⟨⟨by omega, by omega, by omega⟩⟩⟩
  case round =>
   clear HP6 HW6 HI5 HL5 HW5
   obtain ⟨M, k, L, L', sv, c0, HP, HW, HI, HQ⟩ := hrel
   rcases HP.out with ⟨rfl, rfl, rfl, rfl⟩ | ⟨k1, c, rfl, rfl, rfl, hp, hmin⟩
   ·go_wp2_with fail
    go_ret
    exact ⟨mb, k, rfl, HW.out.map.congr (fun v => HI.out.fin v), HW.out.below, HL.out⟩
   ·have HPM := Aside0.mk (And.intro hp hmin)
    have hcw := (HI.out.wait (k1, c) (hp.mem_iff.1 (List.mem_cons_self ..)))
    have HCW := Aside0.mk hcw
    have hcl : 0 ≤ c ∧ c < (s.C.length : Int) := by have := hcw.1.a; have := HG.out.ok.len; have e : (k1, c).2 = c := rfl; omega
    have w64c : W64 c := by have := HSL.out; unfold W64; omega
    have hlk := HW.out.map.look w64c 0
    have HCL := Aside0.mk hcl
    clear hp hmin hcw hcl
    cases hM : M c with
    | some d =>
     rw [hM] at hlk
     have HMC := Aside0.mk hM
     clear hM
     have hlk2 : Sem.run Tryz.prog (Instr.lookup 150 (.map (some mb)) (.int .i64 c) true) wr = .ok (.tuple #[.int .i64 d, .bool true]) wr := hlk
     clear hlk
     go_wp2_with (go_at_call 119; refine (hPop_calls HW.out.heap HW.out.below.size (by have := HPM.out.1.length_eq; rw [List.length_cons] at this; have := HQ.out; have := unk_nn M s.C.length; have := HSL.out; omega)).mono ?_; rintro e w6 ⟨v9, v10, v11, sv6, L6, rfl, hp, hh, hc⟩; have HW6 := Aside0.mk (HW.out.turn hc hh); have HP6 := Aside0.mk hp; clear hh hp hc)
     have hlen := HPM.out.1.length_eq
     rw [List.length_cons] at hlen
     have hq := HQ.out
     have hun := unk_nn M s.C.length
     go_roundg (gk - 1)
     case measure => omega
     case rel => exact ⟨M, k, L', L6, sv6, c0, HP6, HW6, ⟨HI.out.drop HPM.out.1 (by rw [HMC.out]; exact fun q => by cases q)⟩, ⟨⟨by omega, by omega, by omega⟩⟩⟩
    | none =>
     rw [hM] at hlk
     have HMC := Aside0.mk hM
     clear hM
     have hlk2 : Sem.run Tryz.prog (Instr.lookup 150 (.map (some mb)) (.int .i64 c) true) wr = .ok (.tuple #[.int .i64 0, .bool false]) wr := hlk
     clear hlk
     obtain ⟨w2, hst, hm2, hgr⟩ := HW.out.map.store (by have := HQ.out; have := unk_nn M s.C.length; have := HSL.out; omega) w64c (d := k1) (by have := HCW.out; unfold W64; omega)
     have hst2 : Sem.run Tryz.prog (Instr.mapUpdate 150 (.map (some mb)) (.int .i64 c) (.int .i64 k1)) wr = .ok () w2 := hst
     have HW2 : Aside0 (WM w w2 hb sv L' mb (k + 1) (learn M c k1)) := ⟨HW.out.store hgr hm2⟩
     have HI2 : Aside0 (WithI s.W s.H s.C t (learn M c k1) L' c 0) := ⟨HI.out.known' HPM.out.1 HPM.out.2 HMC.out⟩
     clear hst hm2 hgr
     have HQ2 : Aside0 (((k + 1 : Nat) : Int) + unk (learn M c k1) s.C.length ≤ s.C.length ∧ (L'.length : Int) + 5 * unk (learn M c k1) s.C.length + 6 ≤ gk ∧ (L'.length : Int) + 5 * unk (learn M c k1) s.C.length + 6 ≤ 5 * s.C.length + 1) := by
      obtain ⟨cn, hcn⟩ : ∃ cn : Nat, c = cn := ⟨c.toNat, by have := HCL.out; omega⟩
      have hu := unk_learn (M := M) (c := cn) (n := s.C.length) (by have := HCL.out; omega) k1 (by rw [← hcn]; exact HMC.out)
      rw [← hcn] at hu
      have hlen := HPM.out.1.length_eq
      rw [List.length_cons] at hlen
      have hq := HQ.out
      exact ⟨⟨by omega, by omega, by omega⟩⟩
     go_upto_region 14 with fail
     have HMK : Aside0 (learn M c k1 c = some k1) := ⟨by unfold learn; rw [if_pos rfl]⟩
     have hcc : costF s.C c = rd s.C c := by unfold costF; rw [if_pos HCL.out]
     have HCC := Aside0.mk hcc
     have hiw : IntKind.i64.wrap (k1 + rd s.C c) = k1 + rd s.C c := by
      have := rd_cost HG.out.ok HCW.out.1.a.1 HCW.out.1.a.2
      have := HCW.out
      rw [IntKind.wrap_i64]
      omega
     clear hst2 hlk2 hcc HW HI HP w64c HMC d1 hcf c1
     obtain ⟨G0, hG0⟩ : ∃ G0, G0 = gk := ⟨gk, rfl⟩
     rw [← hG0] at HQ2
     have HG0 := Aside0.mk hG0
     clear hG0
     generalize learn M c k1 = M2 at *
     go_loopg [14] 4 (fun gg v14 wq => ∃ (j : Nat) (L2 : List Heap.E) (sv2 : Value), v14 = .int .i64 j ∧ j ≤ 4 ∧ 4 - j ≤ gg ∧ Aside0 (WM w wq hb sv2 L2 mb (k + 1) M2) ∧ Aside0 (WithI s.W s.H s.C t M2 L2 c (j : Int)) ∧ Aside0 ((L2.length : Int) + 5 * unk M2 s.C.length + 6 ≤ G0 + j ∧ (L2.length : Int) + 5 * unk M2 s.C.length + 6 ≤ 5 * s.C.length + 1 + j))
     case atStart => exact ⟨0, L', sv, rfl, by omega, by omega, HW2, HI2, ⟨⟨by have := HQ2.out; omega, by have := HQ2.out; omega⟩⟩⟩
     case round =>
      clear HW2 HI2
      obtain ⟨j, L2, sv2, rfl, hj, hgg, HW3, HI3, HQ3⟩ := hrel
      by_cases hlt : j < 4
      ·have d1 : (j : Int) ≤ 3 := by omega
       have hjj : 0 ≤ (j : Int) ∧ (j : Int) ≤ 3 := by omega
       have hs4 := wStep HG.out.ok.dim HCW.out.1.a.1 HCW.out.1.a.2 hjj
       have hs4' : where_Step.f s.W s.H c (j : Int) = some (if OutE s.W s.H c (j : Int) then -1 else nbS s.W c (j : Int)) := hs4
       have HJ := Aside0.mk (And.intro hj (And.intro hgg (And.intro hlt hjj)))
       clear hj hgg hlt hjj hs4
       by_cases hout : OutE s.W s.H c (j : Int)
       ·rw [if_pos hout] at hs4'
        have HS4 := Aside0.mk hs4'
        have HI4 : Aside0 (WithI s.W s.H s.C t M2 L2 c ((j : Int) + 1)) := ⟨HI3.out.skip (fun q => q.1 hout)⟩
        clear hs4' hout
        go_wp2_with (go_at_call 88; refine (where_Step.calls _ _ _ _ _ _ HS4.out).mono ?_; rintro e w4 ⟨rfl, hd⟩; have HW4 := Aside0.mk (HW3.out.go hd.below); clear hd)
        go_roundg (4 - (j + 1))
        case measure => have := HJ.out; omega
        case rel =>
         have hh := HJ.out
         have hq := HQ3.out
         exact ⟨j + 1, L2, sv2, by first | rfl | (rw [w64 (n := (j : Int) + 1) (by omega) (by omega)]; rfl), by omega, Nat.le_refl _, HW4, HI4, ⟨⟨by omega, by omega⟩⟩⟩
       ·rw [if_neg hout] at hs4'
        have nr := nb_rng HG.out.ok.dim HCW.out.1.a.1 HCW.out.1.a.2 HJ.out.2.2.2 hout
        obtain ⟨n1, hn1⟩ : ∃ n1, n1 = nbS s.W c (j : Int) := ⟨_, rfl⟩
        rw [← hn1] at hs4' nr
        have HS4 := Aside0.mk hs4'
        have HNR := Aside0.mk nr
        have HN1 := Aside0.mk (And.intro hn1 hout)
        have hsn : where_Sector.f s.W s.H n1 = some (sec s.W n1) := by rw [wSector HG.out.ok.dim, if_pos nr]
        have hst : where_Sector.f s.W s.H t = some (sec s.W t) := by rw [wSector HG.out.ok.dim, if_pos (show 0 ≤ t ∧ t < s.W * s.H from HT.out)]
        have HSN := Aside0.mk hsn
        have HST := Aside0.mk hst
        have dn : decide (n1 < 0) = false := decide_eq_false (by omega)
        have hcn : costF s.C n1 = rd s.C n1 := by unfold costF; rw [if_pos ⟨nr.1, by have := HG.out.ok.len; omega⟩]
        have HCN := Aside0.mk hcn
        have hsc : sec s.W c = sec s.W t := HCW.out.1.s
        clear hs4' hout nr hn1 hsn hst hcn
        have c1 := fun (w9 : World) (hb9 : Below w.heap.size w w9) => (cell_blk (j := 1) (u := .pointer (some ⟨g.gb, 0, none⟩)) (blk_step HF.out hb9) rfl : w9.cell? ⟨fb, 1, none⟩ = some (.pointer (some ⟨g.gb, 0, none⟩)))
        have HC1 := Aside0.mk c1
        clear c1
        by_cases hs : sec s.W n1 = sec s.W t
        ·have ds : (sec s.W n1 != sec s.W t) = false := by rw [hs]; simp
         by_cases ho : rd s.C n1 = 255
         ·have dw : (rd s.C n1 == 255) = true := by rw [ho]; rfl
          have HI4 : Aside0 (WithI s.W s.H s.C t M2 L2 c ((j : Int) + 1)) := ⟨HI3.out.skip (fun q => q.2.2 (by rw [← HN1.out.1]; exact ho))⟩
          clear hs ho hsc
          go_wp2_with (first
           | (go_at_call 88; refine (where_Step.calls _ _ _ _ _ _ HS4.out).mono ?_; rintro e w4 ⟨rfl, hd⟩; have HW4 := Aside0.mk (HW3.out.go hd.below); clear hd)
           | (go_at_call 21; with_reducible refine (where_Sector.calls _ _ n1 _ _ HSN.out).mono ?_; rintro e w5 ⟨rfl, hd⟩; have HW5 := Aside0.mk (HW4.out.go hd.below); clear hd)
           | (go_at_call 21; with_reducible refine (where_Sector.calls _ _ t _ _ HST.out).mono ?_; rintro e w6 ⟨rfl, hd⟩; have HW6 := Aside0.mk (HW5.out.go hd.below); have c1 := HC1.out _ HW6.out.below; clear hd)
           | (go_at_call 89; refine (gCost_calls (HG.out.below HW6.out.below) n1).mono ?_; rw [HCN.out]; rintro e w7 ⟨rfl, rfl⟩))
          go_roundg (4 - (j + 1))
          case measure => have := HJ.out; omega
          case rel =>
           have hh := HJ.out
           have hq := HQ3.out
           exact ⟨j + 1, L2, sv2, by first | rfl | (rw [w64 (n := (j : Int) + 1) (by omega) (by omega)]; rfl), by omega, Nat.le_refl _, HW6, HI4, ⟨⟨by omega, by omega⟩⟩⟩
         ·have dw : (rd s.C n1 == 255) = false := by rw [beq_eq_false_iff_ne]; exact ho
          have HHO := Aside0.mk (And.intro hs ho)
          clear hs ho
          go_wp2_with (first
           | (go_at_call 88; refine (where_Step.calls _ _ _ _ _ _ HS4.out).mono ?_; rintro e w4 ⟨rfl, hd⟩; have HW4 := Aside0.mk (HW3.out.go hd.below); clear hd)
           | (go_at_call 21; with_reducible refine (where_Sector.calls _ _ n1 _ _ HSN.out).mono ?_; rintro e w5 ⟨rfl, hd⟩; have HW5 := Aside0.mk (HW4.out.go hd.below); clear hd)
           | (go_at_call 21; with_reducible refine (where_Sector.calls _ _ t _ _ HST.out).mono ?_; rintro e w6 ⟨rfl, hd⟩; have HW6 := Aside0.mk (HW5.out.go hd.below); have c1 := HC1.out _ HW6.out.below; clear hd)
           | (go_at_call 89; with_reducible refine (gCost_calls (HG.out.below HW6.out.below) n1).mono ?_; rw [HCN.out]; rintro e w7 ⟨rfl, rfl⟩)
           | (go_at_call 89; with_reducible refine (gCost_calls (HG.out.below HW6.out.below) c).mono ?_; rw [HCC.out]; rintro e w7 ⟨rfl, rfl⟩)
           | (go_at_call 118; refine (hPush_calls HW6.out.heap HW6.out.below.size (by have := HQ3.out; have := unk_nn M2 s.C.length; have := HSL.out; have := HJ.out; omega) (k1 + rd s.C c) n1).mono ?_; rintro e w8 ⟨rfl, sv8, L8, hh, hp, hc⟩; have HW8 := Aside0.mk (HW6.out.turn hc hh); have HP8 := Aside0.mk hp; clear hh hp hc))
          have HI4 : Aside0 (WithI s.W s.H s.C t M2 L8 c ((j : Int) + 1)) := ⟨HI3.out.push HJ.out.2.2.2 HMK.out HN1.out.2 (by rw [← HN1.out.1, hsc]; exact HHO.out.1) (by rw [← HN1.out.1]; exact HHO.out.2) (by rw [← HN1.out.1]; exact HP8.out)⟩
          have hl8 := HP8.out.length_eq
          rw [List.length_cons] at hl8
          go_roundg (4 - (j + 1))
          case measure => have := HJ.out; omega
          case rel =>
           have hh := HJ.out
           have hq := HQ3.out
           exact ⟨j + 1, L8, sv8, by first | rfl | (rw [w64 (n := (j : Int) + 1) (by omega) (by omega)]; rfl), by omega, Nat.le_refl _, HW8, HI4, ⟨⟨by omega, by omega⟩⟩⟩
        ·have ds : (sec s.W n1 != sec s.W t) = true := by rw [bne_iff_ne]; exact hs
         have HI4 : Aside0 (WithI s.W s.H s.C t M2 L2 c ((j : Int) + 1)) := ⟨HI3.out.skip (fun q => hs (by rw [HN1.out.1, q.2.1]; exact hsc))⟩
         clear hs hsc
         go_wp2_with (first
          | (go_at_call 88; refine (where_Step.calls _ _ _ _ _ _ HS4.out).mono ?_; rintro e w4 ⟨rfl, hd⟩; have HW4 := Aside0.mk (HW3.out.go hd.below); clear hd)
          | (go_at_call 21; with_reducible refine (where_Sector.calls _ _ n1 _ _ HSN.out).mono ?_; rintro e w5 ⟨rfl, hd⟩; have HW5 := Aside0.mk (HW4.out.go hd.below); clear hd)
          | (go_at_call 21; with_reducible refine (where_Sector.calls _ _ t _ _ HST.out).mono ?_; rintro e w6 ⟨rfl, hd⟩; have HW6 := Aside0.mk (HW5.out.go hd.below); have c1 := HC1.out _ HW6.out.below; clear hd))
         go_roundg (4 - (j + 1))
         case measure => have := HJ.out; omega
         case rel =>
          have hh := HJ.out
          have hq := HQ3.out
          exact ⟨j + 1, L2, sv2, by first | rfl | (rw [w64 (n := (j : Int) + 1) (by omega) (by omega)]; rfl), by omega, Nat.le_refl _, HW6, HI4, ⟨⟨by omega, by omega⟩⟩⟩
      ·obtain rfl : j = 4 := by omega
       have HI4 : Aside0 (WithI s.W s.H s.C t M2 L2 c 4) := ⟨HI3.out⟩
       clear hj hgg hlt HI3
       go_wp2_with (go_at_call 119; refine (hPop_calls HW3.out.heap HW3.out.below.size (by have := HQ3.out; have := unk_nn M2 s.C.length; have := HSL.out; omega)).mono ?_; rintro e w6 ⟨v9, v10, v11, sv6, L6, rfl, hp, hh, hc⟩; have HW6 := Aside0.mk (HW3.out.turn hc hh); have HP6 := Aside0.mk hp; clear hh hp hc)
       have hq := HQ3.out
       have hq2 := HQ2.out
       have hg0 := HG0.out
       have hun := unk_nn M2 s.C.length
       go_roundg (G0 - 1)
       case measure => omega
       case rel => exact ⟨M2, k + 1, L2, L6, sv6, c, HP6, HW6, HI4, ⟨⟨by omega, by omega, by omega⟩⟩⟩
end Go.Proofs.YthgehdembghdaaaGreat.P
