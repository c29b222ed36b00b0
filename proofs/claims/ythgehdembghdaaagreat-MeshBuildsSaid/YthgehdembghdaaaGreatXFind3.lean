/-
 WALKED BY HAND: the mesh: Dist.
-/
import Derived.Test.YthgehdembghdaaaGreatXFind2
namespace Go.Proofs.YthgehdembghdaaaGreat.P
open Go.RowKit Go.Proofs.YthgehdembghdaaaGreatW.PrintWords Go.Proofs.YthgehdembghdaaaGreatW.PrintLast Go.Proofs.YthgehdembghdaaaGreatW.PrintMore
open Go.Proofs.YthgehdembghdaaaGreat.Geo Go.Proofs.YthgehdembghdaaaGreat.Dist
set_option linter.unusedVariables false
set_option linter.unusedSimpArgs false
variable {w w' : World} {g : Gb} {s : GridS} {m : Mb} {x : MeshS}
set_option maxRecDepth 100000 in
set_option maxHeartbeats 4000000 in
theorem mDist_calls (h : Net w g m s x) (hg : Good x) (a b : Int) : Calls Tryz.prog 28 #[.pointer (some ⟨m.xb, 0, none⟩), .int .i64 a, .int .i64 b] w fun e w' => e = .returned (.int .i64 (distM s x a b)) ∧ Drawn0 w w' := by
 have HM := Aside0.mk h
 have HG := Aside0.mk hg
 have HF := Aside0.mk (fun (w1 : World) (h1 : Net w1 g m s x) (c : Int) => mFind_calls h1 hg c)
 unfold distM
 by_cases ha : isNode s x a
 ·by_cases hb : isNode s x b
  ·have da : decide (isNode s x a) = true := decide_eq_true ha
   have db : decide (isNode s x b) = true := decide_eq_true hb
   obtain ⟨pa, hpa⟩ : ∃ pa, pa = ptrC s m a := ⟨_, rfl⟩
   obtain ⟨pb, hpb⟩ : ∃ pb, pb = ptrC s m b := ⟨_, rfl⟩
   by_cases hs : sec s.W a = sec s.W b
   ·rw [if_pos ⟨ha, hb, hs⟩]
    have HQN : Aside0 (∀ w1, Net w1 g m s x → Sem.run Tryz.prog (binOp .neq 118 (.pointer pa) (.pointer pb)) w1 = .ok (.bool false) w1) := ⟨fun w1 h1 => by rw [hpa, hpb]; exact neq_same h1 ha.1 hs hb.1⟩
    have hpc : partC s x a = partC s x b := by unfold partC; rw [hs]
    obtain ⟨ia, hia⟩ : ∃ ia, ia = idx (partC s x b).nodes a := ⟨_, rfl⟩
    obtain ⟨ib, hib⟩ : ∃ ib, ib = idx (partC s x b).nodes b := ⟨_, rfl⟩
    have HBT : Aside0 (∀ w1, Net w1 g m s x → Calls Tryz.prog 79 #[.pointer pa, .int .i64 ia, .int .i64 ib] w1 fun e w' => e = .returned (.int .i64 (pairD (partC s x b) ia ib)) ∧ Drawn0 w1 w') := ⟨fun w1 h1 => by
     rw [hpa, (ptr_eq h.grid.ok.dim ha.1 hb.1).2 hs, hia, hib]
     refine between_at h1 hg hb.1 ?_ (idx_lt' hb.2)
     rw [← hpc]
     exact idx_lt' ha.2⟩
    have HA : Aside0 (isNode s x a ∧ isNode s x b ∧ idx (partC s x a).nodes a = ia ∧ idx (partC s x b).nodes b = ib) := ⟨ha, hb, by rw [hpc, hia], hib.symm⟩
    rw [← hia, ← hib]
    obtain ⟨dd, hdd⟩ : ∃ dd, dd = pairD (partC s x b) ia ib := ⟨_, rfl⟩
    rw [← hdd] at HBT ⊢
    have HPA := Aside0.mk hpa
    have HPB := Aside0.mk hpb
    clear h hg ha hb hs hpc hia hib hdd hpa hpb
    go_enter Tryz.func28, Tryz.ntmps28
    go_upto_region 2 with (go_at_call 78; refine (HF.out _ HM.out a).mono ?_; rw [da, ← HPA.out]; rintro e w1 ⟨p, rfl, hp, hd⟩; obtain rfl : p = ia := (hp HA.out.1).trans HA.out.2.2.1; have HD1 := Aside0.mk hd; clear hp hd)
    go_upto_region 3 with (go_at_call 78; refine (HF.out _ (HM.out.below HD1.out.below) b).mono ?_; rw [db, ← HPB.out]; rintro e w2 ⟨q, rfl, hq, hd⟩; obtain rfl : q = ib := (hq HA.out.2.1).trans HA.out.2.2.2; have HD2 := Aside0.mk (drawn_tr HD1.out hd); clear hq hd)
    have hne := HQN.out w2 (HM.out.below HD2.out.below)
    go_wp2_with (go_at_call 79; refine (HBT.out _ (HM.out.below HD2.out.below)).mono ?_; rintro e w3 ⟨rfl, hd⟩)
    go_ret
    exact ⟨rfl, drawn_tr HD2.out hd⟩
   ·rw [if_neg (fun q => hs q.2.2)]
    have HQN : Aside0 (∀ w1, Net w1 g m s x → Sem.run Tryz.prog (binOp .neq 118 (.pointer pa) (.pointer pb)) w1 = .ok (.bool true) w1) := ⟨fun w1 h1 => by rw [hpa, hpb]; exact neq_diff h1 ha.1 hs hb.1⟩
    have HPA := Aside0.mk hpa
    have HPB := Aside0.mk hpb
    clear h hg ha hb hs hpa hpb
    go_enter Tryz.func28, Tryz.ntmps28
    go_upto_region 2 with (go_at_call 78; refine (HF.out _ HM.out a).mono ?_; rw [da, ← HPA.out]; rintro e w1 ⟨p, rfl, hp, hd⟩; have HD1 := Aside0.mk hd; clear hp hd)
    go_upto_region 3 with (go_at_call 78; refine (HF.out _ (HM.out.below HD1.out.below) b).mono ?_; rw [db, ← HPB.out]; rintro e w2 ⟨q, rfl, hq, hd⟩; have HD2 := Aside0.mk (drawn_tr HD1.out hd); clear hq hd)
    have hne := HQN.out w2 (HM.out.below HD2.out.below)
    go_wp2_with fail
    go_ret
    exact ⟨rfl, HD2.out⟩
  ·rw [if_neg (fun q => hb q.2.1)]
   have da : decide (isNode s x a) = true := decide_eq_true ha
   have db : decide (isNode s x b) = false := decide_eq_false hb
   clear h hg ha hb
   go_enter Tryz.func28, Tryz.ntmps28
   go_upto_region 2 with (go_at_call 78; refine (HF.out _ HM.out a).mono ?_; rw [da]; rintro e w1 ⟨p, rfl, hp, hd⟩; have HD1 := Aside0.mk hd; clear hp hd)
   go_upto_region 3 with (go_at_call 78; refine (HF.out _ (HM.out.below HD1.out.below) b).mono ?_; rw [db]; rintro e w2 ⟨q, rfl, hq, hd⟩; have HD2 := Aside0.mk (drawn_tr HD1.out hd); clear hq hd)
   go_wp2_with fail
   go_ret
   exact ⟨rfl, HD2.out⟩
 ·rw [if_neg (fun q => ha q.1)]
  have da : decide (isNode s x a) = false := decide_eq_false ha
  clear h hg ha
  go_enter Tryz.func28, Tryz.ntmps28
  go_upto_region 2 with (go_at_call 78; refine (HF.out _ HM.out a).mono ?_; rw [da]; rintro e w1 ⟨p, rfl, hp, hd⟩; have HD1 := Aside0.mk hd; clear hp hd)
  go_upto_region 3 with (go_at_call 78; refine (HF.out _ (HM.out.below HD1.out.below) b).mono ?_; rintro e w2 ⟨q, rfl, hq, hd⟩; have HD2 := Aside0.mk (drawn_tr HD1.out hd); clear hq hd)
  go_wp2_with fail
  go_ret
  exact ⟨rfl, HD2.out⟩
end Go.Proofs.YthgehdembghdaaaGreat.P
