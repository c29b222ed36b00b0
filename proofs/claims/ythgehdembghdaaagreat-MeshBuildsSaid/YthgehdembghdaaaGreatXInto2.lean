/-
 WALKED BY HAND: the mesh: Into.
-/
import Derived.Test.YthgehdembghdaaaGreatXFind2
import Derived.Test.YthgehdembghdaaaGreatXInto1
namespace Go.Proofs.YthgehdembghdaaaGreat.P
open Go.RowKit Go.Proofs.YthgehdembghdaaaGreatW.PrintWords Go.Proofs.YthgehdembghdaaaGreatW.PrintLast Go.Proofs.YthgehdembghdaaaGreatW.PrintMore
open Go.Proofs.YthgehdembghdaaaGreat.Geo Go.Proofs.YthgehdembghdaaaGreat.Dist
set_option linter.unusedVariables false
set_option linter.unusedSimpArgs false
variable {w w' : World} {g : Gb} {s : GridS} {m : Mb} {x : MeshS}
theorem R_room {α : Type} (d : Kd α) (e : Nat) (W : World) (base c : Nat) (z : Array Value) (hb : base ≤ W.heap.size) (hm : c ≤ maxLen) (hs : (madeCells z (c * d.sz)).size = c * d.sz) : d.R e (W.alloc (.cells (madeCells z (c * d.sz)) e)) base (fun _ => True) (.slice (some ⟨W.heap.size, 0, none⟩) 0 c) [] :=
 ⟨fun _ _ => trivial, [], ⟨by simp, .inr ⟨W.heap.size, c, _, rfl, hb, blk_new W _, Nat.zero_le _, hm, hs, by simp⟩⟩, Reps.none _ _⟩
def edgeZ : Array Value := #[.int .i64 0, .int .i64 0]
theorem run_room (n : Nat) (hn : n ≤ 1000000) (W : World) : (Instr.makeSlice 50 (.int .i64 0) (.int .i64 ((n : Int) + 1))).run Tryz.prog W = .ok (.slice (some ⟨W.heap.size, 0, none⟩) 0 (n + 1)) (W.alloc (.cells (madeCells edgeZ ((n + 1) * k53.sz)) 53)) := by
 obtain ⟨i0, hi, hzz⟩ := Option.map_eq_some_iff.1 info53
 simp only [Prod.mk.injEq] at hzz
 obtain ⟨hz0, hz1, hz2⟩ := hzz
 have hr := run_make (P := Tryz.prog) W 50 53 i0 (.agg #[(.int .i64 0), (.int .i64 0)]) Tryz.underlying50 hi hz0 .i64 .i64 0 ((n : Int) + 1) (by omega) (by omega)
  (by rw [hz2]; omega) (by omega)
 rw [hz1, show ((n : Int) + 1).toNat = n + 1 by omega] at hr
 exact hr
theorem edge_len (s : GridS) (x : MeshS) (b : Int) {n d : Nat} (hn : n ≤ 256) (hd : d ≤ 4) : ((inL s x b n ++ sideL s x b d).length + 1) * 16 ≤ 140737488355328 := by
 have h1 := in_len s x b n
 have h2 := side_len s x b d
 rw [List.length_append]
 omega
set_option maxRecDepth 100000 in
set_option maxHeartbeats 8000000 in
theorem mInto_calls (h : Net w g m s x) (hg : Good x) (b : Int) : Calls Tryz.prog 34 #[.pointer (some ⟨m.xb, 0, none⟩), .int .i64 b] w fun e w' => ∃ v, e = .returned v ∧ Kd.R k53 53 w' w.heap.size (fun _ => True) v (intoM s x b) ∧ Below w.heap.size w w' := by
 have HM := Aside0.mk h
 have HG := Aside0.mk hg
 have HF := Aside0.mk (fun (w1 : World) (h1 : Net w1 g m s x) (c : Int) => mFind_calls h1 hg c)
 unfold intoM
 by_cases hb : isNode s x b
 ·rw [if_pos hb]
  have db : decide (isNode s x b) = true := decide_eq_true hb
  obtain ⟨An, Ad, nn, nd, p1, p2, hN, hD, hl, hdl⟩ := h.partAt hb.1
  have e1 : ptrC s m b = some ⟨m.pb, (sec s.W b).toNat * 3, none⟩ := by unfold ptrC; rw [if_pos hb.1]
  obtain ⟨o, ho⟩ : ∃ o, o = (sec s.W b).toNat * 3 := ⟨_, rfl⟩
  rw [← ho] at p1 e1
  obtain ⟨N, hNN⟩ : ∃ N, N = (partC s x b).nodes := ⟨_, rfl⟩
  obtain ⟨j, hj⟩ : ∃ j, j = idx (partC s x b).nodes b := ⟨_, rfl⟩
  have HJ : Aside0 (isNode s x b ∧ N = (partC s x b).nodes ∧ j = idx (partC s x b).nodes b ∧ ptrC s m b = some ⟨m.pb, o, none⟩) := ⟨hb, hNN, hj, e1⟩
  rw [← hNN] at p1 hN hl ⊢
  have HN := Aside0.mk hN
  have HL := Aside0.mk hl
  have hmk := run_room N.length (by omega)
  have hw1 : IntKind.i64.wrap ((N.length : Int) + 1) = (N.length : Int) + 1 := by rw [IntKind.wrap_i64]; omega
  clear h hg hb hN hD hl hdl ho hNN hj p2
  go_enter Tryz.func34, Tryz.ntmps34
  go_upto_region 4 with (go_at_call 78; refine (HF.out _ HM.out b).mono ?_; rw [db, e1]; rintro e w1 ⟨p, rfl, hp, hd⟩; obtain rfl : j = p := ((hp HJ.out.1).trans HJ.out.2.2.1.symm).symm; have HB1 := Aside0.mk hd.below; have p1 := pw_cell_below hd.below p1; clear hp hd)
  clear e1 db
  go_upto_region 5 with fail
  have HO2 := Aside0.mk (R_room k53 53 w1 w.heap.size (N.length + 1) edgeZ HB1.out.size (by have := HL.out; unfold maxLen; omega) (size_madeCells _ _))
  have HB2 := Aside0.mk (below_alloc HB1.out (.cells (madeCells edgeZ ((N.length + 1) * k53.sz)) 53))
  have p1 := pw_cell_below (below_alloc (Below.refl _ _) (.cells (madeCells edgeZ ((N.length + 1) * k53.sz)) 53)) p1
  obtain ⟨rb, hrb⟩ : ∃ rb, rb = w1.heap.size := ⟨_, rfl⟩
  rw [← hrb] at HO2 ⊢
  generalize w1.alloc (.cells (madeCells edgeZ ((N.length + 1) * k53.sz)) 53) = w2 at *
  clear hmk hw1 hrb HB1
  go_wp2_with fail
  go_loopg [8, 40] N.length (fun gg v8 v40 wr => ∃ i : Nat, v40 = .int .i64 i ∧ i ≤ N.length ∧ N.length - i ≤ gg ∧ Aside0 (Kd.R k53 53 wr w.heap.size (fun _ => True) v8 (inL s x b i)) ∧ Aside0 (Below w.heap.size w wr))
  case atStart => exact ⟨0, rfl, Nat.zero_le _, Nat.le_refl _, HO2, HB2⟩
  case round =>
   clear HO2 HB2
   obtain ⟨i, rfl, hi, hgg, HO, HBr⟩ := hrel
   by_cases hlt : i < N.length
   ·have d1 : (i : Int) < (N.length : Int) := by omega
    have d0 : (0 : Int) ≤ (i : Int) := by omega
    obtain ⟨adN, hAN, hx⟩ := Kd.at_int (Kd.C_below HN.out HBr.out) (i : Int) d0 d1
    subst hAN
    rw [Int.toNat_natCast] at hx
    obtain ⟨a, ha⟩ : ∃ a, a = rd N (i : Int) := ⟨_, rfl⟩
    obtain ⟨v, hv⟩ : ∃ v, v = pairD (partC s x b) i j := ⟨_, rfl⟩
    rw [← ha] at hx
    have hbt := between_at (i := i) (j := j) (HM.out.below HBr.out) HG.out HJ.out.1.1 (by rw [← HJ.out.2.1]; exact hlt) (by rw [HJ.out.2.2.1]; exact idx_lt' HJ.out.1.2)
    rw [HJ.out.2.2.2, ← hv] at hbt
    have HBT := Aside0.mk hbt
    have hnx := in_next s x b i
    have hia : inA s x b i = if i ≠ j ∧ v ≠ INF then [⟨a, v⟩] else [] := by unfold inA; rw [← HJ.out.2.2.1, ← hv, ← HJ.out.2.1, ← ha]
    have HI := Aside0.mk (And.intro hi (And.intro hgg hlt))
    obtain ⟨A3, n3, e3⟩ := Kd.R_slice HO.out
    subst e3
    obtain ⟨xs, hxs⟩ : ∃ xs, xs = inL s x b i := ⟨_, rfl⟩
    have HXL : Aside0 ((xs.length + 1) * 16 ≤ 140737488355328) := ⟨by have h1 := in_len s x b i; rw [← hxs] at h1; have := HL.out; omega⟩
    rw [← hxs] at HO hnx ⊢
    clear hbt hi hgg hlt ha hv hxs
    by_cases hij : i = j
    ·have dd : ((i : Int) != (j : Int)) = false := by simp [hij]
     have HNX : Aside0 (inL s x b (i + 1) = xs) := ⟨by rw [hnx, hia, if_neg (fun q => q.1 hij), List.append_nil]⟩
     clear hij hnx hia
     go_wp2_with (go_at_call 79; refine HBT.out.mono ?_; rintro e w3 ⟨rfl, hd⟩; have HO3 := Aside0.mk (Kd.R_below HO.out hd.below); have HB3 := Aside0.mk (below_step HBr.out hd.below); clear hd)
     go_roundg (N.length - (i + 1))
     case measure => have := HI.out; omega
     case rel =>
      have hh := HI.out
      have hl := HL.out
      exact ⟨i + 1, by first | rfl | (rw [w64 (n := (i : Int) + 1) (by omega) (by omega)]; rfl), by omega, Nat.le_refl _, ⟨by rw [HNX.out]; exact HO3.out⟩, HB3⟩
    ·have dd : ((i : Int) != (j : Int)) = true := by simp; omega
     by_cases hv : v = INF
     ·have dv : (v != 1099511627776) = false := by rw [hv]; rfl
      have HNX : Aside0 (inL s x b (i + 1) = xs) := ⟨by rw [hnx, hia, if_neg (fun q => q.2 hv), List.append_nil]⟩
      clear hij hnx hia hv
      go_wp2_with (go_at_call 79; refine HBT.out.mono ?_; rintro e w3 ⟨rfl, hd⟩; have HO3 := Aside0.mk (Kd.R_below HO.out hd.below); have HB3 := Aside0.mk (below_step HBr.out hd.below); clear hd)
      go_roundg (N.length - (i + 1))
      case measure => have := HI.out; omega
      case rel =>
       have hh := HI.out
       have hl := HL.out
       exact ⟨i + 1, by first | rfl | (rw [w64 (n := (i : Int) + 1) (by omega) (by omega)]; rfl), by omega, Nat.le_refl _, ⟨by rw [HNX.out]; exact HO3.out⟩, HB3⟩
     ·have dv : (v != 1099511627776) = true := by rw [bne_iff_ne]; exact hv
      have HNX : Aside0 (inL s x b (i + 1) = xs ++ [(⟨a, v⟩ : EdgeS)]) := ⟨by rw [hnx, hia, if_pos ⟨hij, hv⟩]⟩
      clear hij hnx hia hv
      go_wp2_with (first
       | (go_at_call 79; refine HBT.out.mono ?_; rintro e w3 ⟨rfl, hd⟩; have HO3 := Aside0.mk (Kd.R_below HO.out hd.below); have HB3 := Aside0.mk (below_step HBr.out hd.below); clear hd)
       | ((with_reducible refine gate_builtin (b := .append) (xs := #[.tmp 56, .tmp 60]) rfl ?_); at_builtin; refine Kd.R_append k53 (w0 := w) w.heap.size rfl (.tmp 56) (.tmp 60) 50 53 (.agg #[(.int .i64 0), (.int .i64 0)]) 16 rfl Tryz.underlying50 info53 rfl (by decide) (by omega) (.slice A3 xs.length n3) xs (⟨a, v⟩ : EdgeS) [.int .i64 a, .int .i64 v] (fun _ => True) (fun _ => False) rfl (by first | (go_simp; done) | (go_simp; rfl)) ?aP (fun _ hk => hk.elim) ?aF ?aO ?aB ?aS ?aL ?_; (case aP => exact k53_mkM _ _ _ (⟨a, v⟩ : EdgeS)); (case aB => exact HB3.out); (case aF => exact (fun _ _ => trivial)); (case aO => exact HO3.out); (case aS => exact HB3.out.size); (case aL => exact HXL.out); intro v7 w7 ho7 hb7 hg7 hat7; have HO7 := Aside0.mk ho7; have HB7 := Aside0.mk hb7; clear ho7 hb7 hg7 hat7))
      go_roundg (N.length - (i + 1))
      case measure => have := HI.out; omega
      case rel =>
       have hh := HI.out
       have hl := HL.out
       exact ⟨i + 1, by first | rfl | (rw [w64 (n := (i : Int) + 1) (by omega) (by omega)]; rfl), by omega, Nat.le_refl _, ⟨by rw [HNX.out]; exact HO7.out⟩, HB7⟩
   ·obtain rfl : i = N.length := by omega
    have d1 : decide (((N.length : Nat) : Int) < (N.length : Int)) = false := by simp
    clear hi hgg hlt p1
    have HMr := Aside0.mk (HM.out.below HBr.out)
    obtain ⟨c0, _, _, _⟩ := HMr.out.cells
    have hst : ∀ d : Nat, d < 4 → where_Step.f s.W s.H b (d : Int) = some (stepA s b (d : Int)) := fun d hd => wStep HM.out.grid.ok.dim HJ.out.1.1.1 HJ.out.1.1.2 (by omega)
    have HST := Aside0.mk hst
    have hcf : costF s.C b = rd s.C b := by unfold costF; rw [if_pos ⟨HJ.out.1.1.1, by have := HM.out.grid.clen; have := HJ.out.1.1.2; omega⟩]
    have HCF := Aside0.mk hcf
    clear hst hcf
    go_upto_region 13 with (go_at_call 87; refine (gSize_calls HMr.out.grid).mono ?_; rintro e w3 ⟨rfl, hd⟩; have HO3 := Aside0.mk (Kd.R_below HO.out hd.below); have HB3 := Aside0.mk (below_step HBr.out hd.below); clear hd)
    clear c0 HMr HO HBr
    go_wp2_with fail
    go_loopg [8, 14] 4 (fun gg v8 v14 wr => ∃ d : Nat, v14 = .int .i64 d ∧ d ≤ 4 ∧ 4 - d ≤ gg ∧ Aside0 (Kd.R k53 53 wr w.heap.size (fun _ => True) v8 (inL s x b N.length ++ sideL s x b d)) ∧ Aside0 (Below w.heap.size w wr))
    case atStart => exact ⟨0, rfl, by omega, by omega, ⟨by rw [show sideL s x b 0 = [] from rfl, List.append_nil]; exact HO3.out⟩, HB3⟩
    case round =>
     clear HO3 HB3
     obtain ⟨d, rfl, hd, hgg, HO, HBr⟩ := hrel
     by_cases hlt : d < 4
     ·have d1 : (d : Int) ≤ 3 := by omega
      have hnx := side_next s x b d
      obtain ⟨a, ha⟩ : ∃ a, a = stepA s b (d : Int) := ⟨_, rfl⟩
      have hs4 := HST.out d hlt
      rw [← ha] at hs4
      have HS4 := Aside0.mk hs4
      have hso : sideA s x b d = if sideOk s x b (d : Int) then [⟨a, rd s.C b⟩] else [] := by unfold sideA; rw [ha]
      have hok : sideOk s x b (d : Int) ↔ isNode s x a ∧ sec s.W a ≠ sec s.W b := by unfold sideOk; rw [ha]
      have HI := Aside0.mk (And.intro hd (And.intro hgg hlt))
      have HMr := Aside0.mk (HM.out.below HBr.out)
      obtain ⟨A3, n3, e3⟩ := Kd.R_slice HO.out
      subst e3
      obtain ⟨xs, hxs⟩ : ∃ xs, xs = inL s x b N.length ++ sideL s x b d := ⟨_, rfl⟩
      have HXL : Aside0 ((xs.length + 1) * 16 ≤ 140737488355328) := ⟨by rw [hxs]; exact edge_len s x b HL.out (by omega)⟩
      have HXS := Aside0.mk hxs
      rw [← hxs] at HO ⊢
      clear hd hgg hlt ha hs4 hxs
      by_cases hn : isNode s x a
      ·have dn : decide (isNode s x a) = true := decide_eq_true hn
       by_cases hs : sec s.W a = sec s.W b
       ·obtain ⟨pa, hpa⟩ : ∃ pa, pa = ptrC s m a := ⟨_, rfl⟩
        have HQN : Aside0 (∀ w1, Net w1 g m s x → Sem.run Tryz.prog (binOp .neq 118 (.pointer pa) (.pointer (some ⟨m.pb, o, none⟩))) w1 = .ok (.bool false) w1) := ⟨fun w1 h1 => by rw [hpa, ← HJ.out.2.2.2]; exact neq_same h1 hn.1 hs HJ.out.1.1⟩
        have HNX : Aside0 (sideL s x b (d + 1) = sideL s x b d) := ⟨by rw [hnx, hso, if_neg (fun q => (hok.1 q).2 hs), List.append_nil]⟩
        have HPA := Aside0.mk hpa
        clear hn hs hok hso hnx hpa
        go_upto_region 17 with (go_at_call 88; refine (where_Step.calls _ _ _ _ _ _ HS4.out).mono ?_; rintro e w4 ⟨rfl, hd⟩; have HD4 := Aside0.mk hd; clear hd)
        go_upto_region 18 with (go_at_call 78; refine (HF.out _ (HMr.out.below HD4.out.below) a).mono ?_; rw [dn, ← HPA.out]; rintro e w5 ⟨p, rfl, _, hd⟩; have HD5 := Aside0.mk (drawn_tr HD4.out hd); clear hd)
        have hne := HQN.out w5 (HMr.out.below HD5.out.below)
        go_wp2_with fail
        go_roundg (4 - (d + 1))
        case measure => have := HI.out; omega
        case rel =>
         have hh := HI.out
         exact ⟨d + 1, by first | rfl | (rw [w64 (n := (d : Int) + 1) (by omega) (by omega)]; rfl), by omega, Nat.le_refl _, ⟨by rw [HNX.out, ← HXS.out]; exact Kd.R_below HO.out HD5.out.below⟩, ⟨below_step HBr.out HD5.out.below⟩⟩
       ·obtain ⟨pa, hpa⟩ : ∃ pa, pa = ptrC s m a := ⟨_, rfl⟩
        have HQN : Aside0 (∀ w1, Net w1 g m s x → Sem.run Tryz.prog (binOp .neq 118 (.pointer pa) (.pointer (some ⟨m.pb, o, none⟩))) w1 = .ok (.bool true) w1) := ⟨fun w1 h1 => by rw [hpa, ← HJ.out.2.2.2]; exact neq_diff h1 hn.1 hs HJ.out.1.1⟩
        have HNX : Aside0 (sideL s x b (d + 1) = sideL s x b d ++ [(⟨a, rd s.C b⟩ : EdgeS)]) := ⟨by rw [hnx, hso, if_pos (hok.2 ⟨hn, hs⟩)]⟩
        have HPA := Aside0.mk hpa
        clear hn hs hok hso hnx hpa
        go_upto_region 17 with (go_at_call 88; refine (where_Step.calls _ _ _ _ _ _ HS4.out).mono ?_; rintro e w4 ⟨rfl, hd⟩; have HD4 := Aside0.mk hd; clear hd)
        go_upto_region 18 with (go_at_call 78; refine (HF.out _ (HMr.out.below HD4.out.below) a).mono ?_; rw [dn, ← HPA.out]; rintro e w5 ⟨p, rfl, _, hd⟩; have HD5 := Aside0.mk (drawn_tr HD4.out hd); clear hd)
        have HM5 := Aside0.mk (HMr.out.below HD5.out.below)
        obtain ⟨c0, _, _, _⟩ := HM5.out.cells
        have hne := HQN.out w5 HM5.out
        go_wp2_with (first
         | (go_at_call 89; refine (gCost_calls HM5.out.grid b).mono ?_; rw [HCF.out]; rintro e w6 ⟨rfl, rfl⟩; have HO3 := Aside0.mk (Kd.R_below HO.out HD5.out.below); have HB3 := Aside0.mk (below_step HBr.out HD5.out.below))
         | ((with_reducible refine gate_builtin (b := .append) (xs := #[.tmp 93, .tmp 102]) rfl ?_); at_builtin; refine Kd.R_append k53 (w0 := w) w.heap.size rfl (.tmp 93) (.tmp 102) 50 53 (.agg #[(.int .i64 0), (.int .i64 0)]) 16 rfl Tryz.underlying50 info53 rfl (by decide) (by omega) (.slice A3 xs.length n3) xs (⟨a, rd s.C b⟩ : EdgeS) [.int .i64 a, .int .i64 (rd s.C b)] (fun _ => True) (fun _ => False) rfl (by first | (go_simp; done) | (go_simp; rfl)) ?aP (fun _ hk => hk.elim) ?aF ?aO ?aB ?aS ?aL ?_; (case aP => exact k53_mkM _ _ _ (⟨a, rd s.C b⟩ : EdgeS)); (case aB => exact HB3.out); (case aF => exact (fun _ _ => trivial)); (case aO => exact HO3.out); (case aS => exact HB3.out.size); (case aL => exact HXL.out); intro v7 w7 ho7 hb7 hg7 hat7; have HO7 := Aside0.mk ho7; have HB7 := Aside0.mk hb7; clear ho7 hb7 hg7 hat7))
        go_roundg (4 - (d + 1))
        case measure => have := HI.out; omega
        case rel =>
         have hh := HI.out
         exact ⟨d + 1, by first | rfl | (rw [w64 (n := (d : Int) + 1) (by omega) (by omega)]; rfl), by omega, Nat.le_refl _, ⟨by rw [HNX.out, ← List.append_assoc, ← HXS.out]; exact HO7.out⟩, HB7⟩
      ·have dn : decide (isNode s x a) = false := decide_eq_false hn
       have HNX : Aside0 (sideL s x b (d + 1) = sideL s x b d) := ⟨by rw [hnx, hso, if_neg (fun q => hn (hok.1 q).1), List.append_nil]⟩
       clear hn hok hso hnx
       go_upto_region 17 with (go_at_call 88; refine (where_Step.calls _ _ _ _ _ _ HS4.out).mono ?_; rintro e w4 ⟨rfl, hd⟩; have HD4 := Aside0.mk hd; clear hd)
       go_upto_region 18 with (go_at_call 78; refine (HF.out _ (HMr.out.below HD4.out.below) a).mono ?_; rw [dn]; rintro e w5 ⟨p, rfl, _, hd⟩; have HD5 := Aside0.mk (drawn_tr HD4.out hd); clear hd)
       go_wp2_with fail
       go_roundg (4 - (d + 1))
       case measure => have := HI.out; omega
       case rel =>
        have hh := HI.out
        exact ⟨d + 1, by first | rfl | (rw [w64 (n := (d : Int) + 1) (by omega) (by omega)]; rfl), by omega, Nat.le_refl _, ⟨by rw [HNX.out, ← HXS.out]; exact Kd.R_below HO.out HD5.out.below⟩, ⟨below_step HBr.out HD5.out.below⟩⟩
     ·obtain rfl : d = 4 := by omega
      clear hd hgg hlt
      go_wp2_with fail
      go_ret
      exact ⟨_, rfl, HO.out, HBr.out⟩
 ·rw [if_neg hb]
  have db : decide (isNode s x b) = false := decide_eq_false hb
  clear h hg hb
  go_enter Tryz.func34, Tryz.ntmps34
  go_wp2_with (go_at_call 78; refine (HF.out _ HM.out b).mono ?_; rw [db]; rintro e w1 ⟨p, rfl, hp, hd⟩; have HB1 := Aside0.mk hd.below; clear hp hd)
  go_ret
  exact ⟨_, rfl, Kd.R_nil _ _ _ _ _, HB1.out⟩
end Go.Proofs.YthgehdembghdaaaGreat.P
