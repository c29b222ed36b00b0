/-
 WALKED BY HAND: the border: open, Nodes; the grid: Tile.
-/
import Derived.Test.YthgehdembghdaaaGreatXBorder
namespace Go.Proofs.YthgehdembghdaaaGreat.P
open Go.RowKit Go.Proofs.YthgehdembghdaaaGreatW.PrintWords Go.Proofs.YthgehdembghdaaaGreatW.PrintLast Go.Proofs.YthgehdembghdaaaGreatW.PrintMore
open Go.Proofs.YthgehdembghdaaaGreat.Geo
set_option linter.unusedVariables false
set_option linter.unusedSimpArgs false
variable {w w' : World} {g : Gb} {st : GridS}
def openB (C : List Int) (c : Int) : Bool := decide (0 < costF C c) && decide (costF C c < 255)
theorem openB_in {C : List Int} (hc : ∀ x ∈ C, 1 ≤ x ∧ x ≤ 255) {c : Int} (h0 : 0 ≤ c) (h1 : c < C.length) : openB C c = decide (rd C c ≠ 255) := by
 unfold openB costF
 rw [if_pos ⟨h0, h1⟩]
 obtain ⟨n, rfl⟩ : ∃ n : Nat, c = n := ⟨c.toNat, by omega⟩
 have := hc (rd C n) (by rw [rd_get C (by omega)]; exact List.getElem_mem _)
 by_cases q : rd C n = 255
 ·rw [decide_eq_false (show ¬ rd C n < 255 by omega), Bool.and_false, decide_eq_false (by simp [q])]
 ·rw [decide_eq_true (show 0 < rd C n by omega), decide_eq_true (show rd C n < 255 by omega), decide_eq_true q]; rfl
set_option maxHeartbeats 2000000 in
theorem open_calls (h : GridM w g st) (c : Int) : Calls Tryz.prog 122 #[.pointer (some ⟨g.gb, 0, none⟩), .int .i64 c] w fun e w' => e = .returned (.bool (openB st.C c)) ∧ w' = w := by
 have HG := Aside0.mk h
 obtain ⟨v, hv⟩ : ∃ v, v = costF st.C c := ⟨_, rfl⟩
 have HV := Aside0.mk hv
 have hvb : 0 ≤ v ∧ v ≤ 255 := by
  rw [hv]
  unfold costF
  split
  ·rename_i q; have := rd_cost h.ok q.1 (by have := h.clen; omega); omega
  ·omega
 unfold openB
 rw [← hv]
 clear h hv
 by_cases h0 : 0 < v
 ·have d0 : decide (0 < v) = true := decide_eq_true h0
  go_enter Tryz.func122, Tryz.ntmps122
  go_wp2_with (go_at_call 89; refine (gCost_calls HG.out c).mono ?_; rintro e w1 ⟨rfl, rfl⟩; rw [← HV.out])
  go_ret
  exact ⟨by first | rfl | simp [d0], rfl⟩
 ·have d0 : decide (0 < v) = false := decide_eq_false h0
  go_enter Tryz.func122, Tryz.ntmps122
  go_wp2_with (go_at_call 89; refine (gCost_calls HG.out c).mono ?_; rintro e w1 ⟨rfl, rfl⟩; rw [← HV.out])
  go_ret
  exact ⟨by first | rfl | simp [d0], rfl⟩
set_option maxRecDepth 100000 in
set_option maxHeartbeats 8000000 in
theorem bnodes_calls (h : GridM w g st) {s : Int} (hs : inS st.W st.H s) : Calls Tryz.prog 95 #[.pointer (some ⟨g.gb, 0, none⟩), .int .i64 s] w fun e w' => ∃ v, e = .returned v ∧ RowN w' w.heap.size v (nodesL st.W st.H st.C s) ∧ Below w.heap.size w w' := by
 have HG := Aside0.mk h
 have HS := Aside0.mk hs
 clear h hs
 go_enter Tryz.func95, Tryz.ntmps95
 go_wp2_with (first
  | (go_at_call 87; refine (gSize_calls HG.out).mono ?_; rintro e w1 ⟨rfl, hd⟩; have HB1 := Aside0.mk hd.below; clear hd)
  | (go_at_call 121; refine (cells_calls HG.out.ok.dim HS.out _).mono ?_; rintro e w2 ⟨v2, rfl, ho, hb⟩; obtain ⟨AL, nL, rfl⟩ := Kd.R_slice ho; have HL2 := Aside0.mk (Kd.R_lower ho HB1.out.size); have HB2 := Aside0.mk (below_step HB1.out hb); clear ho hb))
 obtain ⟨L, hL⟩ : ∃ L, L = cellsL st.W st.H s := ⟨_, rfl⟩
 have hln : L.length ≤ 256 := by
  have hb := box_wh HG.out.ok.dim HS.out
  have := List.length_filter_le (fun c => decide (edgeS st.W st.H c)) (gloL st.W st.H s)
  rw [gloL_len] at this
  rw [hL]; unfold cellsL; omega
 have HLm : Aside0 (∀ x, x ∈ L → 0 ≤ x ∧ x < st.C.length) := ⟨fun x hx => by
  rw [hL] at hx
  have h1 := (mem_gloL HG.out.ok.dim HS.out).1 (List.mem_filter.1 hx).1
  have h2 := HG.out.ok.len
  omega⟩
 have HNL : Aside0 (nodesL st.W st.H st.C s = L.filter fun c => decide (rd st.C c ≠ 255)) := ⟨by rw [cells_nodes, ← hL]⟩
 rw [← hL] at HL2 ⊢
 have HLN := Aside0.mk hln
 clear hL hln
 have HC2 : Aside0 (Kd.C (Kd.int .i64) w2 AL L.length L) := ⟨(Kd.R_reads' HL2.out).2.2⟩
 go_loopg [7, 20] L.length (fun gg v7 v20 wr => ∃ i : Nat, v20 = .int .i64 i ∧ i ≤ L.length ∧ L.length - i ≤ gg ∧ Aside0 (RowN wr w2.heap.size v7 ((L.take i).filter fun c => decide (rd st.C c ≠ 255))) ∧ Aside0 (Below w2.heap.size w2 wr))
 case atStart => exact ⟨0, rfl, Nat.zero_le _, Nat.le_refl _, ⟨Kd.R_nil _ _ _ _ _⟩, ⟨Below.refl _ _⟩⟩
 case round =>
  obtain ⟨i, rfl, hi, hgg, HO, HB⟩ := hrel
  have HG2 := Aside0.mk ((HG.out.below HB2.out).below HB.out)
  by_cases hlt : i < L.length
  ·have d1 : (i : Int) < (L.length : Int) := by omega
   obtain ⟨adL, hAL, hx⟩ := Kd.at_int (Kd.C_below HC2.out HB.out) (i : Int) (by omega) d1
   subst hAL
   rw [Int.toNat_natCast, rd_get L hlt] at hx
   have hm := HLm.out L[i] (List.getElem_mem hlt)
   have hop := openB_in HG.out.ok.cost hm.1 hm.2
   have htk : (L.take (i + 1)).filter (fun c => decide (rd st.C c ≠ 255)) = (L.take i).filter (fun c => decide (rd st.C c ≠ 255)) ++ (if rd st.C L[i] ≠ 255 then [L[i]] else []) := by
    rw [List.take_succ_eq_append_getElem hlt, List.filter_append]
    congr 1
    by_cases q : rd st.C L[i] = 255 <;> simp [q]
   obtain ⟨c, hc⟩ : ∃ c, c = L[i] := ⟨_, rfl⟩
   rw [← hc] at hx hop htk
   obtain ⟨xs, hxs⟩ : ∃ xs, xs = (L.take i).filter (fun c => decide (rd st.C c ≠ 255)) := ⟨_, rfl⟩
   have hxl : xs.length ≤ i := by
    rw [hxs]
    have := List.length_filter_le (fun c => decide (rd st.C c ≠ 255)) (L.take i)
    rw [List.length_take] at this; omega
   rw [← hxs] at HO htk
   obtain ⟨A7, n7, e7⟩ := Kd.R_slice HO.out
   subst e7
   have HXL : Aside0 ((xs.length + 1) * 8 ≤ 140737488355328) := ⟨by have := HLN.out; omega⟩
   have HI := Aside0.mk (And.intro hi (And.intro hgg hlt))
   by_cases q : rd st.C c = 255
   ·rw [decide_eq_false (by simp [q])] at hop
    rw [if_neg (by simp [q]), List.append_nil] at htk
    have HOP := Aside0.mk hop
    have HTK := Aside0.mk htk
    clear hi hgg hlt hm hop htk hc hxs hxl q
    go_wp2_with (go_at_call 122; refine (open_calls HG2.out c).mono ?_; rintro e w3 ⟨rfl, rfl⟩; rw [HOP.out])
    go_roundg (L.length - (i + 1))
    case measure => have := HI.out; omega
    case rel =>
     have hh := HI.out
     have hn := HLN.out
     exact ⟨i + 1, by first | rfl | (rw [w64 (n := (i : Int) + 1) (by omega) (by omega)]; rfl), by omega, Nat.le_refl _, ⟨by rw [HTK.out]; exact HO.out⟩, HB⟩
   ·rw [decide_eq_true q] at hop
    rw [if_pos q] at htk
    have HOP := Aside0.mk hop
    have HTK := Aside0.mk htk
    clear hi hgg hlt hm hop htk hc hxs hxl q
    go_wp2_with (first
     | (go_at_call 122; refine (open_calls HG2.out c).mono ?_; rintro e w3 ⟨rfl, rfl⟩; rw [HOP.out])
     | ((with_reducible refine gate_builtin (b := .append) (xs := #[.tmp 27, .tmp 29]) rfl ?_); at_builtin; refine Kd.R_append (Kd.int .i64) (w0 := w2) w2.heap.size rfl (.tmp 27) (.tmp 29) 36 3 (.int .i64 0) 8 rfl Tryz.underlying36 info3 rfl (by decide) (by omega) (.slice A7 xs.length n7) xs c [.int .i64 c] (fun _ => True) (fun _ => False) rfl rfl ?aP (fun _ hk => hk.elim) ?aF ?aO ?aB ?aS ?aL ?_; (case aP => exact rfl); (case aB => exact HB.out); (case aF => exact (fun _ _ => trivial)); (case aO => exact HO.out); (case aS => exact HB.out.size); (case aL => exact HXL.out); intro v7 w7 ho7 hb7 hg7 hat7; have HO7 := Aside0.mk ho7; have HB7 := Aside0.mk hb7; have HG7 := Aside0.mk hg7; clear ho7 hb7 hg7 hat7))
    go_roundg (L.length - (i + 1))
    case measure => have := HI.out; omega
    case rel =>
     have hh := HI.out
     have hn := HLN.out
     exact ⟨i + 1, by first | rfl | (rw [w64 (n := (i : Int) + 1) (by omega) (by omega)]; rfl), by omega, Nat.le_refl _, ⟨by rw [HTK.out]; exact HO7.out⟩, HB7⟩
  ·obtain rfl : i = L.length := by omega
   have d2 : decide (((L.length : Nat) : Int) < (L.length : Int)) = false := by simp
   clear hi hgg hlt
   go_wp2_with fail
   go_ret
   refine ⟨_, rfl, ?_, below_step HB2.out HB.out⟩
   rw [HNL.out]
   have h1 := HO.out
   rw [List.take_length] at h1
   exact Kd.R_lower h1 HB2.out.size
def rowsL (W s : Int) (C : List Int) (k : Nat) : List Int := (List.range (k * (tw W s).toNat)).map fun l : Nat => rd C (glo W s (l : Int))
theorem rows_next {W H s : Int} {C : List Int} (hd : Dim W H) (hs : inS W H s) (hl : (C.length : Int) = W * H) {k : Nat} (hk : (k : Int) < th W H s) : rowsL W s C (k + 1) = rowsL W s C k ++ ((C.take (glo W s (k * tw W s) + tw W s).toNat).drop (glo W s (k * tw W s)).toNat) := by
 have b := sec_box hd hs.1 hs.2
 have q := box_wh hd hs
 have hkt : (k : Int) * tw W s + tw W s ≤ tw W s * th W H s := by
  have := Int.mul_le_mul_of_nonneg_right (show (k : Int) + 1 ≤ th W H s by omega) (show 0 ≤ tw W s by omega)
  rw [Int.add_mul, Int.one_mul, Int.mul_comm (th W H s)] at this
  exact this
 have hk0 : 0 ≤ (k : Int) * tw W s := Int.mul_nonneg (by omega) (by omega)
 have hat : ∀ j : Int, 0 ≤ j → j < tw W s → glo W s (k * tw W s + j) = glo W s (k * tw W s) + j := by
  intro j h0 h1
  have e1 := dm (W := tw W s) (x := j) (y := (k : Int)) h0 h1
  have e2 := dm (W := tw W s) (x := 0) (y := (k : Int)) (by omega) (by omega)
  rw [Int.add_zero] at e2
  unfold glo
  rw [e1.1, e1.2, e2.1, e2.2]
  omega
 have hg := glo_rng hd hs.1 hs.2 hk0 (by omega)
 have hg2 := glo_rng hd hs.1 hs.2 (l := k * tw W s + (tw W s - 1)) (by omega) (by omega)
 rw [hat _ (by omega) (by omega)] at hg2
 obtain ⟨t, ht⟩ : ∃ t : Nat, (t : Int) = tw W s := ⟨(tw W s).toNat, by omega⟩
 obtain ⟨f, hf⟩ : ∃ f : Nat, (f : Int) = glo W s (k * tw W s) := ⟨(glo W s (k * tw W s)).toNat, by omega⟩
 rw [← ht] at hat hf hg2 hg hkt b
 unfold rowsL
 rw [← ht, ← hf, show ((f : Int) + (t : Int)).toNat = f + t by omega, Int.toNat_natCast, Int.toNat_natCast, Nat.add_mul, Nat.one_mul, List.range_add, List.map_append, List.map_map]
 congr 1
 apply List.ext_getElem
 ·simp; omega
 ·intro j h1 h2
  simp only [List.length_map, List.length_range] at h1
  have e := hat (j : Int) (by omega) (by omega)
  simp only [List.getElem_map, List.getElem_range, Function.comp_apply, List.getElem_drop, List.getElem_take]
  rw [show ((k * t + j : Nat) : Int) = (k : Int) * (t : Int) + (j : Int) by rw [Int.natCast_add, Int.natCast_mul], e, ← hf, show (f : Int) + (j : Int) = ((f + j : Nat) : Int) by omega, rd_get C (by omega)]
theorem rows_all {W H s : Int} {C : List Int} (hd : Dim W H) (hs : inS W H s) : rowsL W s C (th W H s).toNat = tileL W H C s := by
 have b := sec_box hd hs.1 hs.2
 have q := box_wh hd hs
 have e : (th W H s).toNat * (tw W s).toNat = (tw W s * th W H s).toNat := by
  have : (((th W H s).toNat * (tw W s).toNat : Nat) : Int) = tw W s * th W H s := by
   rw [Int.natCast_mul, Int.toNat_of_nonneg (by omega), Int.toNat_of_nonneg (by omega), Int.mul_comm]
  omega
 unfold rowsL tileL gloL
 rw [e, List.map_map]
 rfl
end Go.Proofs.YthgehdembghdaaaGreat.P
