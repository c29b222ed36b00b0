/-
 WALKED BY HAND: the border: sides, Cells, open, Nodes.
-/
import Derived.Test.YthgehdembghdaaaGreatXGrid
namespace Go.Proofs.YthgehdembghdaaaGreat.P
open Go.RowKit Go.Proofs.YthgehdembghdaaaGreatW.PrintWords Go.Proofs.YthgehdembghdaaaGreatW.PrintLast Go.Proofs.YthgehdembghdaaaGreatW.PrintMore
open Go.Proofs.YthgehdembghdaaaGreat.Geo
set_option linter.unusedVariables false
set_option linter.unusedSimpArgs false
variable {w w' : World} {g : Gb} {s : GridS}
def sidesV : Value := .agg #[.int .i64 0, .int .i64 1, .int .i64 2, .int .i64 3]
set_option maxHeartbeats 2000000 in
theorem sides_calls (w : World) : Calls Tryz.prog 123 #[] w fun e w' => e = .returned sidesV ∧ Below w.heap.size w w' := by
 go_enter Tryz.func123, Tryz.ntmps123
 go_wp2
 refine bodyPost_ret (results_cell_row rfl _ _ w.heap.size 157 #[.int .i64 0, .int .i64 1, .int .i64 2, .int .i64 3] (0, 0) _ rfl (blk_new w _) Tryz.underlying157 rfl (by kernel_rfl)) rfl ?_
 exact ⟨rfl, below_alloc (Below.refl _ _) _⟩
def cellsL (W H s : Int) : List Int := (gloL W H s).filter fun c => decide (edgeS W H c)
theorem cells_nodes (W H : Int) (C : List Int) (s : Int) : nodesL W H C s = (cellsL W H s).filter fun c => decide (rd C c ≠ 255) := by
 unfold nodesL cellsL
 rw [List.filter_filter]
 congr 1
 funext c
 rw [Bool.and_comm]
theorem infoBl : (Tryz.prog.info? 4).map (fun i => (i.zero, i.size, i.bytes)) = some (some (.bool false), 1, 1) := by kernel_rfl
def MarkE (W H s : Int) (k : Nat) (E : List Bool) : Prop := E.length = (tw W s * th W H s).toNat ∧ ∀ l : Nat, l < E.length → (rdOf false E (l : Int) = true ↔ ∃ d : Nat, d < k ∧ alongS W H s l d ∧ hasS W H s d)
def MarkL (W H s : Int) (k : Nat) (L : List Int) (E : List Bool) : Prop := E.length = (tw W s * th W H s).toNat ∧ ∀ l : Nat, l < E.length → (rdOf false E (l : Int) = true ↔ (∃ d : Nat, d < k ∧ alongS W H s l d ∧ hasS W H s d) ∨ (l : Int) ∈ L)
theorem rdB_set (E : List Bool) (p q : Nat) (v : Bool) (hq : q < E.length) : rdOf false (E.set p v) (q : Int) = if p = q then v else rdOf false E (q : Int) := by
 unfold rdOf
 rw [Int.toNat_natCast, List.getD_eq_getElem?_getD, List.getD_eq_getElem?_getD, List.getElem?_set]
 by_cases e : p = q
 ·subst e; simp [hq]
 ·simp [e]
theorem MarkL.next {W H s : Int} {k : Nat} {L : List Int} {E : List Bool} (h : MarkL W H s k L E) {p : Nat} (hp : p < E.length) : MarkL W H s k (L ++ [(p : Int)]) (E.set p true) := by
 refine ⟨by rw [List.length_set]; exact h.1, fun l hl => ?_⟩
 rw [List.length_set] at hl
 rw [rdB_set _ _ _ _ hl, List.mem_append, List.mem_singleton]
 by_cases e : p = l
 ·subst e; simp
 ·rw [if_neg e, h.2 l hl]
  constructor
  ·rintro (q | q)
   ·exact .inl q
   ·exact .inr (.inl q)
  ·rintro (q | q | q)
   ·exact .inl q
   ·exact .inr q
   ·omega
theorem MarkE.start {W H s : Int} {k : Nat} {E : List Bool} (h : MarkE W H s k E) : MarkL W H s k [] E := ⟨h.1, fun l hl => by rw [h.2 l hl]; simp⟩
theorem MarkE.skip {W H s : Int} {k : Nat} {E : List Bool} (h : MarkE W H s k E) (hn : ¬ hasS W H s k) : MarkE W H s (k + 1) E := ⟨h.1, fun l hl => by
 rw [h.2 l hl]
 constructor
 ·rintro ⟨d, hd, q⟩; exact ⟨d, by omega, q⟩
 ·rintro ⟨d, hd, q⟩
  by_cases e : d = k
  ·subst e; exact absurd q.2 hn
  ·exact ⟨d, by omega, q⟩⟩
theorem MarkL.ends {W H s : Int} {k : Nat} {E : List Bool} (hd : Dim W H) (hs : inS W H s) (hk : k < 4) (h : MarkL W H s k (alongL (tw W s) (th W H s) k) E) (hn : hasS W H s k) : MarkE W H s (k + 1) E := ⟨h.1, fun l hl => by
 have hb := box_wh hd hs
 have hlt : (l : Int) < tw W s * th W H s := by rw [h.1] at hl; omega
 rw [h.2 l hl, mem_along hd hs (by omega)]
 constructor
 ·rintro (⟨d, hd, q⟩ | ⟨_, q⟩)
  ·exact ⟨d, by omega, q⟩
  ·exact ⟨k, by omega, q, hn⟩
 ·rintro ⟨d, hd, q⟩
  by_cases e : d = k
  ·subst e; exact .inr ⟨⟨by omega, hlt⟩, q.1⟩
  ·exact .inl ⟨d, by omega, q⟩⟩
theorem MarkE.edge {W H s : Int} {E : List Bool} (hd : Dim W H) (hs : inS W H s) (h : MarkE W H s 4 E) {l : Nat} (hl : l < E.length) : rdOf false E (l : Int) = decide (edgeS W H (glo W s l)) := by
 have hlt : (l : Int) < tw W s * th W H s := by have := box_wh hd hs; rw [h.1] at hl; omega
 have e : rdOf false E (l : Int) = true ↔ edgeS W H (glo W s l) := by
  rw [h.2 l hl, edge_iff]
  constructor
  ·rintro ⟨d, hd4, q⟩; exact ⟨d, by omega, (over_glo hd hs.1 hs.2 (by omega) hlt (by omega)).2 q⟩
  ·rintro ⟨d, hd4, q⟩; exact ⟨d.toNat, by omega, by rw [Int.toNat_of_nonneg hd4.1]; exact (over_glo hd hs.1 hs.2 (by omega) hlt hd4).1 q⟩
 by_cases q : edgeS W H (glo W s l)
 ·rw [decide_eq_true q]; exact e.2 q
 ·rw [decide_eq_false q]
  cases hb : rdOf false E (l : Int)
  ·rfl
  ·exact absurd (e.1 hb) q
theorem cells_take {W H s : Int} {n : Nat} : ((List.range (n + 1)).map fun l : Nat => glo W s (l : Int)).filter (fun c => decide (edgeS W H c)) = ((List.range n).map fun l : Nat => glo W s (l : Int)).filter (fun c => decide (edgeS W H c)) ++ (if edgeS W H (glo W s (n : Int)) then [glo W s (n : Int)] else []) := by
 rw [List.range_succ, List.map_append, List.filter_append]
 congr 1
 by_cases q : edgeS W H (glo W s (n : Int)) <;> simp [q]
structure EdW (w wr : World) (eb cap n : Nat) (E : List Bool) : Prop where
 row : Kd.R Kd.bool 4 wr w.heap.size (fun _ => True) (.slice (some ⟨eb, 0, none⟩) n cap) E
 len : E.length = n
 below : Below w.heap.size w wr
theorem EdW.step {wr : World} {eb cap n : Nat} {E : List Bool} (h : EdW w wr eb cap n E) (hb : Below wr.heap.size wr w') : EdW w w' eb cap n E := ⟨Kd.R_below h.row hb, h.len, below_step h.below hb⟩
theorem EdW.cell {wr : World} {eb cap n : Nat} {E : List Bool} (h : EdW w wr eb cap n E) {j : Nat} (hj : j < n) : wr.cell? ⟨eb, j, none⟩ = some (.bool (rdOf false E (j : Int))) ∧ wr.frozen? ⟨eb, j, none⟩ = false := by
 have := Kd.R_celln false h.row (j : Int) (by omega) (by omega)
 rw [Int.toNat_natCast] at this
 exact this
theorem EdW.typ {wr : World} {eb cap n : Nat} {E : List Bool} (h : EdW w wr eb cap n E) : ∃ cs, wr.heap[eb]? = some (.cells cs 4 (0, 0)) := Kd.R_typed h.row _ rfl
theorem EdW.set {wr : World} {eb cap n : Nat} {E : List Bool} (h : EdW w wr eb cap n E) (j : Nat) : EdW w (wr.setCell ⟨eb, j, none⟩ (.bool true)) eb cap n (E.set j true) := by
 have h0 := h.row
 rw [← h.len] at h0
 have h1 := (Kd.R_put h0 (j : Int) true).1
 rw [Int.toNat_natCast, h.len] at h1
 exact ⟨h1, by rw [List.length_set]; exact h.len, h.below.setCell (show w.heap.size ≤ eb from Kd.R_base h.row eb rfl) _⟩
set_option maxRecDepth 100000 in
set_option maxHeartbeats 8000000 in
theorem cells_calls {W H s : Int} (h : Dim W H) (hs : inS W H s) (w : World) : Calls Tryz.prog 121 #[.int .i64 W, .int .i64 H, .int .i64 s] w fun e w' => ∃ v, e = .returned v ∧ RowN w' w.heap.size v (cellsL W H s) ∧ Below w.heap.size w w' := by
 have HD := Aside0.mk h
 have HS := Aside0.mk hs
 have hb := sec_box h hs.1 hs.2
 have hw := box_wh h hs
 have hz := wSize h hs
 obtain ⟨t, ht⟩ : ∃ t, t = tw W s := ⟨_, rfl⟩
 obtain ⟨u, hu⟩ : ∃ u, u = th W H s := ⟨_, rfl⟩
 rw [← ht, ← hu] at hb hw hz
 have HSZ := Aside0.mk hz
 obtain ⟨n, hn⟩ : ∃ n : Nat, (n : Int) = t * u := ⟨(t * u).toNat, by omega⟩
 have hmul : IntKind.i64.wrap (t * u) = (n : Int) := by rw [IntKind.wrap_i64]; omega
 have HN : Aside0 ((0 : Int) ≤ (n : Int) ∧ ((n : Int)).toNat * 1 ≤ 281474976710656) := ⟨by omega⟩
 have HT := Aside0.mk (And.intro ht (And.intro hu (And.intro hn (And.intro hb.2.2.2.2.1 (And.intro hb.2.2.2.2.2 hw)))))
 clear h hs hb hw hz ht hu hn
 go_enter Tryz.func121, Tryz.ntmps121
 go_upto_region 2 with (go_at_call 100; refine (where_Size.calls W H s t u _ HSZ.out).mono ?_; rintro e w1 ⟨rfl, hb⟩; have HB1 := Aside0.mk hb; clear hb)
 go_upto_region 3 with ((with_reducible refine gate_dst (N := 28) rfl ?_); refine Kd.R_make Kd.bool (w0 := w) w.heap.size 4 rfl (N := 28) rfl 24 _ _ rfl (n : Int) rfl rfl Tryz.underlying24 (.bool false) 1 infoBl rfl (by decide) (by omega) false (ok := fun _ => True) (okp := fun _ => True) rfl (fun _ hk => hk) trivial HN.out.1 HN.out.2 HB1.out HB1.out.size ?_; intro v2 w2 ho hb hg hnew; obtain ⟨eb, cap, rfl, hbe, _, _⟩ := Kd.R_form ho (by have := HT.out; rw [List.length_replicate]; omega); have HE2 : Aside0 (EdW w w2 eb cap n (List.replicate n false)) := ⟨by rw [List.length_replicate, Int.toNat_natCast] at ho; exact ⟨ho, by simp, hb⟩⟩; clear ho hb hg hnew hbe)
 clear HB1
 go_wp2_with (go_at_call 123; refine (sides_calls _).mono ?_; rintro e w3 ⟨rfl, hb⟩; have HE3 := Aside0.mk (HE2.out.step hb); clear hb HE2)
 obtain ⟨sv, hsv⟩ : ∃ sv, sv = sidesV := ⟨_, rfl⟩
 rw [← hsv]
 have hidx : ∀ (k : Nat) (wx : World), k < 4 → (Instr.index 157 sv (.int .i64 (k : Int))).run Tryz.prog wx = .ok (.int .i64 (k : Int)) wx := fun k wx hk => by
  subst hsv
  rcases (show k = 0 ∨ k = 1 ∨ k = 2 ∨ k = 3 by omega) with rfl | rfl | rfl | rfl <;> kernel_rfl
 have HIDX := Aside0.mk hidx
 clear hidx hsv hmul
 go_loopg [30] 4 (fun gg v30 wr => ∃ (k : Nat) (E : List Bool), v30 = .int .i64 k ∧ k ≤ 4 ∧ 4 - k ≤ gg ∧ Aside0 (MarkE W H s k E) ∧ Aside0 (EdW w wr eb cap n E))
 case atStart => exact ⟨0, _, rfl, Nat.zero_le _, Nat.le_refl _, ⟨by
  have hh := HT.out
  refine ⟨by rw [List.length_replicate, ← hh.1, ← hh.2.1]; omega, fun l hl => ?_⟩
  rw [List.length_replicate] at hl
  have e : rdOf false (List.replicate n false) (l : Int) = false := by unfold rdOf; rw [Int.toNat_natCast, List.getD_eq_getElem?_getD, List.getElem?_replicate, if_pos hl]; rfl
  rw [e]
  constructor
  ·intro q; cases q
  ·rintro ⟨d, hd, _⟩; omega⟩, HE3⟩
 case round =>
  clear HE3
  obtain ⟨k, E, rfl, hk, hgg, HM, HE⟩ := hrel
  by_cases hlt : k < 4
  ·have d1 : (k : Int) < 4 := by omega
   have hidx := fun wx => HIDX.out k wx hlt
   obtain ⟨ht, hu, hn, hbt, hbu, hw⟩ := HT.out
   have hal := wAlong (t := t) (u := u) (d := (k : Int)) (by omega) (by omega) (by omega) (by omega) (by omega) 30 (by omega)
   have HLn : Aside0 (0 < (alongL t u (k : Int)).length) := ⟨by rw [along_len (by omega)]; split <;> omega⟩
   have HLm : Aside0 (∀ x, x ∈ alongL t u (k : Int) ↔ (0 ≤ x ∧ x < t * u) ∧ alongS W H s x (k : Int)) := ⟨fun x => by
    rw [ht, hu]
    exact mem_along HD.out HS.out (by omega)⟩
   obtain ⟨L, hL⟩ : ∃ L, L = alongL t u (k : Int) := ⟨_, rfl⟩
   rw [← hL] at hal HLn HLm
   have HAL := Aside0.mk hal
   have HLL := Aside0.mk hL
   have HI := Aside0.mk (And.intro hk (And.intro hgg hlt))
   clear hk hgg hlt ht hu hn hbt hbu hw hal hL
   go_upto_region 7 with (go_at_call 145; refine (border_along.calls 30 t u k L _ HAL.out).mono ?_; rintro e w4 ⟨v4, rfl, ho, hb⟩; obtain ⟨AL, nL, rfl⟩ := Kd.R_slice ho; have HE4 := Aside0.mk (HE.out.step hb); have HL4 := Aside0.mk (Kd.R_lower ho HE.out.below.size); clear ho hb)
   obtain ⟨l0, hl0⟩ : ∃ l0, l0 = rd L 0 := ⟨_, rfl⟩
   have hl0m : l0 ∈ L := by
    have := HLn.out
    rw [hl0, show (0 : Int) = ((0 : Nat) : Int) from rfl, rd_get L this]
    exact List.getElem_mem this
   obtain ⟨⟨q0, q1⟩, q2⟩ := (HLm.out l0).1 hl0m
   obtain ⟨ht, hu, hn, hbt, hbu, hw⟩ := HT.out
   have hg := wGlobal HD.out HS.out q0 (by rw [← ht, ← hu]; exact q1)
   have hgr := glo_rng HD.out HS.out.1 HS.out.2 q0 (by rw [← ht, ← hu]; exact q1)
   have ho := wOver HD.out hgr.1 hgr.2 (s := (k : Int)) (by omega)
   have hov := over_glo HD.out HS.out.1 HS.out.2 q0 (by rw [← ht, ← hu]; exact q1) (d := (k : Int)) (by omega)
   obtain ⟨gc, hgc⟩ : ∃ gc, gc = glo W s l0 := ⟨_, rfl⟩
   rw [← hgc] at hg hgr ho hov
   have HGL := Aside0.mk hg
   have hLC : Kd.C (Kd.int .i64) w4 AL L.length L := (Kd.R_reads' HL4.out).2.2
   have dL2 : (0 : Int) < (L.length : Int) := by have := HLn.out; omega
   obtain ⟨adL, hAL, hx0⟩ := Kd.at_int hLC 0 (Int.le_refl 0) dL2
   subst hAL
   rw [← hl0, show (0 : Int).toNat = 0 from rfl] at hx0
   have hx0' : w4.cell? adL = some (.int .i64 l0) := by rw [show adL = adL.add 0 by simp [Addr.add]]; exact hx0
   have dL : ((L.length : Int) == 0) = false := beq_eq_false_iff_ne.2 (by omega)
   by_cases hh : hasS W H s (k : Int)
   ·have hO : OverS W H gc (k : Int) := hov.2 ⟨q2, hh⟩
    rw [if_pos hO] at ho
    have hnb := nb_rng HD.out hgr.1 hgr.2 (s := (k : Int)) (by omega) hO.1
    obtain ⟨nb, hnbe⟩ : ∃ nb, nb = nbS W gc (k : Int) := ⟨_, rfl⟩
    rw [← hnbe] at ho hnb
    have HOV := Aside0.mk ho
    have dn : decide (nb < 0) = false := decide_eq_false (by omega)
    have HH := Aside0.mk hh
    clear hh hO ho hnb hnbe hov hgr hg hgc ht hu hn hbt hbu hw q0 q1 q2 hl0m hl0 hLC hx0
    go_wp2_with (first | (go_at_call 101; refine (where_Global.calls W H s l0 gc _ HGL.out).mono ?_; rintro e w5 ⟨rfl, hb⟩; have HE5 := Aside0.mk (HE4.out.step hb); have HL5 := Aside0.mk (Kd.R_below HL4.out hb); clear hb hx0') | (go_at_call 124; refine (border_over.calls W H gc k nb _ HOV.out).mono ?_; rintro e w6 ⟨rfl, hd⟩; have HE6 := Aside0.mk (HE5.out.step hd.below); have HL6 := Aside0.mk (Kd.R_below HL5.out hd.below); clear hd))
    have HML : Aside0 (MarkL W H s k (L.take 0) E) := ⟨by rw [List.take_zero]; exact HM.out.start⟩
    clear HE4 HE5 HL4 HL5 HE dL dL2 dn
    go_loopg [56] L.length (fun gg v56 wr => ∃ (q : Nat) (E : List Bool), v56 = .int .i64 q ∧ q ≤ L.length ∧ L.length - q ≤ gg ∧ Aside0 (MarkL W H s k (L.take q) E) ∧ Aside0 (EdW w wr eb cap n E) ∧ Aside0 (RowN wr w.heap.size (.slice (some adL) L.length nL) L))
    case atStart => exact ⟨0, E, rfl, Nat.zero_le _, Nat.le_refl _, HML, HE6, HL6⟩
    case round =>
     clear HML HE6 HL6 HM
     obtain ⟨q, E, rfl, hq, hgg, HML, HEr, HLr⟩ := hrel
     by_cases hlq : q < L.length
     ·have d2 : (q : Int) < (L.length : Int) := by omega
      have hLC : Kd.C (Kd.int .i64) wr (some adL) L.length L := (Kd.R_reads' HLr.out).2.2
      obtain ⟨ad', hAL, hx⟩ := Kd.at_int hLC (q : Int) (by omega) d2
      obtain rfl := Option.some.inj hAL
      rw [Int.toNat_natCast] at hx
      have hm := (HLm.out L[q]).1 (List.getElem_mem hlq)
      obtain ⟨p, hp⟩ : ∃ p : Nat, (p : Int) = L[q] := ⟨L[q].toNat, by omega⟩
      have hpn : p < n := by have := HT.out.2.2.1; omega
      rw [rd_get L hlq, ← hp] at hx
      obtain ⟨ec, ef⟩ := HEr.out.cell hpn
      have e0 : (0 : Int) ≤ (p : Int) := by omega
      have e1 : (p : Int) < (n : Int) := by omega
      have HML2 : Aside0 (MarkL W H s k (L.take (q + 1)) (E.set p true)) := ⟨by
       rw [List.take_succ_eq_append_getElem hlq, ← hp]
       exact HML.out.next (by rw [HEr.out.len]; exact hpn)⟩
      have HE2 := Aside0.mk (HEr.out.set p)
      obtain ⟨cs, hcs⟩ := HEr.out.typ
      have HL2 := Aside0.mk (Kd.R_far (Kd.R_types HLr.out hcs (by decide)) (p := ⟨eb, p, none⟩) (fun k hk => hk.2) (.bool true))
      have HL3 := Aside0.mk (Kd.R_mono HL2.out (fun k hk => hk.1))
      have HI2 := Aside0.mk (And.intro hq (And.intro hgg hlq))
      clear hq hgg hlq hLC hm hp hpn hcs HML HLr HL2
      go_wp2_with fail
      go_roundg (L.length - (q + 1))
      case measure => have := HI2.out; omega
      case rel =>
       have h2 := HI2.out
       have hll := along_len (t := t) (u := u) (d := (k : Int)) (by have := HI.out; omega)
       rw [← HLL.out] at hll
       have htt := HT.out
       have hl16 : L.length ≤ 16 := by rw [hll]; split <;> omega
       exact ⟨q + 1, _, by first | rfl | (rw [w64 (n := (q : Int) + 1) (by omega) (by omega)]; rfl), by omega, Nat.le_refl _, HML2, HE2, HL3⟩
     ·obtain rfl : q = L.length := by omega
      have d2 : decide (((L.length : Nat) : Int) < (L.length : Int)) = false := by simp
      have HM2 : Aside0 (MarkE W H s (k + 1) E) := ⟨by
       have h1 := HML.out
       rw [List.take_length, HLL.out, HT.out.1, HT.out.2.1] at h1
       exact h1.ends HD.out HS.out HI.out.2.2 HH.out⟩
      clear hq hgg hlq
      go_wp2_with fail
      go_roundg (4 - (k + 1))
      case measure => have := HI.out; omega
      case rel => exact ⟨k + 1, _, by first | rfl | (rw [w64 (n := (k : Int) + 1) (by have := HI.out; omega) (by have := HI.out; omega)]; rfl), by have := HI.out; omega, Nat.le_refl _, HM2, HEr⟩
   ·have hO : ¬ OverS W H gc (k : Int) := fun q => hh (hov.1 q).2
    rw [if_neg hO] at ho
    have HOV := Aside0.mk ho
    have HM2 := Aside0.mk (HM.out.skip hh)
    clear hh hO ho hov hgr hg hgc ht hu hn hbt hbu hw q0 q1 q2 hl0m hl0 hLC hx0 HM
    go_wp2_with (first | (go_at_call 101; refine (where_Global.calls W H s l0 gc _ HGL.out).mono ?_; rintro e w5 ⟨rfl, hb⟩; have HE5 := Aside0.mk (HE4.out.step hb); clear hb hx0') | (go_at_call 124; refine (border_over.calls W H gc k (-1) _ HOV.out).mono ?_; rintro e w6 ⟨rfl, hd⟩; have HE6 := Aside0.mk (HE5.out.step hd.below); clear hd))
    go_roundg (4 - (k + 1))
    case measure => have := HI.out; omega
    case rel => exact ⟨k + 1, _, by first | rfl | (rw [w64 (n := (k : Int) + 1) (by have := HI.out; omega) (by have := HI.out; omega)]; rfl), by have := HI.out; omega, Nat.le_refl _, HM2, HE6⟩
  ·obtain rfl : k = 4 := by omega
   have d1 : decide (((4 : Nat) : Int) < 4) = false := rfl
   have hE := HE.out.len
   clear hk hgg hlt
   go_wp2_with fail
   go_loopg [15, 67] n (fun gg v15 v67 wr => ∃ i : Nat, v67 = .int .i64 i ∧ i ≤ n ∧ n - i ≤ gg ∧ Aside0 (EdW w wr eb cap n E) ∧ Aside0 (RowN wr w.heap.size v15 (((List.range i).map fun l : Nat => glo W s (l : Int)).filter (fun c => decide (edgeS W H c)))))
   case atStart => exact ⟨0, rfl, Nat.zero_le _, Nat.le_refl _, HE, ⟨Kd.R_nil _ _ _ _ _⟩⟩
   case round =>
    clear HE
    obtain ⟨i, rfl, hi, hgg, HE, HO⟩ := hrel
    by_cases hlt : i < n
    ·have d2 : (i : Int) < (n : Int) := by omega
     obtain ⟨ec, _⟩ := HE.out.cell hlt
     rw [HM.out.edge HD.out HS.out (by omega)] at ec
     obtain ⟨A5, n5, e5⟩ := Kd.R_slice HO.out
     subst e5
     have hnx := cells_take (W := W) (H := H) (s := s) (n := i)
     obtain ⟨xs, hxs⟩ : ∃ xs, xs = ((List.range i).map fun l : Nat => glo W s (l : Int)).filter (fun c => decide (edgeS W H c)) := ⟨_, rfl⟩
     have hxl : xs.length ≤ i := by
      rw [hxs]
      have := List.length_filter_le (fun c => decide (edgeS W H c)) ((List.range i).map fun l : Nat => glo W s (l : Int))
      simpa using this
     rw [← hxs] at HO hnx ⊢
     have HI := Aside0.mk (And.intro hi (And.intro hgg hlt))
     have HXL : Aside0 ((xs.length + 1) * 8 ≤ 140737488355328) := ⟨by have := HT.out; omega⟩
     obtain ⟨gc, hgc⟩ : ∃ gc, gc = glo W s (i : Int) := ⟨_, rfl⟩
     rw [← hgc] at ec hnx
     have hg : where_Global.f W H s (i : Int) = some gc := by
      rw [hgc]
      exact wGlobal HD.out HS.out (by omega) (by have h := HT.out; rw [← h.1, ← h.2.1]; omega)
     have HGL := Aside0.mk hg
     by_cases he : edgeS W H gc
     ·rw [decide_eq_true he] at ec
      rw [if_pos he] at hnx
      have HNX := Aside0.mk hnx
      clear hi hgg hlt hgc hg he hnx hxl hxs
      go_wp2_with (first
       | (go_at_call 101; refine (where_Global.calls W H s i gc _ HGL.out).mono ?_; rintro e w5 ⟨rfl, hb⟩; have HE5 := Aside0.mk (HE.out.step hb); have HO5 := Aside0.mk (Kd.R_below HO.out hb); clear hb ec)
       | ((with_reducible refine gate_builtin (b := .append) (xs := #[.tmp 73, .tmp 79]) rfl ?_); at_builtin; refine Kd.R_append (Kd.int .i64) (w0 := w) w.heap.size rfl (.tmp 73) (.tmp 79) 36 3 (.int .i64 0) 8 rfl Tryz.underlying36 info3 rfl (by decide) (by omega) (.slice A5 xs.length n5) xs gc [.int .i64 gc] (fun _ => True) (fun _ => False) rfl rfl ?aP (fun _ hk => hk.elim) ?aF ?aO ?aB ?aS ?aL ?_; (case aP => exact rfl); (case aB => exact HE5.out.below); (case aF => exact (fun _ _ => trivial)); (case aO => exact HO5.out); (case aS => exact HE5.out.below.size); (case aL => exact HXL.out); intro v7 w7 ho7 hb7 hg7 hat7; have HO7 := Aside0.mk ho7; have HE7 : Aside0 (EdW w w7 eb cap n E) := ⟨⟨Kd.R_over HE5.out.row HO5.out (by decide) hg7, HE5.out.len, hb7⟩⟩; clear ho7 hb7 hg7 hat7))
      go_roundg (n - (i + 1))
      case measure => have := HI.out; omega
      case rel =>
       have hh := HI.out
       have ht := HT.out
       exact ⟨i + 1, by first | rfl | (rw [w64 (n := (i : Int) + 1) (by omega) (by omega)]; rfl), by omega, Nat.le_refl _, HE7, ⟨by rw [HNX.out]; exact HO7.out⟩⟩
     ·rw [decide_eq_false he] at ec
      rw [if_neg he, List.append_nil] at hnx
      have HNX := Aside0.mk hnx
      clear hi hgg hlt hgc hg he hnx hxl hxs
      go_wp2_with fail
      go_roundg (n - (i + 1))
      case measure => have := HI.out; omega
      case rel =>
       have hh := HI.out
       have ht := HT.out
       exact ⟨i + 1, by first | rfl | (rw [w64 (n := (i : Int) + 1) (by omega) (by omega)]; rfl), by omega, Nat.le_refl _, HE, ⟨by rw [HNX.out]; exact HO.out⟩⟩
    ·obtain rfl : i = n := by omega
     have d2 : decide (((i : Nat) : Int) < (i : Int)) = false := by simp
     clear hi hgg hlt
     go_wp2_with fail
     go_ret
     refine ⟨_, rfl, ?_, HE.out.below⟩
     have hh := HT.out
     have e : cellsL W H s = ((List.range i).map fun l : Nat => glo W s (l : Int)).filter (fun c => decide (edgeS W H c)) := by
      unfold cellsL gloL
      rw [← hh.1, ← hh.2.1, ← hh.2.2.1, Int.toNat_natCast]
     rw [e]
     exact HO.out
end Go.Proofs.YthgehdembghdaaaGreat.P
