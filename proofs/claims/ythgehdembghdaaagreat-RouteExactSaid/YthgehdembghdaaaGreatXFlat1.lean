/-
 PLAIN: distances over a whole map; a sector's own; T1: who leads nearer, from border cell to border cell.
-/
import Derived.Test.YthgehdembghdaaaGreatXInto1
namespace Go.Proofs.YthgehdembghdaaaGreat.P
open Go.RowKit Go.Proofs.YthgehdembghdaaaGreatW.PrintWords Go.Proofs.YthgehdembghdaaaGreatW.PrintLast Go.Proofs.YthgehdembghdaaaGreatW.PrintMore
open Go.Proofs.YthgehdembghdaaaGreat.Geo Go.Proofs.YthgehdembghdaaaGreat.Dist
set_option linter.unusedVariables false
set_option linter.unusedSimpArgs false
variable {W H : Int} {C : List Int}
theorem adj_nb (h : Dim W H) {c j : Int} (h0 : 0 ≤ c) (h1 : c < W * H) (j0 : 0 ≤ j) (j1 : j < W * H) : AdjT W c j ↔ ∃ d, (0 ≤ d ∧ d ≤ 3) ∧ ¬ OutE W H c d ∧ j = nbS W c d := by
 have p := cell_xy h h0 h1
 have e := dm' (W := W) c
 have q := cell_xy h j0 j1
 constructor
 ·intro ha
  unfold AdjT at ha
  rcases ha with rfl | ha | rfl | ha
  ·refine ⟨0, by omega, ?_, by simp [nbS]⟩
   unfold OutE
   rintro (⟨_, h2⟩ | ⟨h2, _⟩ | ⟨h2, _⟩ | ⟨h2, _⟩)
   ·rw [h2] at e; omega
   all_goals omega
  ·refine ⟨1, by omega, ?_, by simp [nbS]; omega⟩
   unfold OutE
   omega
  ·refine ⟨2, by omega, ?_, by simp [nbS]⟩
   unfold OutE
   rintro (⟨h2, _⟩ | ⟨h2, _⟩ | ⟨_, h2⟩ | ⟨h2, _⟩)
   ·omega
   ·omega
   ·rw [h2, Int.sub_mul, Int.mul_comm H W, Int.one_mul] at e; omega
   ·omega
  ·refine ⟨3, by omega, ?_, by simp [nbS]; omega⟩
   unfold OutE
   omega
 ·rintro ⟨d, hd, ho, rfl⟩
  unfold OutE at ho
  unfold AdjT
  rcases s4 hd with rfl | rfl | rfl | rfl
  ·left; simp [nbS]
  ·right; left; exact ⟨by simp [nbS], by omega⟩
  ·right; right; left; simp [nbS]
  ·right; right; right; exact ⟨by simp [nbS], by omega⟩
theorem in_tile (h : Dim W H) {c d : Int} (h0 : 0 ≤ c) (h1 : c < W * H) (hd : 0 ≤ d ∧ d ≤ 3) (ho : ¬ OutE W H c d) (hs : sec W (nbS W c d) = sec W c) : ¬ OutE (tw W (sec W c)) (th W H (sec W c)) (loc W c) d ∧ loc W (nbS W c d) = nbS (tw W (sec W c)) (loc W c) d := by
 have n := nb_rng h h0 h1 hd ho
 have e := nb_xy h h0 h1 hd ho
 have p := cell_xy h h0 h1
 have l1 := loc_at h h0 h1
 have l2 := loc_at h n.1 n.2
 have q := (sec_eq h n.1 n.2 h0 h1).1 hs
 have g := mul_div (t := tw W (sec W c)) (x := c % W % 16) (y := c / W % 16) (by omega) l1.1
 rw [hs] at l2
 rw [e.1, e.2] at l2 q
 unfold OutE at ho ⊢
 have eL : loc W c = c / W % 16 * tw W (sec W c) + c % W % 16 := rfl
 have eN : loc W (nbS W c d) = nbS W c d / W % 16 * tw W (sec W (nbS W c d)) + nbS W c d % W % 16 := rfl
 rw [hs, e.1, e.2] at eN
 rw [eN, eL, g.1, g.2]
 generalize tw W (sec W c) = t at *
 generalize th W H (sec W c) = u at *
 rcases s4 hd with rfl | rfl | rfl | rfl
 ·have e1 : (c / W + (if (0 : Int) = 0 then -1 else if (0 : Int) = 2 then 1 else 0)) % 16 = c / W % 16 - 1 := by simp at q l2 ⊢; omega
  refine ⟨by simp at q l2 ⊢; omega, ?_⟩
  rw [e1, Int.sub_mul]
  simp [nbS]
  omega
 ·have e1 : (c % W + (if (1 : Int) = 1 then 1 else if (1 : Int) = 3 then -1 else 0)) % 16 = c % W % 16 + 1 := by simp at q l2 ⊢; omega
  refine ⟨by rw [e1] at l2; simp at q l2 ⊢; omega, ?_⟩
  rw [e1]
  simp [nbS]
  omega
 ·have e1 : (c / W + (if (2 : Int) = 0 then -1 else if (2 : Int) = 2 then 1 else 0)) % 16 = c / W % 16 + 1 := by simp at q l2 ⊢; omega
  refine ⟨by rw [e1] at l2; simp at q l2 ⊢; omega, ?_⟩
  rw [e1, Int.add_mul]
  simp [nbS]
  omega
 ·have e1 : (c % W + (if (3 : Int) = 1 then 1 else if (3 : Int) = 3 then -1 else 0)) % 16 = c % W % 16 - 1 := by simp at q l2 ⊢; omega
  refine ⟨by simp at q l2 ⊢; omega, ?_⟩
  rw [e1]
  simp [nbS]
  omega
theorem of_tile (h : Dim W H) {c d : Int} (h0 : 0 ≤ c) (h1 : c < W * H) (hd : 0 ≤ d ∧ d ≤ 3) (ho : ¬ OutE (tw W (sec W c)) (th W H (sec W c)) (loc W c) d) : ¬ OutE W H c d ∧ sec W (nbS W c d) = sec W c := by
 have p := cell_xy h h0 h1
 have l1 := loc_at h h0 h1
 have g := mul_div (t := tw W (sec W c)) (x := c % W % 16) (y := c / W % 16) (by omega) l1.1
 have eL : loc W c = c / W % 16 * tw W (sec W c) + c % W % 16 := rfl
 have b := sec_box h (sec_rng h h0 h1).1 (sec_rng h h0 h1).2
 have a := sec_at h h0 h1
 rw [a.1, a.2] at b
 unfold OutE at ho
 rw [eL, g.1, g.2] at ho
 have hno : ¬ OutE W H c d := by
  unfold OutE
  generalize tw W (sec W c) = t at *
  generalize th W H (sec W c) = u at *
  rcases s4 hd with rfl | rfl | rfl | rfl <;> simp at ho ⊢ <;> omega
 have n := nb_rng h h0 h1 hd hno
 have e := nb_xy h h0 h1 hd hno
 refine ⟨hno, ?_⟩
 rw [sec_eq h n.1 n.2 h0 h1, e.1, e.2]
 generalize tw W (sec W c) = t at *
 generalize th W H (sec W c) = u at *
 rcases s4 hd with rfl | rfl | rfl | rfl <;> simp at ho ⊢ <;> omega
theorem tile_dim (h : Dim W H) {s : Int} (hs : inS W H s) : Dim (tw W s) (th W H s) := by
 have b := sec_box h hs.1 hs.2
 exact ⟨by omega, by omega⟩
theorem loc_inj (h : Dim W H) {a b : Int} (a0 : 0 ≤ a) (a1 : a < W * H) (b0 : 0 ≤ b) (b1 : b < W * H) (hs : sec W a = sec W b) (hl : loc W a = loc W b) : a = b := by
 have ga := glo_loc h a0 a1
 have gb := glo_loc h b0 b1
 rw [hs, hl, gb] at ga
 exact ga.symm
structure Two (W H : Int) (C : List Int) (p q : Int) : Prop where
 a : 0 ≤ p ∧ p < W * H
 b : 0 ≤ q ∧ q < W * H
 s : sec W p = sec W q
 ob : rd C q ≠ 255
theorem two_nat (h : MapOk W H C) {a b : Int} (q : Two W H C a b) : ∃ i j : Nat, loc W a = i ∧ loc W b = j ∧ i < (tileL W H C (sec W b)).length ∧ j < (tileL W H C (sec W b)).length ∧ rd (tileL W H C (sec W b)) (j : Int) ≠ 255 ∧ rd (tileL W H C (sec W b)) (i : Int) = rd C a := by
 have ra := loc_rng h.dim q.a.1 q.a.2
 have rb := loc_rng h.dim q.b.1 q.b.2
 have ta := tile_loc (C := C) h.dim q.a.1 q.a.2
 have tb := tile_loc (C := C) h.dim q.b.1 q.b.2
 rw [q.s] at ra ta
 have htl := tileL_len (W := W) (H := H) (C := C) (s := sec W b)
 refine ⟨(loc W a).toNat, (loc W b).toNat, by omega, by omega, by omega, by omega, ?_, ?_⟩
 ·rw [Int.toNat_of_nonneg rb.1, tb]; exact q.ob
 ·rw [Int.toNat_of_nonneg ra.1, ta]
theorem sec_tile (h : MapOk W H C) {b : Int} (hb : 0 ≤ b ∧ b < W * H) : TileOk (tw W (sec W b)) (th W H (sec W b)) (tileL W H C (sec W b)) ∧ ∀ y ∈ tileL W H C (sec W b), 0 ≤ y ∧ y ≤ 255 := by
 have sb := sec_rng h.dim hb.1 hb.2
 exact ⟨tile_ok h sb, fun y hy => by have := tile_bytes h sb y hy; omega⟩
theorem distN_up (h : MapOk W H C) {a b d : Int} (q : Two W H C a b) (hd : 0 ≤ d ∧ d ≤ 3) (ho : ¬ OutE W H a d) (hs : sec W (nbS W a d) = sec W a) (oa : rd C a ≠ 255) (on : rd C (nbS W a d) ≠ 255) : distN W H C (sec W b) a b ≤ distN W H C (sec W b) (nbS W a d) b + rd C (nbS W a d) := by
 have n := nb_rng h.dim q.a.1 q.a.2 hd ho
 obtain ⟨i, j, hi, hj, i1, j1, j2, i3⟩ := two_nat h q
 obtain ⟨i', _, hi', _, i1', _, _, i3'⟩ := two_nat h (a := nbS W a d) (b := b) ⟨n, q.b, by rw [hs, q.s], q.ob⟩
 obtain ⟨ht, hb⟩ := sec_tile h q.b
 have t := in_tile h.dim q.a.1 q.a.2 hd ho hs
 unfold distN
 rw [hi, hj, hi']
 have hin := sec_rng h.dim q.b.1 q.b.2
 have hdm := tile_dim h.dim hin
 have htl := tileL_len (W := W) (H := H) (C := C) (s := sec W b)
 have bx := box_wh h.dim hin
 rw [q.s, hi, hi'] at t
 have ad : AdjT (tw W (sec W b)) (i : Int) (i' : Int) := (adj_nb hdm (by omega) (by omega) (by omega) (by omega)).2 ⟨d, hd, t.1, t.2⟩
 have r : rd (dist1 (tw W (sec W b)) (tileL W H C (sec W b)) (j : Int)) (i : Int) ≤ rd (dist1 (tw W (sec W b)) (tileL W H C (sec W b)) (j : Int)) (i' : Int) + rd (tileL W H C (sec W b)) (i' : Int) := (((one_gr hb ht j1 j2).1 i i1).2 (by show rd (tileL W H C (sec W b)) (i : Int) ≠ 255; rw [i3]; exact oa)).2 i' i1' ad (by show rd (tileL W H C (sec W b)) (i' : Int) ≠ 255; rw [i3']; exact on)
 rw [i3'] at r
 exact r
theorem distN_att (h : MapOk W H C) {a b : Int} (q : Two W H C a b) : 0 ≤ distN W H C (sec W b) a b ∧ distN W H C (sec W b) a b ≤ INF ∧ (distN W H C (sec W b) a b = INF ∨ rd C a ≠ 255 ∧ (a = b ∧ distN W H C (sec W b) a b = 0 ∨ ∃ d, (0 ≤ d ∧ d ≤ 3) ∧ ¬ OutE W H a d ∧ sec W (nbS W a d) = sec W a ∧ rd C (nbS W a d) ≠ 255 ∧ distN W H C (sec W b) a b = distN W H C (sec W b) (nbS W a d) b + rd C (nbS W a d))) := by
 obtain ⟨i, j, hi, hj, i1, j1, j2, i3⟩ := two_nat h q
 obtain ⟨ht, hb⟩ := sec_tile h q.b
 have hin := sec_rng h.dim q.b.1 q.b.2
 have hdm := tile_dim h.dim hin
 have htl := tileL_len (W := W) (H := H) (C := C) (s := sec W b)
 have bx := box_wh h.dim hin
 have rg := dist1_range hb ht j1 j2 i1
 have k := ((one_gr hb ht j1 j2).2 i i1).2
 have eD : distN W H C (sec W b) a b = rd (dist1 (tw W (sec W b)) (tileL W H C (sec W b)) (j : Int)) (i : Int) := by unfold distN; rw [hi, hj]
 rw [eD]
 refine ⟨rg.1, rg.2, ?_⟩
 rcases k with e | ⟨ho, ⟨e1, e2⟩ | ⟨l, hl, had, hol, e⟩⟩
 ·exact .inl e
 ·have ho' : rd (tileL W H C (sec W b)) (i : Int) ≠ 255 := ho
  rw [i3] at ho'
  exact .inr ⟨ho', .inl ⟨loc_inj h.dim q.a.1 q.a.2 q.b.1 q.b.2 q.s (by rw [hi, hj, e1]), e2⟩⟩
 ·have ho' : rd (tileL W H C (sec W b)) (i : Int) ≠ 255 := ho
  rw [i3] at ho'
  have had' : AdjT (tw W (sec W b)) (i : Int) (l : Int) := had
  have hl' : l < (tileL W H C (sec W b)).length := hl
  obtain ⟨d, hd, hno, hn⟩ := (adj_nb hdm (by omega) (by omega) (by omega) (by omega)).1 had'
  rw [← q.s, ← hi] at hno
  have t := of_tile h.dim q.a.1 q.a.2 hd hno
  have u := in_tile h.dim q.a.1 q.a.2 hd t.1 t.2
  rw [q.s, hi, ← hn] at u
  have n := nb_rng h.dim q.a.1 q.a.2 hd t.1
  obtain ⟨i', _, hi', _, i1', _, _, i3'⟩ := two_nat h (a := nbS W a d) (b := b) ⟨n, q.b, by rw [t.2, q.s], q.ob⟩
  have hll : i' = l := by omega
  subst hll
  have hol' : rd (tileL W H C (sec W b)) (i' : Int) ≠ 255 := hol
  rw [i3'] at hol'
  refine .inr ⟨ho', .inr ⟨d, hd, t.1, t.2, hol', ?_⟩⟩
  have e' : rd (dist1 (tw W (sec W b)) (tileL W H C (sec W b)) (j : Int)) (i : Int) = rd (dist1 (tw W (sec W b)) (tileL W H C (sec W b)) (j : Int)) (i' : Int) + rd (tileL W H C (sec W b)) (i' : Int) := e
  rw [e', i3']
  unfold distN
  rw [hi', hj]
structure FlatD (W H : Int) (C : List Int) (t : Int) (D : List Int) : Prop where
 ok : MapOk W H C
 goal : 0 ≤ t ∧ t < W * H
 len : D.length = C.length
 gr : (grT W C [⟨t, 4, 0⟩]).IsDist (fun i => rd D (i : Int))
variable {t : Int} {D : List Int}
theorem cost_pos (h : MapOk W H C) (l : List Seed) : ∀ j, j < (grT W C l).n → (grT W C l).opn j → 1 ≤ (grT W C l).c j ∧ (grT W C l).c j ≤ 254 := by
 intro j hj ho
 have hj' : j < C.length := hj
 have h1 := h.cost (C[j]) (List.getElem_mem _)
 have h3 : rd C (j : Int) ≠ 255 := ho
 rw [rd_get C hj'] at h3
 show 1 ≤ rd C (j : Int) ∧ rd C (j : Int) ≤ 254
 rw [rd_get C hj']
 omega
theorem isDist_congr {g : Gr} {D D' : Nat → Int} (h : g.IsDist D) (e : ∀ i, i < g.n → D' i = D i) : g.IsDist D' := by
 refine ⟨fun i hi => ?_, fun i hi => ?_⟩
 ·rw [e i hi]
  exact ⟨(h.1 i hi).1, fun ho => ⟨((h.1 i hi).2 ho).1, fun j hj ha hoj => by rw [e j hj]; exact ((h.1 i hi).2 ho).2 j hj ha hoj⟩⟩
 ·rw [e i hi]
  refine ⟨(h.2 i hi).1, ?_⟩
  rcases (h.2 i hi).2 with q | ⟨ho, q | ⟨j, hj, ha, hoj, q⟩⟩
  ·exact .inl q
  ·exact .inr ⟨ho, .inl q⟩
  ·exact .inr ⟨ho, .inr ⟨j, hj, ha, hoj, by rw [e j hj]; exact q⟩⟩
theorem flatD_ex (h : MapOk W H C) (ht : 0 ≤ t ∧ t < W * H) : ∃ D, FlatD W H C t D := by
 obtain ⟨D, hD⟩ := Gr.exists_dist (g := grT W C [⟨t, 4, 0⟩]) (fun j hj ho => (cost_pos h _ j hj ho).1) (by show (0 : Int) ≤ INF; decide) (fun i => if (i : Int) = t then 0 else INF) (fun i _ => by show 0 ≤ (if (i : Int) = t then (0 : Int) else INF); split <;> decide) (fun i k _ hk => by
  obtain ⟨x, hx, e0, e2⟩ := hk
  obtain rfl : x = ⟨t, 4, 0⟩ := by simpa using hx
  have e0' : t = (i : Int) := e0
  have e2' : (0 : Int) = k := e2
  show (if (i : Int) = t then (0 : Int) else INF) ≤ k
  rw [if_pos e0'.symm]
  omega) (fun i _ => by
  by_cases e : (i : Int) = t
  ·right
   show (grT W C [⟨t, 4, 0⟩]).src i (if (i : Int) = t then (0 : Int) else INF)
   rw [if_pos e]
   exact ⟨⟨t, 4, 0⟩, by simp, e.symm, rfl⟩
  ·left
   show INF ≤ (if (i : Int) = t then (0 : Int) else INF)
   rw [if_neg e]
   exact Int.le_refl _)
 exact ⟨(List.range C.length).map D, h, ht, by simp, isDist_congr hD (fun i hi => by
  have hi' : i < C.length := hi
  show rd ((List.range C.length).map D) (i : Int) = D i
  rw [rd_get _ (by simpa using hi')]
  simp)⟩
theorem FlatD.rng (h : FlatD W H C t D) {c : Int} (hc : 0 ≤ c ∧ c < W * H) : 0 ≤ rd D c ∧ rd D c ≤ INF := by
 obtain ⟨n, rfl⟩ : ∃ n : Nat, c = n := ⟨c.toNat, by omega⟩
 have hn : n < C.length := by have := h.ok.len; omega
 exact ⟨(h.gr.2 n hn).1, (h.gr.1 n hn).1⟩
theorem FlatD.self (h : FlatD W H C t D) (ho : rd C t ≠ 255) : rd D t = 0 := by
 obtain ⟨n, hn⟩ : ∃ n : Nat, t = n := ⟨t.toNat, by have := h.goal; omega⟩
 have hl : n < C.length := by have := h.ok.len; have := h.goal; omega
 have a := (h.rng h.goal).1
 have b := ((h.gr.1 n hl).2 (by show rd C (n : Int) ≠ 255; rw [← hn]; exact ho)).1 0 ⟨⟨t, 4, 0⟩, by simp, hn, rfl⟩
 have b' : rd D (n : Int) ≤ 0 := b
 rw [← hn] at b'
 omega
theorem FlatD.up (h : FlatD W H C t D) {c d : Int} (hc : 0 ≤ c ∧ c < W * H) (hd : 0 ≤ d ∧ d ≤ 3) (ho : ¬ OutE W H c d) (oc : rd C c ≠ 255) (on : rd C (nbS W c d) ≠ 255) : rd D c ≤ rd D (nbS W c d) + rd C (nbS W c d) := by
 have n := nb_rng h.ok.dim hc.1 hc.2 hd ho
 have ad := (adj_nb h.ok.dim hc.1 hc.2 n.1 n.2).2 ⟨d, hd, ho, rfl⟩
 generalize nbS W c d = j at *
 obtain ⟨i, rfl⟩ : ∃ n : Nat, c = n := ⟨c.toNat, by omega⟩
 obtain ⟨j, rfl⟩ : ∃ n : Nat, j = n := ⟨j.toNat, by omega⟩
 have := h.ok.len
 exact ((h.gr.1 i (by show i < C.length; omega)).2 oc).2 j (by show j < C.length; omega) ad on
theorem FlatD.att (h : FlatD W H C t D) {c : Int} (hc : 0 ≤ c ∧ c < W * H) : rd D c = INF ∨ rd C c ≠ 255 ∧ (c = t ∧ rd D c = 0 ∨ ∃ d, (0 ≤ d ∧ d ≤ 3) ∧ ¬ OutE W H c d ∧ rd C (nbS W c d) ≠ 255 ∧ rd D c = rd D (nbS W c d) + rd C (nbS W c d)) := by
 obtain ⟨i, rfl⟩ : ∃ n : Nat, c = n := ⟨c.toNat, by omega⟩
 have hl := h.ok.len
 rcases (h.gr.2 i (by show i < C.length; omega)).2 with q | ⟨ho, q | ⟨j, hj, ha, hoj, q⟩⟩
 ·exact .inl q
 ·obtain ⟨x, hx, e0, e2⟩ := q
  obtain rfl : x = ⟨t, 4, 0⟩ := by simpa using hx
  have e0' : t = (i : Int) := e0
  have e2' : (0 : Int) = rd D (i : Int) := e2
  exact .inr ⟨ho, .inl ⟨e0'.symm, e2'.symm⟩⟩
 ·have hj' : j < C.length := hj
  obtain ⟨d, hd, hno, hn⟩ := (adj_nb h.ok.dim hc.1 hc.2 (j := (j : Int)) (by omega) (by omega)).1 ha
  have hoj' : rd C (j : Int) ≠ 255 := hoj
  have q' : rd D (i : Int) = rd D (j : Int) + rd C (j : Int) := q
  rw [hn] at hoj' q'
  exact .inr ⟨ho, .inr ⟨d, hd, hno, hoj', q'⟩⟩
theorem FlatD.small (h : FlatD W H C t D) {c : Int} (hc : 0 ≤ c ∧ c < W * H) (hf : rd D c ≠ INF) : rd D c ≤ 254 * (W * H) := by
 obtain ⟨i, rfl⟩ : ∃ n : Nat, c = n := ⟨c.toNat, by omega⟩
 have hl := h.ok.len
 have := Gr.bound_n (fun j hj ho => (cost_pos h.ok _ j hj ho).1) h.gr 0 254 (by omega) (fun j hj ho => (cost_pos h.ok _ j hj ho).2) (fun i k _ hk => by
  obtain ⟨x, hx, e0, e2⟩ := hk
  obtain rfl : x = ⟨t, 4, 0⟩ := by simpa using hx
  have e2' : (0 : Int) = k := e2
  omega) i (by show i < C.length; omega) hf
 have h' : rd D (i : Int) ≤ 0 + 254 * (C.length : Int) := this
 omega
theorem FlatD.way (h : FlatD W H C t D) : ∀ (n : Nat) (a b : Int), Two W H C a b → distN W H C (sec W b) a b ≤ (n : Int) → distN W H C (sec W b) a b < INF → rd D a ≤ rd D b + distN W H C (sec W b) a b := by
 intro n
 induction n with
 | zero =>
  intro a b q hn hf
  obtain ⟨d0, d1, e | ⟨oa, ⟨e1, e2⟩ | ⟨d, hd, ho, hs, on, e⟩⟩⟩ := distN_att h.ok q
  ·omega
  ·rw [e2, e1]; omega
  ·have nr := nb_rng h.ok.dim q.a.1 q.a.2 hd ho
   have := rd_cost h.ok nr.1 nr.2
   have := (distN_att h.ok (a := nbS W a d) (b := b) ⟨nr, q.b, by rw [hs, q.s], q.ob⟩).1
   omega
 | succ n ih =>
  intro a b q hn hf
  obtain ⟨d0, d1, e | ⟨oa, ⟨e1, e2⟩ | ⟨d, hd, ho, hs, on, e⟩⟩⟩ := distN_att h.ok q
  ·omega
  ·rw [e2, e1]; omega
  ·have nr := nb_rng h.ok.dim q.a.1 q.a.2 hd ho
   have c1 := rd_cost h.ok nr.1 nr.2
   have q' : Two W H C (nbS W a d) b := ⟨nr, q.b, by rw [hs, q.s], q.ob⟩
   have := ih (nbS W a d) b q' (by omega) (by omega)
   have := h.up q.a hd ho oa on
   omega
theorem FlatD.via (h : FlatD W H C t D) {a b : Int} (q : Two W H C a b) (hf : distN W H C (sec W b) a b < INF) : rd D a ≤ rd D b + distN W H C (sec W b) a b :=
 h.way (distN W H C (sec W b) a b).toNat a b q (by omega) hf
theorem distN_self (h : MapOk W H C) {a : Int} (ha : 0 ≤ a ∧ a < W * H) (oa : rd C a ≠ 255) : distN W H C (sec W a) a a = 0 := (distN_two h ha ha rfl oa oa).2.1 rfl
theorem FlatD.leave (h : FlatD W H C t D) : ∀ (n : Nat) (a : Int), 0 ≤ a ∧ a < W * H → rd D a ≤ (n : Int) → rd D a ≠ INF → ∃ b, Two W H C a b ∧ distN W H C (sec W b) a b < INF ∧ rd D a = rd D b + distN W H C (sec W b) a b ∧ (b = t ∨ ∃ d, (0 ≤ d ∧ d ≤ 3) ∧ OverS W H b d ∧ rd C (nbS W b d) ≠ 255 ∧ rd D b = rd D (nbS W b d) + rd C (nbS W b d)) := by
 intro n
 induction n with
 | zero =>
  intro a ha hn hf
  rcases h.att ha with q | ⟨oa, ⟨e1, e2⟩ | ⟨d, hd, ho, on, e⟩⟩
  ·exact absurd q hf
  ·have s0 := distN_self h.ok ha oa
   exact ⟨a, ⟨ha, ha, rfl, oa⟩, by rw [s0]; decide, by rw [s0]; omega, .inl e1⟩
  ·have nr := nb_rng h.ok.dim ha.1 ha.2 hd ho
   have := rd_cost h.ok nr.1 nr.2
   have := (h.rng nr).1
   omega
 | succ n ih =>
  intro a ha hn hf
  rcases h.att ha with q | ⟨oa, ⟨e1, e2⟩ | ⟨d, hd, ho, on, e⟩⟩
  ·exact absurd q hf
  ·have s0 := distN_self h.ok ha oa
   exact ⟨a, ⟨ha, ha, rfl, oa⟩, by rw [s0]; decide, by rw [s0]; omega, .inl e1⟩
  ·have nr := nb_rng h.ok.dim ha.1 ha.2 hd ho
   have c1 := rd_cost h.ok nr.1 nr.2
   have r0 := h.rng ha
   by_cases hs : sec W (nbS W a d) = sec W a
   ·obtain ⟨b, q, hq, eb, hb⟩ := ih (nbS W a d) nr (by omega) (by omega)
    have q2 : Two W H C a b := ⟨ha, q.b, by rw [← hs]; exact q.s, q.ob⟩
    have u := distN_up h.ok q2 hd ho hs oa on
    have rn := h.rng nr
    have rb := h.rng q.b
    have hfin : distN W H C (sec W b) a b < INF := by
     have := (distN_att h.ok q2).2.2
     have t1 := h.small nr (by omega)
     have wh := wh_le h.ok.dim
     show _ < (1099511627776 : Int)
     omega
    have v := h.via q2 hfin
    exact ⟨b, q2, hfin, by omega, hb⟩
   ·have s0 := distN_self h.ok ha oa
    exact ⟨a, ⟨ha, ha, rfl, oa⟩, by rw [s0]; decide, by rw [s0]; omega, .inr ⟨d, hd, ⟨ho, hs⟩, on, e⟩⟩
theorem FlatD.out (h : FlatD W H C t D) {a : Int} (ha : 0 ≤ a ∧ a < W * H) (hf : rd D a ≠ INF) : ∃ b, Two W H C a b ∧ distN W H C (sec W b) a b < INF ∧ rd D a = rd D b + distN W H C (sec W b) a b ∧ (b = t ∨ ∃ d, (0 ≤ d ∧ d ≤ 3) ∧ OverS W H b d ∧ rd C (nbS W b d) ≠ 255 ∧ rd D b = rd D (nbS W b d) + rd C (nbS W b d)) :=
 h.leave (rd D a).toNat a ha (by have := h.rng ha; omega) hf
variable {s : GridS} {x : MeshS}
theorem edge_le (hF : Fresh s x) (h : FlatD s.W s.H s.C t D) {b : Int} {e : EdgeS} (he : e ∈ intoM s x b) : rd D e.f0 ≤ rd D b + e.f1 := by
 obtain ⟨hb, he⟩ := (mem_into hF e).1 he
 have nb := (isNode_iff hF b).1 hb
 rcases he with ⟨n1, n2, n3, n4, n5⟩ | ⟨d, hd, n1, n2, n3, n4⟩
 ·have na := (isNode_iff hF _).1 n1
  have q : Two s.W s.H s.C e.f0 b := ⟨na.1, nb.1, n2, nb.2.2⟩
  rw [n4]
  refine h.via q ?_
  have := (distN_att h.ok q).2.1
  rw [← n4] at this ⊢
  omega
 ·have hd3 : 0 ≤ (d : Int) ∧ (d : Int) ≤ 3 := by omega
  have bk := back h.ok.dim nb.1.1 nb.1.2 hd3 n1.1
  have r := nb_rng h.ok.dim nb.1.1 nb.1.2 hd3 n1.1
  have := h.up (c := nbS s.W b (d : Int)) r bk.1 bk.2.1 (by rw [← n2]; exact n3) (by rw [bk.2.2]; exact nb.2.2)
  rw [bk.2.2] at this
  rw [n2, n4]
  exact this
theorem edge_at (hF : Fresh s x) (h : FlatD s.W s.H s.C t D) {a : Int} (ha : isNode s x a) (hf : rd D a ≠ INF) : (Two s.W s.H s.C a t ∧ rd D a = distN s.W s.H s.C (sec s.W t) a t) ∨ ∃ (b : Int) (e : EdgeS), e ∈ intoM s x b ∧ e.f0 = a ∧ rd D a = rd D b + e.f1 ∧ 1 ≤ e.f1 ∧ inC s b := by
 have na := (isNode_iff hF a).1 ha
 obtain ⟨b, q, hq, e, hb⟩ := h.out na.1 hf
 rcases hb with rfl | ⟨d, hd, ho, on, eb⟩
 ·left
  refine ⟨q, ?_⟩
  rw [e, h.self q.ob]
  omega
 ·right
  have nb : isNode s x b := (isNode_iff hF b).2 ⟨q.b, edge_of hd ho, q.ob⟩
  by_cases hab : a = b
  ·subst hab
   have r := nb_rng h.ok.dim na.1.1 na.1.2 hd ho.1
   have bk := back h.ok.dim na.1.1 na.1.2 hd ho.1
   have ob := over_back h.ok.dim na.1.1 na.1.2 hd ho
   obtain ⟨u, hu⟩ : ∃ u : Nat, backS d = (u : Int) := ⟨(backS d).toNat, by omega⟩
   have cn := rd_cost h.ok r.1 r.2
   rw [hu] at bk ob
   refine ⟨nbS s.W a d, ⟨a, rd s.C (nbS s.W a d)⟩, (mem_into hF _).2 ⟨(isNode_iff hF _).2 ⟨r, edge_of bk.1 ob, on⟩, .inr ⟨u, by omega, ob, bk.2.2.symm, na.2.2, rfl⟩⟩, rfl, eb, cn.1, r⟩
  ·have tt := distN_two h.ok na.1 q.b q.s na.2.2 q.ob
   have cb := rd_cost h.ok q.b.1 q.b.2
   refine ⟨b, ⟨a, distN s.W s.H s.C (sec s.W b) a b⟩, (mem_into hF _).2 ⟨nb, .inl ⟨ha, q.s, hab, rfl, by show distN s.W s.H s.C (sec s.W b) a b ≠ INF; omega⟩⟩, rfl, e, ?_, q.b⟩
   have := tt.2.2.1 hab
   show 1 ≤ distN s.W s.H s.C (sec s.W b) a b
   omega
end Go.Proofs.YthgehdembghdaaaGreat.P
