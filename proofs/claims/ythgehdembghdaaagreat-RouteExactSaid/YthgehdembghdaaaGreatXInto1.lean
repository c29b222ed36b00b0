/-
 PLAIN: the edges into a node; of a mesh as the map is.
-/
import Derived.Test.YthgehdembghdaaaGreatXFind1
namespace Go.Proofs.YthgehdembghdaaaGreat.P
open Go.RowKit Go.Proofs.YthgehdembghdaaaGreatW.PrintWords Go.Proofs.YthgehdembghdaaaGreatW.PrintLast Go.Proofs.YthgehdembghdaaaGreatW.PrintMore
open Go.Proofs.YthgehdembghdaaaGreat.Geo Go.Proofs.YthgehdembghdaaaGreat.Dist
set_option linter.unusedVariables false
set_option linter.unusedSimpArgs false
theorem dist1_end {W H : Int} {C : List Int} (hb : ∀ x ∈ C, 0 ≤ x ∧ x ≤ 255) (ht : TileOk W H C) {x : Nat} (h1 : x < C.length) (h2 : rd C x ≠ 255) : ∀ (n i : Nat), i < C.length → i ≠ x → rd (dist1 W C x) i ≤ (n : Int) → rd C x ≤ rd (dist1 W C x) i := by
 intro n
 induction n with
 | zero =>
  intro i hi hne hn
  have := dist1_pos hb ht h1 h2 hi hne
  omega
 | succ n ih =>
  intro i hi hne hn
  have hbx := hb (C[x]'h1) (List.getElem_mem _)
  rw [← rd_get C h1] at hbx
  rcases ((one_gr hb ht h1 h2).2 i hi).2 with e | ⟨_, ⟨e, _⟩ | ⟨j, hj, _, hoj, e⟩⟩
  ·have e' : rd (dist1 W C x) i = INF := e
   unfold INF at e'
   omega
  ·exact absurd e hne
  ·have e' : rd (dist1 W C x) i = rd (dist1 W C x) j + rd C j := e
   have h3 : 1 ≤ rd C j := pos_c hb ht j hj hoj
   by_cases q : j = x
   ·subst q
    have := dist1_self hb ht h1 h2
    omega
   ·have := ih j hj q (by omega)
    omega
theorem dist1_ge {W H : Int} {C : List Int} (hb : ∀ x ∈ C, 0 ≤ x ∧ x ≤ 255) (ht : TileOk W H C) {x i : Nat} (h1 : x < C.length) (h2 : rd C x ≠ 255) (hi : i < C.length) (hne : i ≠ x) : rd C x ≤ rd (dist1 W C x) i :=
 dist1_end hb ht h1 h2 (rd (dist1 W C x) i).toNat i hi hne (by omega)
abbrev EdgeS := S53
def stepA (s : GridS) (b d : Int) : Int := if OutE s.W s.H b d then -1 else nbS s.W b d
def inA (s : GridS) (x : MeshS) (b : Int) (i : Nat) : List EdgeS :=
 if i ≠ idx (partC s x b).nodes b ∧ pairD (partC s x b) i (idx (partC s x b).nodes b) ≠ INF then [⟨rd (partC s x b).nodes (i : Int), pairD (partC s x b) i (idx (partC s x b).nodes b)⟩] else []
def sideOk (s : GridS) (x : MeshS) (b d : Int) : Prop := isNode s x (stepA s b d) ∧ sec s.W (stepA s b d) ≠ sec s.W b
instance (s : GridS) (x : MeshS) (b d : Int) : Decidable (sideOk s x b d) := inferInstanceAs (Decidable (_ ∧ _))
def sideA (s : GridS) (x : MeshS) (b : Int) (d : Nat) : List EdgeS := if sideOk s x b (d : Int) then [⟨stepA s b (d : Int), rd s.C b⟩] else []
def inL (s : GridS) (x : MeshS) (b : Int) (n : Nat) : List EdgeS := (List.range n).flatMap (inA s x b)
def sideL (s : GridS) (x : MeshS) (b : Int) (n : Nat) : List EdgeS := (List.range n).flatMap (sideA s x b)
def intoM (s : GridS) (x : MeshS) (b : Int) : List EdgeS := if isNode s x b then inL s x b (partC s x b).nodes.length ++ sideL s x b 4 else []
theorem in_next (s : GridS) (x : MeshS) (b : Int) (n : Nat) : inL s x b (n + 1) = inL s x b n ++ inA s x b n := by
 unfold inL
 rw [List.range_succ, List.flatMap_append]
 simp
theorem side_next (s : GridS) (x : MeshS) (b : Int) (n : Nat) : sideL s x b (n + 1) = sideL s x b n ++ sideA s x b n := by
 unfold sideL
 rw [List.range_succ, List.flatMap_append]
 simp
theorem in_len (s : GridS) (x : MeshS) (b : Int) (n : Nat) : (inL s x b n).length ≤ n := by
 induction n with
 | zero => simp [inL]
 | succ n ih =>
  rw [in_next, List.length_append]
  have : (inA s x b n).length ≤ 1 := by unfold inA; split <;> simp
  omega
theorem side_len (s : GridS) (x : MeshS) (b : Int) (n : Nat) : (sideL s x b n).length ≤ n := by
 induction n with
 | zero => simp [sideL]
 | succ n ih =>
  rw [side_next, List.length_append]
  have : (sideA s x b n).length ≤ 1 := by unfold sideA; split <;> simp
  omega
structure Fresh (s : GridS) (x : MeshS) : Prop where
 ok : MapOk s.W s.H s.C
 len : (x.ps.length : Int) = cnt s.W s.H
 part : ∀ i : Nat, i < x.ps.length → PartOk s.W s.H s.C (i : Int) (x.ps.getD i default)
variable {s : GridS} {x : MeshS}
theorem Fresh.at (h : Fresh s x) {c : Int} (hc : inC s c) : PartOk s.W s.H s.C (sec s.W c) (partC s x c) := by
 have r := sec_rng h.ok.dim hc.1 hc.2
 have := h.part (sec s.W c).toNat (by have := h.len; omega)
 rw [Int.toNat_of_nonneg r.1] at this
 exact this
theorem isNode_iff (h : Fresh s x) (c : Int) : isNode s x c ↔ inC s c ∧ edgeS s.W s.H c ∧ rd s.C c ≠ 255 := by
 unfold isNode
 constructor
 ·rintro ⟨hc, hm⟩
  rw [(h.at hc).nodes, mem_nodes h.ok.dim (sec_rng h.ok.dim hc.1 hc.2)] at hm
  exact ⟨hc, hm.2.2⟩
 ·rintro ⟨hc, hm⟩
  refine ⟨hc, ?_⟩
  rw [(h.at hc).nodes, mem_nodes h.ok.dim (sec_rng h.ok.dim hc.1 hc.2)]
  exact ⟨hc, rfl, hm⟩
theorem distN_two {W H : Int} {C : List Int} (h : MapOk W H C) {a b : Int} (ha : 0 ≤ a ∧ a < W * H) (hb : 0 ≤ b ∧ b < W * H) (hs : sec W a = sec W b) (oa : rd C a ≠ 255) (ob : rd C b ≠ 255) :
  (0 ≤ distN W H C (sec W b) a b ∧ distN W H C (sec W b) a b ≤ INF) ∧ (a = b → distN W H C (sec W b) a b = 0) ∧ (a ≠ b → rd C b ≤ distN W H C (sec W b) a b) ∧ (distN W H C (sec W b) a b = INF ↔ distN W H C (sec W b) b a = INF) ∧ (distN W H C (sec W b) a b < INF → distN W H C (sec W b) a b + rd C a = distN W H C (sec W b) b a + rd C b ∧ distN W H C (sec W b) a b ≤ 65024) := by
 have sb := sec_rng h.dim hb.1 hb.2
 have ht := tile_ok h sb
 have hbb : ∀ y ∈ tileL W H C (sec W b), 0 ≤ y ∧ y ≤ 255 := fun y hy => by have := tile_bytes h sb y hy; omega
 have ra := loc_rng h.dim ha.1 ha.2
 have rb := loc_rng h.dim hb.1 hb.2
 have ta := tile_loc (C := C) h.dim ha.1 ha.2
 have tb := tile_loc (C := C) h.dim hb.1 hb.2
 have ga := glo_loc h.dim ha.1 ha.2
 have gb := glo_loc h.dim hb.1 hb.2
 rw [hs] at ra ta ga
 obtain ⟨i, hi⟩ : ∃ i : Nat, loc W a = i := ⟨(loc W a).toNat, by omega⟩
 obtain ⟨j, hj⟩ : ∃ j : Nat, loc W b = j := ⟨(loc W b).toNat, by omega⟩
 unfold distN
 have hbx := box_wh h.dim sb
 have htl := tileL_len (W := W) (H := H) (C := C) (s := sec W b)
 rw [hi] at ra ta ga
 rw [hj] at rb tb gb
 rw [hi, hj]
 have i1 : i < (tileL W H C (sec W b)).length := by rw [htl]; omega
 have j1 : j < (tileL W H C (sec W b)).length := by rw [htl]; omega
 have i2 : rd (tileL W H C (sec W b)) (i : Int) ≠ 255 := by rw [ta]; exact oa
 have j2 : rd (tileL W H C (sec W b)) (j : Int) ≠ 255 := by rw [tb]; exact ob
 have bo := dist1_both hbb ht i1 i2 j1 j2
 rw [ta, tb] at bo
 refine ⟨dist1_range hbb ht j1 j2 i1, ?_, ?_, bo.1, ?_⟩
 ·intro e
  subst e
  obtain rfl : i = j := by omega
  exact dist1_self hbb ht j1 j2
 ·intro e
  rw [← tb]
  refine dist1_ge hbb ht j1 j2 i1 (fun q => e ?_)
  subst q
  exact ga.symm.trans gb
 ·intro e
  refine ⟨bo.2 e, ?_⟩
  have := dist1_small hbb ht j1 j2 i1 (by omega)
  have : ((tileL W H C (sec W b)).length : Int) ≤ 256 := by rw [htl]; omega
  omega
theorem d64_f32 {d : Int} (h : 0 ≤ d) : d64 (f32 d) = d := by
 unfold d64 f32
 by_cases q : d = INF
 ·rw [if_pos q, if_pos rfl, q]
 ·rw [if_neg q, if_neg (by omega)]
theorem part_good {W H : Int} {C : List Int} (h : MapOk W H C) {i : Int} (hs : inS W H i) {y : Part} (p : PartOk W H C i y) : PartG y := by
 refine ⟨by rw [p.nodes]; exact nodes_lt h.dim hs, fun k hk => ?_⟩
 rw [p.dlen] at hk
 have hn : 0 < y.nodes.length := by
  rcases Nat.eq_zero_or_pos y.nodes.length with q | q
  ·rw [q] at hk; omega
  ·exact q
 have hb' := Nat.mod_lt k hn
 have ha : k / y.nodes.length < y.nodes.length := Nat.div_lt_of_lt_mul hk
 have e : k / y.nodes.length * y.nodes.length + k % y.nodes.length = k := by rw [Nat.mul_comm]; exact Nat.div_add_mod k y.nodes.length
 have h1 := p.dist _ _ ha hb'
 rw [e] at h1
 have ma : rd y.nodes ((k / y.nodes.length : Nat) : Int) ∈ y.nodes := mem_rd.2 ⟨_, ha, rfl⟩
 have mb : rd y.nodes ((k % y.nodes.length : Nat) : Int) ∈ y.nodes := mem_rd.2 ⟨_, hb', rfl⟩
 generalize rd y.nodes ((k / y.nodes.length : Nat) : Int) = a at *
 generalize rd y.nodes ((k % y.nodes.length : Nat) : Int) = b at *
 rw [p.nodes, mem_nodes h.dim hs] at ma mb
 have t := distN_two h ma.1 mb.1 (by rw [ma.2.1, mb.2.1]) ma.2.2.2 mb.2.2.2
 rw [mb.2.1] at t
 rw [h1]
 unfold f32
 split
 ·omega
 ·have := t.2.2.2.2 (by omega)
  omega
theorem Fresh.good (h : Fresh s x) : Good x := by
 intro i
 by_cases q : i < x.ps.length
 ·exact part_good h.ok ⟨by omega, by have := h.len; omega⟩ (h.part i q)
 ·rw [List.getD_eq_getElem?_getD, List.getElem?_eq_none (by omega)]
  exact PartG.zero
theorem pair_fresh (h : Fresh s x) {b : Int} (hb : isNode s x b) {i : Nat} (hi : i < (partC s x b).nodes.length) : pairD (partC s x b) i (idx (partC s x b).nodes b) = distN s.W s.H s.C (sec s.W b) (rd (partC s x b).nodes (i : Int)) b := by
 have p := h.at hb.1
 have hj := idx_lt' hb.2
 have e := p.dist i _ hi hj
 rw [idx_rd hb.2] at e
 unfold pairD
 rw [e]
 have hm : rd (partC s x b).nodes (i : Int) ∈ (partC s x b).nodes := mem_rd.2 ⟨i, hi, rfl⟩
 have sb := sec_rng h.ok.dim hb.1.1 hb.1.2
 have hm2 := hm
 rw [p.nodes, mem_nodes h.ok.dim sb, ← p.nodes] at hm2
 have nb := (isNode_iff h b).1 hb
 exact d64_f32 (distN_two h.ok hm2.1 hb.1 hm2.2.1 hm2.2.2.2 nb.2.2).1.1
theorem mem_into (h : Fresh s x) {b : Int} (e : EdgeS) : e ∈ intoM s x b ↔ isNode s x b ∧ ((isNode s x e.f0 ∧ sec s.W e.f0 = sec s.W b ∧ e.f0 ≠ b ∧ e.f1 = distN s.W s.H s.C (sec s.W b) e.f0 b ∧ e.f1 ≠ INF) ∨ ∃ d : Nat, d < 4 ∧ OverS s.W s.H b (d : Int) ∧ e.f0 = nbS s.W b (d : Int) ∧ rd s.C e.f0 ≠ 255 ∧ e.f1 = rd s.C b) := by
 unfold intoM
 by_cases hb : isNode s x b
 ·rw [if_pos hb, List.mem_append]
  have p := h.at hb.1
  have sb := sec_rng h.ok.dim hb.1.1 hb.1.2
  have nb := (isNode_iff h b).1 hb
  have hr : (partC s x b).nodes.Pairwise (· < ·) := (h.good (sec s.W b).toNat).rise
  have h1 : e ∈ inL s x b (partC s x b).nodes.length ↔ (isNode s x e.f0 ∧ sec s.W e.f0 = sec s.W b ∧ e.f0 ≠ b ∧ e.f1 = distN s.W s.H s.C (sec s.W b) e.f0 b ∧ e.f1 ≠ INF) := by
   unfold inL
   rw [List.mem_flatMap]
   constructor
   ·rintro ⟨i, hi, he⟩
    rw [List.mem_range] at hi
    unfold inA at he
    split at he
    ·rename_i q
     rw [List.mem_singleton] at he
     subst he
     have hm : rd (partC s x b).nodes (i : Int) ∈ (partC s x b).nodes := mem_rd.2 ⟨i, hi, rfl⟩
     have hm2 := hm
     rw [p.nodes, mem_nodes h.ok.dim sb, ← p.nodes] at hm2
     refine ⟨(isNode_iff h _).2 ⟨hm2.1, hm2.2.2⟩, hm2.2.1, fun c => q.1 (idx_eq hr hi c), pair_fresh h hb hi, q.2⟩
    ·exact absurd he (List.not_mem_nil)
   ·rintro ⟨n1, n2, n3, n4, n5⟩
    have k := (isNode_iff h _).1 n1
    have hm : e.f0 ∈ (partC s x b).nodes := by
     rw [p.nodes, mem_nodes h.ok.dim sb]
     exact ⟨k.1, n2, k.2⟩
    have hi := idx_lt' hm
    have he := idx_rd hm
    refine ⟨idx (partC s x b).nodes e.f0, List.mem_range.2 hi, ?_⟩
    have hp := pair_fresh h hb hi
    rw [he, ← n4] at hp
    unfold inA
    rw [if_pos ⟨fun c => n3 (by rw [← he, c]; exact idx_rd hb.2), by rw [hp]; exact n5⟩, hp, he]
    exact List.mem_singleton.2 rfl
  have h2 : e ∈ sideL s x b 4 ↔ ∃ d : Nat, d < 4 ∧ OverS s.W s.H b (d : Int) ∧ e.f0 = nbS s.W b (d : Int) ∧ rd s.C e.f0 ≠ 255 ∧ e.f1 = rd s.C b := by
   unfold sideL
   rw [List.mem_flatMap]
   have hstep : ∀ d : Nat, d < 4 → (sideOk s x b (d : Int) ↔ OverS s.W s.H b (d : Int) ∧ rd s.C (nbS s.W b (d : Int)) ≠ 255) := by
    intro d hd
    have hd3 : 0 ≤ (d : Int) ∧ (d : Int) ≤ 3 := by omega
    unfold sideOk stepA
    by_cases q : OutE s.W s.H b (d : Int)
    ·rw [if_pos q]
     constructor
     ·rintro ⟨n1, _⟩
      have := n1.1.1
      omega
     ·rintro ⟨n1, _⟩
      exact absurd q n1.1
    ·rw [if_neg q, isNode_iff h]
     constructor
     ·rintro ⟨n1, n2⟩
      exact ⟨⟨q, n2⟩, n1.2.2⟩
     ·rintro ⟨n1, n2⟩
      have hbk := over_back h.ok.dim hb.1.1 hb.1.2 hd3 n1
      have bk := back h.ok.dim hb.1.1 hb.1.2 hd3 q
      exact ⟨⟨nb_rng h.ok.dim hb.1.1 hb.1.2 hd3 q, edge_of bk.1 hbk, n2⟩, n1.2⟩
   constructor
   ·rintro ⟨d, hd, he⟩
    rw [List.mem_range] at hd
    unfold sideA at he
    split at he
    ·rename_i q
     rw [List.mem_singleton] at he
     subst he
     have k := (hstep d hd).1 q
     have e1 : stepA s b (d : Int) = nbS s.W b (d : Int) := by unfold stepA; rw [if_neg k.1.1]
     exact ⟨d, hd, k.1, e1, by show rd s.C (stepA s b (d : Int)) ≠ 255; rw [e1]; exact k.2, rfl⟩
    ·exact absurd he (List.not_mem_nil)
   ·rintro ⟨d, hd, n1, n2, n3, n4⟩
    rw [n2] at n3
    refine ⟨d, List.mem_range.2 hd, ?_⟩
    unfold sideA
    rw [if_pos ((hstep d hd).2 ⟨n1, n3⟩), List.mem_singleton]
    have e1 : stepA s b (d : Int) = nbS s.W b (d : Int) := by unfold stepA; rw [if_neg n1.1]
    rw [e1, ← n2, ← n4]
  rw [h1, h2]
  exact ⟨fun q => ⟨hb, q⟩, fun q => q.2⟩
 ·rw [if_neg hb]
  exact ⟨fun q => absurd q (List.not_mem_nil), fun q => absurd q.1 hb⟩
theorem into_back (h : Fresh s x) {b : Int} (e : EdgeS) (he : e ∈ intoM s x b) : inC s e.f0 ∧ e.f0 ≠ b ∧ rd s.C b ≤ e.f1 ∧ e.f1 < INF ∧ rd s.C e.f0 ≠ 255 ∧ ∃ e' : EdgeS, e' ∈ intoM s x e.f0 ∧ e'.f0 = b ∧ e'.f1 + rd s.C b = e.f1 + rd s.C e.f0 := by
 obtain ⟨hb, he⟩ := (mem_into h e).1 he
 have nb := (isNode_iff h b).1 hb
 have cb := rd_cost h.ok hb.1.1 hb.1.2
 rcases he with ⟨n1, n2, n3, n4, n5⟩ | ⟨d, hd, n1, n2, n3, n4⟩
 ·have na := (isNode_iff h _).1 n1
  have t := distN_two h.ok na.1 hb.1 n2 na.2.2 nb.2.2
  rw [← n4] at t
  have hlt : e.f1 < INF := by have := t.1.2; omega
  have u := t.2.2.2.2 hlt
  refine ⟨na.1, n3, t.2.2.1 n3, hlt, na.2.2, ⟨b, distN s.W s.H s.C (sec s.W b) b e.f0⟩, (mem_into h _).2 ⟨n1, .inl ⟨hb, n2.symm, fun c => n3 c.symm, by rw [n2], fun c => n5 (t.2.2.2.1.2 c)⟩⟩, rfl, ?_⟩
  show distN s.W s.H s.C (sec s.W b) b e.f0 + rd s.C b = e.f1 + rd s.C e.f0
  omega
 ·have hd3 : 0 ≤ (d : Int) ∧ (d : Int) ≤ 3 := by omega
  have r := nb_rng h.ok.dim hb.1.1 hb.1.2 hd3 n1.1
  have bk := back h.ok.dim hb.1.1 hb.1.2 hd3 n1.1
  have ob := over_back h.ok.dim hb.1.1 hb.1.2 hd3 n1
  rw [← n2] at r bk ob
  have hne : e.f0 ≠ b := by
   intro c
   have := n1.2
   rw [← n2, c] at this
   exact this rfl
  obtain ⟨t, ht⟩ : ∃ t : Nat, backS (d : Int) = (t : Int) := ⟨(backS (d : Int)).toNat, by omega⟩
  rw [ht] at bk ob
  refine ⟨r, hne, by omega, by unfold INF; omega, n3, ⟨b, rd s.C e.f0⟩, (mem_into h _).2 ⟨(isNode_iff h _).2 ⟨r, edge_of bk.1 ob, n3⟩, .inr ⟨t, by omega, ob, bk.2.2.symm, nb.2.2, rfl⟩⟩, rfl, ?_⟩
  show rd s.C e.f0 + rd s.C b = e.f1 + rd s.C e.f0
  omega
theorem into_len (h : Fresh s x) (b : Int) : (intoM s x b).length ≤ 260 := by
 unfold intoM
 by_cases hb : isNode s x b
 ·rw [if_pos hb, List.length_append]
  have h1 := in_len s x b (partC s x b).nodes.length
  have h2 := side_len s x b 4
  have h3 := nodes_len (C := s.C) h.ok.dim (sec_rng h.ok.dim hb.1.1 hb.1.2)
  rw [← (h.at hb.1).nodes] at h3
  omega
 ·rw [if_neg hb]
  simp
end Go.Proofs.YthgehdembghdaaaGreat.P
