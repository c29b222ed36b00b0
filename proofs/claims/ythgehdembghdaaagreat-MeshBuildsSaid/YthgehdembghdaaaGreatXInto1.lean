/-
 PLAIN: the edges into a node; of a mesh as the map is.
-/
import Derived.Test.YthgehdembghdaaaGreatXFind1
namespace Go.Proofs.YthgehdembghdaaaGreat.P
open Go.RowKit Go.Proofs.YthgehdembghdaaaGreatW.PrintWords Go.Proofs.YthgehdembghdaaaGreatW.PrintLast Go.Proofs.YthgehdembghdaaaGreatW.PrintMore
open Go.Proofs.YthgehdembghdaaaGreat.Geo Go.Proofs.YthgehdembghdaaaGreat.Dist
set_option linter.unusedVariables false
set_option linter.unusedSimpArgs false
theorem dist1_end {W H : Int} {C : List Int} (hb : ∀ x ∈ C, 0 ≤ x ∧ x ≤ 255) (ht : TileOk W H C) {x : Nat} (h1 : x < C.length) (h2 : rd C x ≠ 255) : ∀ (n i : Nat), i < C.length → i ≠ x → rd (dist1 W C x) i ≤ (n : Int) → rd C x ≤ rd (dist1 W C x) i := by
 intro n
 induction n with
 | zero =>
  intro i hi hne hn
  have := dist1_pos hb ht h1 h2 hi hne
  omega
 | succ n ih =>
  intro i hi hne hn
  have hbx := hb (C[x]'h1) (List.getElem_mem _)
  rw [← rd_get C h1] at hbx
  rcases ((one_gr hb ht h1 h2).2 i hi).2 with e | ⟨_, ⟨e, _⟩ | ⟨j, hj, _, hoj, e⟩⟩
  ·have e' : rd (dist1 W C x) i = INF := e
   unfold INF at e'
   omega
  ·exact absurd e hne
  ·have e' : rd (dist1 W C x) i = rd (dist1 W C x) j + rd C j := e
   have h3 : 1 ≤ rd C j := pos_c hb ht j hj hoj
   by_cases q : j = x
   ·subst q
    have := dist1_self hb ht h1 h2
    omega
   ·have := ih j hj q (by omega)
    omega
theorem dist1_ge {W H : Int} {C : List Int} (hb : ∀ x ∈ C, 0 ≤ x ∧ x ≤ 255) (ht : TileOk W H C) {x i : Nat} (h1 : x < C.length) (h2 : rd C x ≠ 255) (hi : i < C.length) (hne : i ≠ x) : rd C x ≤ rd (dist1 W C x) i :=
 dist1_end hb ht h1 h2 (rd (dist1 W C x) i).toNat i hi hne (by omega)
abbrev EdgeS := S53
def stepA (s : GridS) (b d : Int) : Int := if OutE s.W s.H b d then -1 else nbS s.W b d
def inA (s : GridS) (x : MeshS) (b : Int) (i : Nat) : List EdgeS :=
 if i ≠ idx (partC s x b).nodes b ∧ pairD (partC s x b) i (idx (partC s x b).nodes b) ≠ INF then [⟨rd (partC s x b).nodes (i : Int), pairD (partC s x b) i (idx (partC s x b).nodes b)⟩] else []
def sideOk (s : GridS) (x : MeshS) (b d : Int) : Prop := isNode s x (stepA s b d) ∧ sec s.W (stepA s b d) ≠ sec s.W b
instance (s : GridS) (x : MeshS) (b d : Int) : Decidable (sideOk s x b d) := inferInstanceAs (Decidable (_ ∧ _))
def sideA (s : GridS) (x : MeshS) (b : Int) (d : Nat) : List EdgeS := if sideOk s x b (d : Int) then [⟨stepA s b (d : Int), rd s.C b⟩] else []
def inL (s : GridS) (x : MeshS) (b : Int) (n : Nat) : List EdgeS := (List.range n).flatMap (inA s x b)
def sideL (s : GridS) (x : MeshS) (b : Int) (n : Nat) : List EdgeS := (List.range n).flatMap (sideA s x b)
def intoM (s : GridS) (x : MeshS) (b : Int) : List EdgeS := if isNode s x b then inL s x b (partC s x b).nodes.length ++ sideL s x b 4 else []
theorem in_next (s : GridS) (x : MeshS) (b : Int) (n : Nat) : inL s x b (n + 1) = inL s x b n ++ inA s x b n := by
 unfold inL
 rw [List.range_succ, List.flatMap_append]
 simp
theorem side_next (s : GridS) (x : MeshS) (b : Int) (n : Nat) : sideL s x b (n + 1) = sideL s x b n ++ sideA s x b n := by
 unfold sideL
 rw [List.range_succ, List.flatMap_append]
 simp
theorem in_len (s : GridS) (x : MeshS) (b : Int) (n : Nat) : (inL s x b n).length ≤ n := by
 induction n with
 | zero => simp [inL]
 | succ n ih =>
  rw [in_next, List.length_append]
  have : (inA s x b n).length ≤ 1 := by unfold inA; split <;> simp
  omega
theorem side_len (s : GridS) (x : MeshS) (b : Int) (n : Nat) : (sideL s x b n).length ≤ n := by
 induction n with
 | zero => simp [sideL]
 | succ n ih =>
  rw [side_next, List.length_append]
  have : (sideA s x b n).length ≤ 1 := by unfold sideA; split <;> simp
  omega
structure Fresh (s : GridS) (x : MeshS) : Prop where
 ok : MapOk s.W s.H s.C
 len : (x.ps.length : Int) = cnt s.W s.H
 part : ∀ i : Nat, i < x.ps.length → PartOk s.W s.H s.C (i : Int) (x.ps.getD i default)
variable {s : GridS} {x : MeshS}
theorem Fresh.at (h : Fresh s x) {c : Int} (hc : inC s c) : PartOk s.W s.H s.C (sec s.W c) (partC s x c) := by
 have r := sec_rng h.ok.dim hc.1 hc.2
 have := h.part (sec s.W c).toNat (by have := h.len; omega)
 rw [Int.toNat_of_nonneg r.1] at this
 exact this
theorem isNode_iff (h : Fresh s x) (c : Int) : isNode s x c ↔ inC s c ∧ edgeS s.W s.H c ∧ rd s.C c ≠ 255 := by
 unfold isNode
 constructor
 ·rintro ⟨hc, hm⟩
  rw [(h.at hc).nodes, mem_nodes h.ok.dim (sec_rng h.ok.dim hc.1 hc.2)] at hm
  exact ⟨hc, hm.2.2⟩
 ·rintro ⟨hc, hm⟩
  refine ⟨hc, ?_⟩
  rw [(h.at hc).nodes, mem_nodes h.ok.dim (sec_rng h.ok.dim hc.1 hc.2)]
  exact ⟨hc, rfl, hm⟩
theorem distN_two {W H : Int} {C : List Int} (h : MapOk W H C) {a b : Int} (ha : 0 ≤ a ∧ a < W * H) (hb : 0 ≤ b ∧ b < W * H) (hs : sec W a = sec W b) (oa : rd C a ≠ 255) (ob : rd C b ≠ 255) :
  (0 ≤ distN W H C (sec W b) a b ∧ distN W H C (sec W b) a b ≤ INF) ∧ (a = b → distN W H C (sec W b) a b = 0) ∧ (a ≠ b → rd C b ≤ distN W H C (sec W b) a b) ∧ (distN W H C (sec W b) a b = INF ↔ distN W H C (sec W b) b a = INF) ∧ (distN W H C (sec W b) a b < INF → distN W H C (sec W b) a b + rd C a = distN W H C (sec W b) b a + rd C b ∧ distN W H C (sec W b) a b ≤ 65024) := by
 have sb := sec_rng h.dim hb.1 hb.2
 have ht := tile_ok h sb
 have hbb : ∀ y ∈ tileL W H C (sec W b), 0 ≤ y ∧ y ≤ 255 := fun y hy => by have := tile_bytes h sb y hy; omega
 have ra := loc_rng h.dim ha.1 ha.2
 have rb := loc_rng h.dim hb.1 hb.2
 have ta := tile_loc (C := C) h.dim ha.1 ha.2
 have tb := tile_loc (C := C) h.dim hb.1 hb.2
 have ga := glo_loc h.dim ha.1 ha.2
 have gb := glo_loc h.dim hb.1 hb.2
 rw [hs] at ra ta ga
 obtain ⟨i, hi⟩ : ∃ i : Nat, loc W a = i := ⟨(loc W a).toNat, by omega⟩
 obtain ⟨j, hj⟩ : ∃ j : Nat, loc W b = j := ⟨(loc W b).toNat, by omega⟩
 unfold distN
 have hbx := box_wh h.dim sb
 have htl := tileL_len (W := W) (H := H) (C := C) (s := sec W b)
 rw [hi] at ra ta ga
 rw [hj] at rb tb gb
 rw [hi, hj]
 have i1 : i < (tileL W H C (sec W b)).length := by rw [htl]; omega
 have j1 : j < (tileL W H C (sec W b)).length := by rw [htl]; omega
 have i2 : rd (tileL W H C (sec W b)) (i : Int) ≠ 255 := by rw [ta]; exact oa
 have j2 : rd (tileL W H C (sec W b)) (j : Int) ≠ 255 := by rw [tb]; exact ob
 have bo := dist1_both hbb ht i1 i2 j1 j2
 rw [ta, tb] at bo
 refine ⟨dist1_range hbb ht j1 j2 i1, ?_, ?_, bo.1, ?_⟩
 ·intro e
  subst e
  obtain rfl : i = j := by omega
  exact dist1_self hbb ht j1 j2
 ·intro e
  rw [← tb]
  refine dist1_ge hbb ht j1 j2 i1 (fun q => e ?_)
  subst q
  exact ga.symm.trans gb
 ·intro e
  refine ⟨bo.2 e, ?_⟩
  have := dist1_small hbb ht j1 j2 i1 (by omega)
  have : ((tileL W H C (sec W b)).length : Int) ≤ 256 := by rw [htl]; omega
  omega
theorem d64_f32 {d : Int} (h : 0 ≤ d) : d64 (f32 d) = d := by
 unfold d64 f32
 by_cases q : d = INF
 ·rw [if_pos q, if_pos rfl, q]
 ·rw [if_neg q, if_neg (by omega)]
theorem part_good {W H : Int} {C : List Int} (h : MapOk W H C) {i : Int} (hs : inS W H i) {y : Part} (p : PartOk W H C i y) : PartG y := by
 refine ⟨by rw [p.nodes]; exact nodes_lt h.dim hs, fun k hk => ?_⟩
 rw [p.dlen] at hk
 have hn : 0 < y.nodes.length := by
  rcases Nat.eq_zero_or_pos y.nodes.length with q | q
  ·rw [q] at hk; omega
  ·exact q
 have hb' := Nat.mod_lt k hn
 have ha : k / y.nodes.length < y.nodes.length := Nat.div_lt_of_lt_mul hk
 have e : k / y.nodes.length * y.nodes.length + k % y.nodes.length = k := by rw [Nat.mul_comm]; exact Nat.div_add_mod k y.nodes.length
 have h1 := p.dist _ _ ha hb'
 rw [e] at h1
 have ma : rd y.nodes ((k / y.nodes.length : Nat) : Int) ∈ y.nodes := mem_rd.2 ⟨_, ha, rfl⟩
 have mb : rd y.nodes ((k % y.nodes.length : Nat) : Int) ∈ y.nodes := mem_rd.2 ⟨_, hb', rfl⟩
 generalize rd y.nodes ((k / y.nodes.length : Nat) : Int) = a at *
 generalize rd y.nodes ((k % y.nodes.length : Nat) : Int) = b at *
 rw [p.nodes, mem_nodes h.dim hs] at ma mb
 have t := distN_two h ma.1 mb.1 (by rw [ma.2.1, mb.2.1]) ma.2.2.2 mb.2.2.2
 rw [mb.2.1] at t
 rw [h1]
 unfold f32
 split
 ·omega
 ·have := t.2.2.2.2 (by omega)
  omega
theorem Fresh.good (h : Fresh s x) : Good x := by
 intro i
 by_cases q : i < x.ps.length
 ·exact part_good h.ok ⟨by omega, by have := h.len; omega⟩ (h.part i q)
 ·rw [List.getD_eq_getElem?_getD, List.getElem?_eq_none (by omega)]
  exact PartG.zero
theorem pair_fresh (h : Fresh s x) {b : Int} (hb : isNode s x b) {i : Nat} (hi : i < (partC s x b).nodes.length) : pairD (partC s x b) i (idx (partC s x b).nodes b) = distN s.W s.H s.C (sec s.W b) (rd (partC s x b).nodes (i : Int)) b := by
 have p := h.at hb.1
 have hj := idx_lt' hb.2
 have e := p.dist i _ hi hj
 rw [idx_rd hb.2] at e
 unfold pairD
 rw [e]
 have hm : rd (partC s x b).nodes (i : Int) ∈ (partC s x b).nodes := mem_rd.2 ⟨i, hi, rfl⟩
 have sb := sec_rng h.ok.dim hb.1.1 hb.1.2
 have hm2 := hm
 rw [p.nodes, mem_nodes h.ok.dim sb, ← p.nodes] at hm2
 have nb := (isNode_iff h b).1 hb
 exact d64_f32 (distN_two h.ok hm2.1 hb.1 hm2.2.1 hm2.2.2.2 nb.2.2).1.1
theorem into_len (h : Fresh s x) (b : Int) : (intoM s x b).length ≤ 260 := by
 unfold intoM
 by_cases hb : isNode s x b
 ·rw [if_pos hb, List.length_append]
  have h1 := in_len s x b (partC s x b).nodes.length
  have h2 := side_len s x b 4
  have h3 := nodes_len (C := s.C) h.ok.dim (sec_rng h.ok.dim hb.1.1 hb.1.2)
  rw [← (h.at hb.1).nodes] at h3
  omega
 ·rw [if_neg hb]
  simp
end Go.Proofs.YthgehdembghdaaaGreat.P
