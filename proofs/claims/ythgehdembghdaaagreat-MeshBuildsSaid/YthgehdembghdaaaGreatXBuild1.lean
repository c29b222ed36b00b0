/-
 Nodes of any sector; PLAIN: a mesh that never was rebuilt; two lists of edges are the same (MeshBuilds).
-/
import Derived.Test.YthgehdembghdaaaGreatXWay1
import Derived.Test.YthgehdembghdaaaGreatXFind3
import Derived.Test.YthgehdembghdaaaGreatXInto2
import Derived.Test.YthgehdembghdaaaGreatXRefIW
import Derived.Test.YthgehdembghdaaaGreatPxB
namespace Go.Proofs.YthgehdembghdaaaGreat.P
open Go.RowKit Go.Proofs.YthgehdembghdaaaGreatW.PrintWords Go.Proofs.YthgehdembghdaaaGreatW.PrintLast Go.Proofs.YthgehdembghdaaaGreatW.PrintMore
open Go.Proofs.YthgehdembghdaaaGreat.Geo Go.Proofs.YthgehdembghdaaaGreat.Dist
set_option linter.unusedVariables false
set_option linter.unusedSimpArgs false
variable {w w' wr w2 : World} {g : Gb} {s : GridS} {m : Mb} {x : MeshS} {W H : Int} {C : List Int}
def nodesA (x : MeshS) (i : Int) : List Int := if 0 ≤ i ∧ i < (x.ps.length : Int) then (x.ps.getD i.toNat default).nodes else []
set_option maxHeartbeats 4000000 in
theorem mNodes_any (h : Net w g m s x) (i : Int) : Calls Tryz.prog 26 #[.pointer (some ⟨m.xb, 0, none⟩), .int .i64 i] w fun e w' => ∃ v, e = .returned v ∧ RowN w' w.heap.size v (nodesA x i) ∧ Below w.heap.size w w' := by
 unfold nodesA
 by_cases q : 0 ≤ i ∧ i < (x.ps.length : Int)
 ·obtain ⟨k, rfl⟩ : ∃ k : Nat, i = k := ⟨i.toNat, by omega⟩
  rw [if_pos q, Int.toNat_natCast]
  exact mNodes_calls h (by omega)
 ·rw [if_neg q]
  obtain ⟨_, c1, _, _⟩ := h.cells
  by_cases q0 : i < 0
  ·have d1 : i < 0 := q0
   clear h q
   go_enter Tryz.func26, Tryz.ntmps26
   go_wp2_with fail
   go_ret
   exact ⟨_, rfl, Kd.R_nil _ _ _ _ _, Below.refl _ _⟩
  ·have d1 : decide (i < 0) = false := decide_eq_false q0
   have d2 : (x.ps.length : Int) ≤ i := by omega
   clear h q q0
   go_enter Tryz.func26, Tryz.ntmps26
   go_wp2_with fail
   go_ret
   exact ⟨_, rfl, Kd.R_nil _ _ _ _ _, Below.refl _ _⟩
theorem part0 (W H : Int) (i : Nat) : (mesh0 W H).ps.getD i default = default := by
 show (List.replicate (cnt W H).toNat (default : Part)).getD i default = default
 rw [List.getD_eq_getElem?_getD, List.getElem?_replicate]
 split <;> rfl
theorem good0 (W H : Int) : Good (mesh0 W H) := fun i => by rw [part0]; exact PartG.zero
theorem node0 (W H : Int) (c : Int) : ¬ isNode s (mesh0 W H) c := fun q => by
 have := q.2
 unfold partC at this
 rw [part0] at this
 exact absurd this (List.not_mem_nil)
theorem nodes0 (W H i : Int) : nodesA (mesh0 W H) i = [] := by
 unfold nodesA
 rw [part0]
 split <;> rfl
theorem into0 (W H b : Int) : intoM s (mesh0 W H) b = [] := by unfold intoM; rw [if_neg (node0 W H b)]
theorem dist0 (W H a b : Int) : distM s (mesh0 W H) a b = 1099511627776 := by unfold distM; rw [if_neg (fun q => node0 W H a q.1)]; try rfl
def nodesR (W H : Int) (C : List Int) (i : Int) : List Int := if inS W H i then nodesL W H C i else []
theorem rNodes_any (h : MapOk W H C) (i : Int) : herdsmanref11_Nodes.f 1700 W H C i = some (nodesR W H C i) := by
 unfold nodesR
 by_cases q : inS W H i
 ·rw [if_pos q]; exact rNodes h q 1700 (Nat.le_refl _)
 ·rw [if_neg q]; exact rNodes_no h q 1700 (by omega)
theorem fresh_nodes (h : Fresh s x) (i : Int) : nodesA x i = nodesR s.W s.H s.C i := by
 unfold nodesA nodesR
 rw [h.len]
 by_cases q : 0 ≤ i ∧ i < cnt s.W s.H
 ·obtain ⟨k, rfl⟩ : ∃ k : Nat, i = k := ⟨i.toNat, by omega⟩
  rw [if_pos q, if_pos (show inS s.W s.H (k : Int) from q), Int.toNat_natCast]
  exact (h.part k (by have := h.len; omega)).nodes
 ·rw [if_neg q, if_neg (show ¬ inS s.W s.H i from q)]
theorem nodesR_len (h : Dim W H) (i : Int) : (nodesR W H C i).length ≤ 256 := by
 unfold nodesR
 by_cases q : inS W H i
 ·rw [if_pos q]; exact nodes_len h q
 ·rw [if_neg q]; simp
theorem edges_loop (l : List EdgeS) (hl : l.length ≤ 1000000) : ∀ (d i k : Nat), i + d = l.length → d < k → herdsmanref11_Edges.l0 k l l (i : Int) = some true := by
 intro d
 induction d with
 | zero =>
  intro i k hi hk
  obtain ⟨k, rfl⟩ : ∃ q, k = q + 1 := ⟨k - 1, by omega⟩
  rw [herdsmanref11_Edges.l0, if_neg (by omega)]
 | succ d ih =>
  intro i k hi hk
  obtain ⟨k, rfl⟩ : ∃ q, k = q + 1 := ⟨k - 1, by omega⟩
  rw [herdsmanref11_Edges.l0, if_pos (by omega), if_pos (by omega), if_pos (by omega), if_neg (by simp), w64 (n := (i : Int) + 1) (by omega) (by omega), show (i : Int) + 1 = ((i + 1 : Nat) : Int) by omega]
  exact ih (i + 1) k (by omega) (by omega)
theorem edges_some (l : List EdgeS) (hl : l.length ≤ 260) : herdsmanref11_Edges.f 300 l l = some true := by
 unfold herdsmanref11_Edges.f
 rw [if_pos rfl]
 exact edges_loop l (by omega) l.length 0 300 (by omega) (by omega)
theorem fresh_dist2 (h : Fresh s x) (a b : Int) : distM s x a b = refD s.W s.H s.C a b := by
 unfold distM refD
 have e : ∀ c, isNode s x c ↔ nodeS s.W s.H s.C c := fun c => isNode_iff h c
 by_cases q : isNode s x a ∧ isNode s x b ∧ sec s.W a = sec s.W b
 ·obtain ⟨qa, qb, qs⟩ := q
  have hp : partC s x a = partC s x b := by unfold partC; rw [qs]
  have hm := qa.2
  rw [hp] at hm
  rw [if_pos ⟨qa, qb, qs⟩, if_pos ⟨(e a).1 qa, (e b).1 qb, qs⟩, pair_fresh h qb (idx_lt' hm), idx_rd hm]
 ·rw [if_neg q, if_neg (fun r => q ⟨(e a).2 r.1, (e b).2 r.2.1, r.2.2⟩)]
theorem within_n (x : Int) {n : Nat} (h : 1 ≤ n) (hn : n ≤ 1048576) : ∃ p : Nat, p < n ∧ herdsmanref1_Within.f x 0 ((n : Int) - 1) = some (p : Int) := by
 have hw := within_some x (lo := 0) (hi := (n : Int) - 1) (by omega) (by omega) (by omega)
 have r0 := Int.emod_nonneg x (show (n : Int) - 1 - 0 + 1 ≠ 0 by omega)
 have r1 := Int.emod_lt_of_pos x (show 0 < (n : Int) - 1 - 0 + 1 by omega)
 refine ⟨(0 + x % ((n : Int) - 1 - 0 + 1)).toNat, by omega, ?_⟩
 rw [hw, Int.toNat_of_nonneg (by omega)]
theorem way_cells {gt mb cb : Nat} (h : WayM w wr g m s x W H gt mb cb C) : wr.cell? ⟨gt, 0, none⟩ = some (.int .i64 W) ∧ wr.cell? ⟨gt, 1, none⟩ = some (.int .i64 H) ∧ wr.cell? ⟨gt, 2, none⟩ = some (.slice (some ⟨mb, 0, none⟩) C.length cb) := ⟨cell_blk h.box rfl, cell_blk h.box rfl, cell_blk h.box rfl⟩
end Go.Proofs.YthgehdembghdaaaGreat.P
