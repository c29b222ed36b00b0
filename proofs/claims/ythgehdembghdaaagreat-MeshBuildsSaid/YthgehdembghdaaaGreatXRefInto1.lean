/-
 PLAIN: the edges into a node, as the document has them.
-/
import Derived.Test.YthgehdembghdaaaGreatXRef11
namespace Go.Proofs.YthgehdembghdaaaGreat.P
open Go.RowKit Go.Proofs.YthgehdembghdaaaGreatW.PrintWords Go.Proofs.YthgehdembghdaaaGreatW.PrintLast Go.Proofs.YthgehdembghdaaaGreatW.PrintMore
open Go.Proofs.YthgehdembghdaaaGreat.Geo Go.Proofs.YthgehdembghdaaaGreat.Dist
set_option linter.unusedVariables false
set_option linter.unusedSimpArgs false
variable {W H : Int} {C : List Int} {s : GridS} {x : MeshS}
noncomputable def rdD (W H : Int) (C : List Int) (b : Int) : List Int := dist1 (tw W (sec W b)) (tileL W H C (sec W b)) (loc W b)
noncomputable def inRA (W : Int) (L D : List Int) (b : Int) (i : Nat) : List EdgeS := if rd L (i : Int) ≠ b ∧ rd D (loc W (rd L (i : Int))) < INF then [⟨rd L (i : Int), rd D (loc W (rd L (i : Int)))⟩] else []
noncomputable def inRL (W : Int) (L D : List Int) (b : Int) (n : Nat) : List EdgeS := (List.range n).flatMap (inRA W L D b)
def overR (W H : Int) (b d : Int) : Int := if OverS W H b d then nbS W b d else -1
def openR (W H : Int) (C : List Int) (c : Int) : Prop := (0 ≤ c ∧ c < W * H) ∧ rd C c ≠ 255
instance (W H : Int) (C : List Int) (c : Int) : Decidable (openR W H C c) := inferInstanceAs (Decidable (_ ∧ _))
def sideRA (W H : Int) (C : List Int) (b : Int) (d : Nat) : List EdgeS := if openR W H C (overR W H b (d : Int)) then [⟨overR W H b (d : Int), rd C b⟩] else []
def sideRL (W H : Int) (C : List Int) (b : Int) (n : Nat) : List EdgeS := (List.range n).flatMap (sideRA W H C b)
noncomputable def intoR (W H : Int) (C : List Int) (b : Int) : List EdgeS := if nodeS W H C b then inRL W (nodesL W H C (sec W b)) (rdD W H C b) b (nodesL W H C (sec W b)).length ++ sideRL W H C b 4 else []
theorem inR_next (W : Int) (L D : List Int) (b : Int) (n : Nat) : inRL W L D b (n + 1) = inRL W L D b n ++ inRA W L D b n := by
 unfold inRL
 rw [List.range_succ, List.flatMap_append]
 simp
theorem sideR_next (W H : Int) (C : List Int) (b : Int) (n : Nat) : sideRL W H C b (n + 1) = sideRL W H C b n ++ sideRA W H C b n := by
 unfold sideRL
 rw [List.range_succ, List.flatMap_append]
 simp
theorem inR_len (W : Int) (L D : List Int) (b : Int) (n : Nat) : (inRL W L D b n).length ≤ n := by
 induction n with
 | zero => simp [inRL]
 | succ n ih =>
  rw [inR_next, List.length_append]
  have : (inRA W L D b n).length ≤ 1 := by unfold inRA; split <;> simp
  omega
theorem sideR_len (W H : Int) (C : List Int) (b : Int) (n : Nat) : (sideRL W H C b n).length ≤ n := by
 induction n with
 | zero => simp [sideRL]
 | succ n ih =>
  rw [sideR_next, List.length_append]
  have : (sideRA W H C b n).length ≤ 1 := by unfold sideRA; split <;> simp
  omega
theorem flatMap_congr' {f g : Nat → List EdgeS} (n : Nat) (h : ∀ i, i < n → f i = g i) : (List.range n).flatMap f = (List.range n).flatMap g := by
 induction n with
 | zero => rfl
 | succ n ih =>
  rw [List.range_succ, List.flatMap_append, List.flatMap_append, ih (fun i hi => h i (by omega))]
  simp [h n (by omega)]
theorem fresh_into (h : Fresh s x) (b : Int) : intoM s x b = intoR s.W s.H s.C b := by
 unfold intoM intoR
 by_cases hb : isNode s x b
 ·have nb := (isNode_iff h b).1 hb
  have nb' : nodeS s.W s.H s.C b := nb
  rw [if_pos hb, if_pos nb']
  have p := h.at hb.1
  have sb := sec_rng h.ok.dim hb.1.1 hb.1.2
  have hr : (partC s x b).nodes.Pairwise (· < ·) := (h.good (sec s.W b).toNat).rise
  rw [← p.nodes]
  congr 1
  ·unfold inL inRL
   refine flatMap_congr' _ (fun i hi => ?_)
   have hm : rd (partC s x b).nodes (i : Int) ∈ (partC s x b).nodes := mem_rd.2 ⟨i, hi, rfl⟩
   rw [p.nodes, mem_nodes h.ok.dim sb, ← p.nodes] at hm
   have hp := pair_fresh h hb hi
   have hd : distN s.W s.H s.C (sec s.W b) (rd (partC s x b).nodes (i : Int)) b = rd (rdD s.W s.H s.C b) (loc s.W (rd (partC s x b).nodes (i : Int))) := rfl
   have ht := (distN_two h.ok hm.1 hb.1 hm.2.1 hm.2.2.2 nb.2.2).1
   rw [hd] at hp ht
   unfold inA inRA
   rw [hp]
   have e1 : i ≠ idx (partC s x b).nodes b ↔ rd (partC s x b).nodes (i : Int) ≠ b := by
    constructor
    ·exact fun q r => q (idx_eq hr hi r)
    ·exact fun q r => q (by rw [r]; exact idx_rd hb.2)
   by_cases q : rd (partC s x b).nodes (i : Int) ≠ b ∧ rd (rdD s.W s.H s.C b) (loc s.W (rd (partC s x b).nodes (i : Int))) < INF
   ·rw [if_pos q, if_pos ⟨e1.2 q.1, by omega⟩]
   ·rw [if_neg q, if_neg (fun r => q ⟨e1.1 r.1, by omega⟩)]
  ·unfold sideL sideRL
   refine flatMap_congr' _ (fun d hd => ?_)
   have hd3 : 0 ≤ (d : Int) ∧ (d : Int) ≤ 3 := by omega
   unfold sideA sideRA
   by_cases q : OutE s.W s.H b (d : Int)
   ·have e1 : ¬ sideOk s x b (d : Int) := by
     intro r
     have := r.1.1.1
     unfold stepA at this
     rw [if_pos q] at this
     omega
    have e2 : overR s.W s.H b (d : Int) = -1 := by unfold overR; rw [if_neg (fun r => r.1 q)]
    rw [if_neg e1, e2, if_neg (fun r => by have := r.1.1; omega)]
   ·have es : stepA s b (d : Int) = nbS s.W b (d : Int) := by unfold stepA; rw [if_neg q]
    have rn := nb_rng h.ok.dim hb.1.1 hb.1.2 hd3 q
    by_cases o : OverS s.W s.H b (d : Int)
    ·have eo : overR s.W s.H b (d : Int) = nbS s.W b (d : Int) := by unfold overR; rw [if_pos o]
     have hbk := over_back h.ok.dim hb.1.1 hb.1.2 hd3 o
     have bk := back h.ok.dim hb.1.1 hb.1.2 hd3 q
     have e3 : sideOk s x b (d : Int) ↔ openR s.W s.H s.C (nbS s.W b (d : Int)) := by
      unfold sideOk
      rw [es, isNode_iff h]
      exact ⟨fun r => ⟨r.1.1, r.1.2.2⟩, fun r => ⟨⟨r.1, edge_of bk.1 hbk, r.2⟩, o.2⟩⟩
     rw [eo, es]
     by_cases r : openR s.W s.H s.C (nbS s.W b (d : Int))
     ·rw [if_pos r, if_pos (e3.2 r)]
     ·rw [if_neg r, if_neg (fun z => r (e3.1 z))]
    ·have eo : overR s.W s.H b (d : Int) = -1 := by unfold overR; rw [if_neg o]
     have n1 : ¬ openR s.W s.H s.C (-1) := fun r => by have := r.1.1; omega
     have n2 : ¬ sideOk s x b (d : Int) := fun r => o ⟨q, by have := r.2; rw [es] at this; exact this⟩
     rw [eo, if_neg n2, if_neg n1]
 ·have nb' : ¬ nodeS s.W s.H s.C b := fun q => hb ((isNode_iff h b).2 q)
  rw [if_neg hb, if_neg nb']
end Go.Proofs.YthgehdembghdaaaGreat.P
