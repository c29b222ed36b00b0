/-
 PLAIN: an order of numbers as two links: who is next, who was before. lru in memory: seats in a row, a map from keys to seats, an order in two links. lru.Use, lru.Keys, lru.Clear, lru.New. lru.Use: the seat that was used least is taken. lru.Clear, lru.New, lru.Keys. lru.Use, whatever the key is.
-/
import Derived.Below
import Derived.Test.YthgehdembghdaaaGreatXMay
import Derived.Test.YthgehdembghdaaaGreatXSort
import Derived.Maps.OwnSet
import Derived.DeepKeys4
import Derived.Deep.QuietTactic
import Derived.BigQuiet
import Derived.Deep.DeepCutAuto
import Derived.Deep.LoopGhost
import Derived.Deep.CutBlock
import Derived.Deep.RegionHeld3
import Derived.Outline
import Derived.Deep.RegionLaw
namespace Go.Proofs.YthgehdembghdaaaGreat.Ord
def headI : List Nat → Int
 | [] => -1
 | x :: _ => (x : Int)
def lastI : List Nat → Int
 | [] => -1
 | [x] => (x : Int)
 | _ :: y :: r => lastI (y :: r)
def nextOf : List Nat → Nat → Int
 | [], _ => -1
 | y :: r, x => if y = x then headI r else nextOf r x
def prevOf (l : List Nat) (x : Nat) : Int := nextOf l.reverse x
structure Linked (newer old : Nat → Int) (newest oldest : Int) (ord : List Nat) : Prop where
 nodup : ord.Nodup
 head : newest = headI ord
 last : oldest = lastI ord
 old : ∀ x, x ∈ ord → old x = nextOf ord x
 newer : ∀ x, x ∈ ord → newer x = prevOf ord x
end Go.Proofs.YthgehdembghdaaaGreat.Ord
namespace Go.Proofs.YthgehdembghdaaaGreat.P
open Go.RowKit Go.Proofs.YthgehdembghdaaaGreatW.PrintWords Go.Proofs.YthgehdembghdaaaGreatW.PrintLast Go.Proofs.YthgehdembghdaaaGreatW.PrintMore
open Go.Proofs.YthgehdembghdaaaGreat.Ord
set_option linter.unusedVariables false
set_option linter.unusedSimpArgs false
structure Seat where
 ka : Int
 kb : Int
 newer : Int
 old : Int
instance : Inhabited Seat := ⟨⟨0, 0, 0, 0⟩⟩
theorem RowIn.store1 {α : Type} [Inhabited α] {enc : α → List Value} {k e B cap : Nat} {d : Array α} {w : World} (h : RowIn enc k e B cap d w) {i : Nat} (hi : i < d.size) {c : Nat} (hc : c < k) (u : Value) (x : α) (hl : (enc d[i]!).length = k) (hx : enc x = (enc d[i]!).set c u) : RowIn enc k e B cap (d.setIfInBounds i x) (w.setCell ⟨B, i * k + c, none⟩ u) := by
 obtain ⟨cs, h1, h2, h3, h4⟩ := h
 refine ⟨_, set_blk h1 (i * k + c) u, by simpa using h2, by simpa using h3, fun j hj c' hc' => ?_⟩
 have hj' : j < d.size := by simpa using hj
 have hlt : i * k + c < cs.size := by
  have : (i + 1) * k ≤ cap * k := Nat.mul_le_mul_right _ (by omega)
  rw [Nat.add_mul, Nat.one_mul] at this
  omega
 rw [Array.getElem?_setIfInBounds]
 by_cases e1 : j = i
 ·subst e1
  rw [Go.Sort.getElem!_set_same _ _ _ hj', hx, List.getElem?_set]
  by_cases e2 : c = c'
  ·subst e2
   rw [if_pos rfl, if_pos hlt, if_pos rfl, if_pos (by omega)]
  ·rw [if_neg (by omega), if_neg e2, h4 j hj' c' hc']
 ·have hne : i * k + c ≠ j * k + c' := by
   intro e
   have a1 := idx_div (j := i) hc
   have a2 := idx_div (j := j) hc'
   rw [e] at a1
   exact e1 (a2.1.symm.trans a1.1)
  rw [if_neg hne, Go.Sort.getElem!_set_other _ _ _ _ e1, h4 j hj' c' hc']
def kl (a b : Int) : Lit := .string (keyBytes [.int .i64 a, .int .i64 b])
def W64 (a : Int) : Prop := -9223372036854775808 ≤ a ∧ a ≤ 9223372036854775807
theorem wf64 {a : Int} (h : W64 a) : (Lit.int .i64 a).wf = true := WalkArith.wf_i64 h
variable {w w' : World} {lb base : Nat} {k : Int} {sv : Value} {mb : Nat} {seats : List Seat} {newest oldest : Int} {D : DataW Unit}
def keyF (l : List Seat) : Nat → Int × Int := fun i => ((l.getD i default).ka, (l.getD i default).kb)
end Go.Proofs.YthgehdembghdaaaGreat.P
namespace Go.Proofs.YthgehdembghdaaaGreat.P
open Go.RowKit Go.Proofs.YthgehdembghdaaaGreatW.PrintWords Go.Proofs.YthgehdembghdaaaGreatW.PrintLast Go.Proofs.YthgehdembghdaaaGreatW.PrintMore
open Go.Proofs.YthgehdembghdaaaGreat.Ord
set_option linter.unusedVariables false
set_option linter.unusedSimpArgs false
structure KeysOk (seats : List Seat) (D : DataW Unit) : Prop where
 wf : ∀ i, i < seats.length → W64 (keyF seats i).1 ∧ W64 (keyF seats i).2
 has : ∀ i, i < seats.length → Maps.has D (kl (keyF seats i).1 (keyF seats i).2) = true ∧ D.atKey (kl (keyF seats i).1 (keyF seats i).2) (.lit (.int .i64 0)) = .lit (.int .i64 (i : Int))
 only : ∀ a b, W64 a → W64 b → Maps.has D (kl a b) = true → ∃ i, i < seats.length ∧ keyF seats i = (a, b)
 inj : ∀ i j, i < seats.length → j < seats.length → keyF seats i = keyF seats j → i = j
 size : Maps.size D = seats.length
variable {w w' : World} {lb base : Nat} {k : Int} {sv : Value} {mb : Nat} {seats : List Seat} {newest oldest : Int} {D : DataW Unit} {ord : List Nat}
end Go.Proofs.YthgehdembghdaaaGreat.P
namespace Go.Proofs.YthgehdembghdaaaGreat.P
open Go.RowKit Go.Proofs.YthgehdembghdaaaGreatW.PrintWords Go.Proofs.YthgehdembghdaaaGreatW.PrintLast Go.Proofs.YthgehdembghdaaaGreatW.PrintMore
open Go.Proofs.YthgehdembghdaaaGreat.Ord
set_option linter.unusedVariables false
set_option linter.unusedSimpArgs false
variable {w w' : World} {lb base : Nat} {k : Int} {sv : Value} {mb : Nat} {seats : List Seat} {newest oldest : Int} {D : DataW Unit} {ord : List Nat}
end Go.Proofs.YthgehdembghdaaaGreat.P
namespace Go.Proofs.YthgehdembghdaaaGreat.P
open Go.RowKit Go.Proofs.YthgehdembghdaaaGreatW.PrintWords Go.Proofs.YthgehdembghdaaaGreatW.PrintLast Go.Proofs.YthgehdembghdaaaGreatW.PrintMore
open Go.Proofs.YthgehdembghdaaaGreat.Ord
set_option linter.unusedVariables false
set_option linter.unusedSimpArgs false
variable {w w' : World} {lb base : Nat} {k : Int} {sv : Value} {mb : Nat} {seats : List Seat} {newest oldest : Int} {D : DataW Unit} {ord : List Nat}
end Go.Proofs.YthgehdembghdaaaGreat.P
namespace Go.Proofs.YthgehdembghdaaaGreat.P
open Go.RowKit Go.Proofs.YthgehdembghdaaaGreatW.PrintWords Go.Proofs.YthgehdembghdaaaGreatW.PrintLast Go.Proofs.YthgehdembghdaaaGreatW.PrintMore
open Go.Proofs.YthgehdembghdaaaGreat.Ord
set_option linter.unusedVariables false
set_option linter.unusedSimpArgs false
variable {w w' : World} {lb base : Nat} {k : Int} {sv : Value} {mb : Nat} {seats : List Seat} {newest oldest : Int} {D : DataW Unit} {ord : List Nat}
end Go.Proofs.YthgehdembghdaaaGreat.P
