/-
 PLAIN, and memory: how the dirty sectors are kept (MeshDirty).
-/
import Derived.Test.YthgehdembghdaaaGreatXTold14
import Derived.Test.YthgehdembghdaaaGreatXBorder2
namespace Go.Proofs.YthgehdembghdaaaGreat.P
open Go.RowKit Go.Proofs.YthgehdembghdaaaGreatW.PrintWords Go.Proofs.YthgehdembghdaaaGreatW.PrintLast Go.Proofs.YthgehdembghdaaaGreatW.PrintMore
open Go.Proofs.YthgehdembghdaaaGreat.Geo Go.Proofs.YthgehdembghdaaaGreat.Dist
set_option linter.unusedVariables false
set_option linter.unusedSimpArgs false
variable {w w' : World} {g : Gb} {s : GridS} {m : Mb} {x : MeshS}
structure DInv (s : GridS) (x : MeshS) (W H : Int) (cl n i : Nat) : Prop where
 dims : s.W = W ∧ s.H = H ∧ s.C.length = cl
 len : x.ps.length = n
 ver : ∀ j, j < n → (x.ps.getD j default).ver ≤ s.ep
 vv : ∀ j : Nat, j < n → rd s.V (j : Int) ≤ s.ep
 cle : x.clean ≤ s.ep
 clq : x.clean = s.ep → dirtyL s x n = []
 ep : s.ep ≤ 1 + (i : Int)
 cnt : x.cnt ≤ 4096 * (i : Int)
def Marks (s : GridS) (x : MeshS) (n : Nat) (B : List Bool) : Prop := B.length = n ∧ ∀ j : Nat, j < n → rdOf false B (j : Int) = decide (dirtyI s x j)
def gEd (s : GridS) (c : Nat) (y : Int) : GridS := { s with C := s.C.set c y, ep := s.ep + 1, V := s.V.set (sec s.W (c : Int)).toNat (s.ep + 1) }
structure DLoop (w wr : World) (g : Gb) (m : Mb) (s : GridS) (x : MeshS) (W H : Int) (gt mb cb db : Nat) (cl : Nat) (B : List Bool) : Prop where
 net : Net wr g m s x
 box : wr.heap[gt]? = some (.cells #[.int .i64 W, .int .i64 H, .slice (some ⟨mb, 0, none⟩) cl cb] 26 (0, 0))
 row : Kd.R Kd.bool 4 wr w.heap.size (fun b => b = db) (.slice (some ⟨db, 0, none⟩) B.length B.length) B
 low : ∀ b, own2 g m b → w.heap.size ≤ b
 below : Below w.heap.size w wr
variable {wr w2 : World} {W H : Int} {gt mb cb db cl : Nat} {B : List Bool}
theorem Net.odds (h : Net w g m s x) {b : Nat} (hb : own2 g m b) : ∃ cs t, w.heap[b]? = some (.cells cs t (0, 0)) ∧ (t = 104 ∨ t = 5 ∨ t = 2 ∨ t = 108 ∨ t = 111) := by
 obtain ⟨pvs, hm⟩ := h.mesh
 obtain ⟨c1, h1⟩ := h.grid.typM
 obtain ⟨c2, h2⟩ := h.grid.typV
 obtain ⟨c3, h3⟩ := hm.typ
 rcases hb with (rfl | rfl | rfl) | (rfl | rfl)
 ·exact ⟨_, _, h.grid.blk, .inl rfl⟩
 ·exact ⟨_, _, h1, .inr (.inl rfl)⟩
 ·exact ⟨_, _, h2, .inr (.inr (.inl rfl))⟩
 ·exact ⟨_, _, hm.blk, .inr (.inr (.inr (.inl rfl)))⟩
 ·exact ⟨_, _, h3, .inr (.inr (.inr (.inr rfl)))⟩
theorem Net.notown (h : Net w g m s x) {b : Nat} {cs : Array Value} {t : TypeId} (hb : w.heap[b]? = some (.cells cs t (0, 0))) (ht : t = 26 ∨ t = 4) : ¬ own2 g m b := by
 intro q
 obtain ⟨cs', t', h1, h2⟩ := h.odds q
 rw [hb] at h1
 injection h1 with h1
 injection h1 with _ h1 _
 rcases ht with rfl | rfl <;> rcases h2 with h2 | h2 | h2 | h2 | h2 <;> (rw [h2] at h1; revert h1; decide)
end Go.Proofs.YthgehdembghdaaaGreat.P
