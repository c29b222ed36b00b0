/-
  PLAIN, and memory: how the dirty sectors are kept (MeshDirty).
-/
import Derived.Test.YthgehdembghdaaaGreatXTold14
import Derived.Test.YthgehdembghdaaaGreatXBorder2
namespace Go.Proofs.YthgehdembghdaaaGreat.P
open Go.RowKit Go.Proofs.YthgehdembghdaaaGreatW.PrintWords Go.Proofs.YthgehdembghdaaaGreatW.PrintLast Go.Proofs.YthgehdembghdaaaGreatW.PrintMore
open Go.Proofs.YthgehdembghdaaaGreat.Geo Go.Proofs.YthgehdembghdaaaGreat.Dist
set_option linter.unusedVariables false
set_option linter.unusedSimpArgs false
variable {w w' : World} {g : Gb} {s : GridS} {m : Mb} {x : MeshS}
/-- What holds at each edit. -/
structure DInv (s : GridS) (x : MeshS) (W H : Int) (cl n i : Nat) : Prop where
  dims : s.W = W ∧ s.H = H ∧ s.C.length = cl
  len : x.ps.length = n
  ver : ∀ j, j < n → (x.ps.getD j default).ver ≤ s.ep
  vv : ∀ j : Nat, j < n → rd s.V (j : Int) ≤ s.ep
  cle : x.clean ≤ s.ep
  clq : x.clean = s.ep → dirtyL s x n = []
  ep : s.ep ≤ 1 + (i : Int)
  cnt : x.cnt ≤ 4096 * (i : Int)
def Marks (s : GridS) (x : MeshS) (n : Nat) (B : List Bool) : Prop := B.length = n ∧ ∀ j : Nat, j < n → rdOf false B (j : Int) = decide (dirtyI s x j)
def gEd (s : GridS) (c : Nat) (y : Int) : GridS := { s with C := s.C.set c y, ep := s.ep + 1, V := s.V.set (sec s.W (c : Int)).toNat (s.ep + 1) }
theorem DInv.edit {W H : Int} {cl n i : Nat} (h : DInv s x W H cl n i) (hv : s.V.length = n) (c : Nat) (y : Int) : DInv (gEd s c y) x W H cl n (i + 1) := by
  have e := h.ep
  refine ⟨⟨h.dims.1, h.dims.2.1, by show (s.C.set c y).length = cl; rw [List.length_set]; exact h.dims.2.2⟩, h.len, fun j hj => ?_, fun j hj => ?_, ?_, fun q => ?_, ?_, ?_⟩
  · have := h.ver j hj; show _ ≤ s.ep + 1; omega
  · show rd (s.V.set _ _) _ ≤ s.ep + 1
    rw [rd_set' _ _ _ _ (by omega)]
    have := h.vv j hj
    split <;> omega
  · have := h.cle; show _ ≤ s.ep + 1; omega
  · have := h.cle
    have q' : x.clean = s.ep + 1 := q
    omega
  · show s.ep + 1 ≤ _; omega
  · have := h.cnt; omega
theorem DInv.dirty {W H : Int} {cl n i : Nat} (h : DInv s x W H cl n i) (hv : s.V.length = n) (c : Nat) (y : Int) {q : Nat} (hq : (sec s.W (c : Int)).toNat = q) : ∀ j, j < n → (dirtyI (gEd s c y) x j ↔ dirtyI s x j ∨ j = q) := by
  intro j hj
  have e : rd (gEd s c y).V (j : Int) = if q = j then s.ep + 1 else rd s.V (j : Int) := by
    show rd (s.V.set _ _) _ = _
    rw [rd_set' _ _ _ _ (by omega), hq]
  have := h.ver j hj
  unfold dirtyI
  rw [e]
  by_cases b : q = j
  · rw [if_pos b]; constructor
    · intro _; exact .inr b.symm
    · intro _; omega
  · rw [if_neg b]; constructor
    · exact .inl
    · rintro (r | r)
      · exact r
      · exact absurd r.symm b
theorem Marks.edit {W H : Int} {cl n i : Nat} {B : List Bool} (hb : Marks s x n B) (h : DInv s x W H cl n i) (hv : s.V.length = n) (c : Nat) (y : Int) {q : Nat} (hq : (sec s.W (c : Int)).toNat = q) (hn : q < n) : Marks (gEd s c y) x n (B.set q true) := by
  refine ⟨by rw [List.length_set]; exact hb.1, fun j hj => ?_⟩
  have e := h.dirty hv c y hq j hj
  by_cases b : q = j
  · subst b
    rw [decide_eq_true (e.2 (.inr rfl))]
    unfold rdOf
    rw [getD_set, if_pos ⟨by simp, by rw [hb.1]; exact hn⟩]
  · rw [show decide (dirtyI (gEd s c y) x j) = decide (dirtyI s x j) from decide_eq_decide.2 (e.trans ⟨fun r => r.resolve_right (fun r => b r.symm), .inl⟩), ← hb.2 j hj]
    unfold rdOf
    rw [getD_set, if_neg (fun r => b (by have := r.1; simpa using this))]
theorem Marks.none {n : Nat} (h : dirtyL s x n = []) : Marks s x n (List.replicate n false) := by
  refine ⟨by simp, fun j hj => ?_⟩
  have : ¬ dirtyI s x j := fun q => by
    have := mem_dirty.2 ⟨j, hj, q, rfl⟩
    rw [h] at this
    cases this
  rw [decide_eq_false this]
  unfold rdOf
  simp [List.getD_eq_getElem?_getD, hj]
/-- Grid, mesh, the map's box, the marks. -/
structure DLoop (w wr : World) (g : Gb) (m : Mb) (s : GridS) (x : MeshS) (W H : Int) (gt mb cb db : Nat) (cl : Nat) (B : List Bool) : Prop where
  net : Net wr g m s x
  box : wr.heap[gt]? = some (.cells #[.int .i64 W, .int .i64 H, .slice (some ⟨mb, 0, none⟩) cl cb] 26 (0, 0))
  row : Kd.R Kd.bool 4 wr w.heap.size (fun b => b = db) (.slice (some ⟨db, 0, none⟩) B.length B.length) B
  low : ∀ b, own2 g m b → w.heap.size ≤ b
  below : Below w.heap.size w wr
variable {wr w2 : World} {W H : Int} {gt mb cb db cl : Nat} {B : List Bool}
theorem Net.odds (h : Net w g m s x) {b : Nat} (hb : own2 g m b) : ∃ cs t, w.heap[b]? = some (.cells cs t (0, 0)) ∧ (t = 104 ∨ t = 5 ∨ t = 2 ∨ t = 108 ∨ t = 111) := by
  obtain ⟨pvs, hm⟩ := h.mesh
  obtain ⟨c1, h1⟩ := h.grid.typM
  obtain ⟨c2, h2⟩ := h.grid.typV
  obtain ⟨c3, h3⟩ := hm.typ
  rcases hb with (rfl | rfl | rfl) | (rfl | rfl)
  · exact ⟨_, _, h.grid.blk, .inl rfl⟩
  · exact ⟨_, _, h1, .inr (.inl rfl)⟩
  · exact ⟨_, _, h2, .inr (.inr (.inl rfl))⟩
  · exact ⟨_, _, hm.blk, .inr (.inr (.inr (.inl rfl)))⟩
  · exact ⟨_, _, h3, .inr (.inr (.inr (.inr rfl)))⟩
theorem Net.notown (h : Net w g m s x) {b : Nat} {cs : Array Value} {t : TypeId} (hb : w.heap[b]? = some (.cells cs t (0, 0))) (ht : t = 26 ∨ t = 4) : ¬ own2 g m b := by
  intro q
  obtain ⟨cs', t', h1, h2⟩ := h.odds q
  rw [hb] at h1
  injection h1 with h1
  injection h1 with _ h1 _
  rcases ht with rfl | rfl <;> rcases h2 with h2 | h2 | h2 | h2 | h2 <;> (rw [h2] at h1; revert h1; decide)
theorem DLoop.typ (h : DLoop w wr g m s x W H gt mb cb db cl B) : ∃ cs, wr.heap[db]? = some (.cells cs 4 (0, 0)) := Kd.R_typed h.row _ rfl
theorem DLoop.step {s2 : GridS} {x2 : MeshS} (h : DLoop w wr g m s x W H gt mb cb db cl B) (hn : Net w2 g m s2 x2) (hc : Chg (own2 g m) wr w2) : DLoop w w2 g m s2 x2 W H gt mb cb db cl B := by
  obtain ⟨cs, hd⟩ := h.typ
  exact ⟨hn, hc.blk h.box (h.net.notown h.box (.inl rfl)), hc.R h.row (fun k hk => by subst hk; exact h.net.notown hd (.inr rfl)), h.low, h.below.trans (hc.below h.low h.below.size)⟩
theorem DLoop.go (h : DLoop w wr g m s x W H gt mb cb db cl B) (hb : Below wr.heap.size wr w2) : DLoop w w2 g m s x W H gt mb cb db cl B := h.step (h.net.below hb) (Chg.of_below hb _)
theorem DLoop.put (h : DLoop w wr g m s x W H gt mb cb db cl B) (j : Nat) : DLoop w (wr.setCell ⟨db, j, none⟩ (.bool true)) g m s x W H gt mb cb db cl (B.set j true) := by
  obtain ⟨cs, hd⟩ := h.typ
  have hc : Chg (fun b => b = db) wr (wr.setCell ⟨db, j, none⟩ (.bool true)) := (Chg.refl (fun b => b = db) wr).set_ (.inl rfl) _
  have hne : gt ≠ db := blk_ne h.box hd (by decide)
  have h1 := (Kd.R_put h.row (j : Int) true).1
  rw [Int.toNat_natCast] at h1
  refine ⟨h.net.chg hc (fun b hb e => by subst e; exact h.net.notown hd (.inr rfl) hb) (by rintro k rfl cs; exact ⟨typ_ne hd (by decide), typ_ne hd (by decide)⟩), blk_far h.box (p := ⟨db, j, none⟩) hne _, by rw [List.length_set]; exact h1, h.low, h.below.setCell (show w.heap.size ≤ db from Kd.R_base h.row db rfl) _⟩
theorem DLoop.cell (h : DLoop w wr g m s x W H gt mb cb db cl B) {j : Nat} (hj : j < B.length) : wr.cell? ⟨db, j, none⟩ = some (.bool (rdOf false B (j : Int))) ∧ wr.frozen? ⟨db, j, none⟩ = false := by
  have := Kd.R_celln false h.row (j : Int) (by omega) (by omega)
  rw [Int.toNat_natCast] at this
  exact this
end Go.Proofs.YthgehdembghdaaaGreat.P
