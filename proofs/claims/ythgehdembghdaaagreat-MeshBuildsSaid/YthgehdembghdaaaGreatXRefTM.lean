/-
 A map in a box; one seed in a block of its own.
-/
import Derived.Test.YthgehdembghdaaaGreatXRef11
import Derived.Test.YthgehdembghdaaaGreatXRefSpW
import Derived.Test.YthgehdembghdaaaGreatXMay
import Derived.Test.YthgehdembghdaaaGreatPx5
import Derived.Test.YthgehdembghdaaaGreatPx5
namespace Go.Proofs.YthgehdembghdaaaGreat.P
open Go.RowKit Go.Proofs.YthgehdembghdaaaGreatW.PrintWords Go.Proofs.YthgehdembghdaaaGreatW.PrintLast Go.Proofs.YthgehdembghdaaaGreatW.PrintMore
open Go.Proofs.YthgehdembghdaaaGreat.Geo
set_option linter.unusedVariables false
set_option linter.unusedSimpArgs false
variable {w wr w2 : World} {W H : Int} {C : List Int} {A : Option Addr} {cp b3 : Nat}
structure TM (w wr : World) (b3 : Nat) (W H : Int) (A : Option Addr) (cp : Nat) (C : List Int) : Prop where
 box : wr.heap[b3]? = some (.cells #[.int .i64 W, .int .i64 H, .slice A C.length cp] 26 (0, 0))
 row : Kd.C (Kd.int .u8) wr A C.length C
 low : w.heap.size ≤ b3
 below : Below w.heap.size w wr
theorem TM.go (h : TM w wr b3 W H A cp C) (hb : Below wr.heap.size wr w2) : TM w w2 b3 W H A cp C := ⟨blk_step h.box hb, Kd.C_below h.row hb, h.low, below_step h.below hb⟩
theorem TM.cells (h : TM w wr b3 W H A cp C) : wr.cell? ⟨b3, 0, none⟩ = some (.int .i64 W) ∧ wr.cell? ⟨b3, 1, none⟩ = some (.int .i64 H) ∧ wr.cell? ⟨b3, 2, none⟩ = some (.slice A C.length cp) := ⟨cell_blk h.box rfl, cell_blk h.box rfl, cell_blk h.box rfl⟩
theorem TM.drew (h : TM w wr b3 W H A cp C) : TM w wr.drew b3 W H A cp C := h.go (below_drew1 (Below.refl _ _))
theorem seed1_C {b : Nat} {c s k : Int} (hb : w.heap[b]? = some (.cells #[.int .i64 c, .int .i64 s, .int .i64 k] 90 (0, 0))) : Kd.C k90 w (some ⟨b, 0, none⟩) 1 [(⟨c, s, k⟩ : Seed)] := by
 refine ⟨rfl, by omega, fun _ => ⟨⟨b, 0, none⟩, rfl, fun j p hj => ?_⟩⟩
 match j, hj with
 | 0, hj =>
  have hp : (⟨c, s, k⟩ : Seed) = p := by simpa using hj
  subst hp
  refine ⟨_, rfl, k90_mk w (⟨c, s, k⟩ : Seed), fun i u hu => ?_⟩
  have hi : i < 3 := by
   have := (List.getElem?_eq_some_iff.1 hu).1
   simpa using this
  have e : (Addr.add ⟨b, 0, none⟩ (0 * k90.sz + i)) = ⟨b, i, none⟩ := by rw [Nat.zero_mul, Nat.zero_add]; unfold Addr.add; simp; omega
  rw [e]
  refine cell_blk hb ?_
  rw [List.getElem?_toArray]
  exact hu
 | j + 1, hj => simp at hj
theorem TM.alloc (h : TM w wr b3 W H A cp C) (o : Obj) : TM w (wr.alloc o) b3 W H A cp C := h.go (below_alloc (Below.refl _ _) o)
theorem TM.set3 {b : Nat} (h : TM w wr b3 W H A cp C) (hb : w.heap.size ≤ b) (hne : b3 ≠ b) (x y z : Value) (hC : Kd.C (Kd.int .u8) w A C.length C) : TM w (((wr.setCell ⟨b, 0, none⟩ x).setCell ⟨b, 1, none⟩ y).setCell ⟨b, 2, none⟩ z) b3 W H A cp C := by
 have hbl : Below w.heap.size w (((wr.setCell ⟨b, 0, none⟩ x).setCell ⟨b, 1, none⟩ y).setCell ⟨b, 2, none⟩ z) := ((h.below.setCell hb _).setCell hb _).setCell hb _
 exact ⟨blk_far (blk_far (blk_far h.box (p := ⟨b, 0, none⟩) hne _) (p := ⟨b, 1, none⟩) hne _) (p := ⟨b, 2, none⟩) hne _, Kd.C_below hC hbl, h.low, hbl⟩
theorem TM.ne (h : TM w wr b3 W H A cp C) : b3 ≠ wr.heap.size := Nat.ne_of_lt (blk_lt h.box)
end Go.Proofs.YthgehdembghdaaaGreat.P
