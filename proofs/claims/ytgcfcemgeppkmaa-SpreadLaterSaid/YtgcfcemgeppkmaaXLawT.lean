/-
  PLAIN: seeds that are all so much later.
-/
import Derived.Test.YtgcfcemgeppkmaaXLawS
namespace Go.Proofs.Ytgcfcemgeppkmaa.P
open Go.RowKit Go.Proofs.YtgcfcemgeppkmaaW.PrintWords Go.Proofs.YtgcfcemgeppkmaaW.PrintLast Go.Proofs.YtgcfcemgeppkmaaW.PrintMore
open Go.Proofs.Ytgcfcemgeppkmaa.Dist
set_option linter.unusedVariables false
set_option linter.unusedSimpArgs false

theorem rdT_get (xs : List Seed) {i : Nat} (h : i < xs.length) : rd_T25 xs (i : Int) = xs[i] := by
  unfold rd_T25
  rw [Int.toNat_natCast, List.getD_eq_getElem?_getD, List.getElem?_eq_getElem h]
  rfl
/-- A key brought below a bound. -/
def redS (y : Seed) : Seed := ⟨y.f0, y.f1, y.f2 % 1048577⟩
/-- So much later. -/
def lateS (x : Int) (y : Seed) : Seed := ⟨y.f0, y.f1, y.f2 + x⟩
theorem red_ok {W H : Int} {C : List Int} {s : List Seed} (h : SeedsOk W H C s) : SeedsOk W H C (s.map redS) := by
  refine ⟨h.1, fun y hy => ?_⟩
  obtain ⟨z, hz, rfl⟩ := List.mem_map.1 hy
  obtain ⟨h1, h2, h3, h4, h5, h6⟩ := h.2 z hz
  refine ⟨h1, h2, h3, ?_, ?_, h6⟩ <;> unfold redS <;> dsimp only <;> omega
theorem late_ok {W H : Int} {C : List Int} {s : List Seed} (h : SeedsOk W H C s) {x : Int} (hx : 0 ≤ x ∧ x ≤ 1048576) : SeedsOk W H C ((s.map redS).map (lateS x)) := by
  refine ⟨h.1, fun y hy => ?_⟩
  obtain ⟨y1, hy1, rfl⟩ := List.mem_map.1 hy
  obtain ⟨z, hz, rfl⟩ := List.mem_map.1 hy1
  obtain ⟨h1, h2, h3, h4, h5, h6⟩ := h.2 z hz
  refine ⟨h1, h2, h3, ?_, ?_, h6⟩ <;> unfold lateS redS <;> dsimp only <;> omega
theorem later_law {W H : Int} {C : List Int} (hb : ∀ x ∈ C, 0 ≤ x ∧ x ≤ 255) {s : List Seed} (h : SeedsOk W H C s) {x : Int} (hx : 0 ≤ x ∧ x ≤ 1048576) (hC : C.length ≤ 256) (i : Nat) (hi : i < C.length) :
    (rd (distOf W C (s.map redS)) i < 1099511627776 → rd (distOf W C ((s.map redS).map (lateS x))) i = rd (distOf W C (s.map redS)) i + x) ∧ (1099511627776 ≤ rd (distOf W C (s.map redS)) i → rd (distOf W C ((s.map redS).map (lateS x))) i = 1099511627776) := by
  have hA := distOf_spec hb (red_ok h)
  have hB := distOf_spec hb (late_ok h hx)
  refine later (g := grT W C (s.map redS)) (b := (grT W C ((s.map redS).map (lateS x))).src) (x := x) (K := 1048576) (M := 254) hx.1 (fun i k _ => ?_) (fun j hj ho => (costs_pos hb h.1 _ j hj ho).1) (by decide) (fun j hj ho => (costs_pos hb h.1 _ j hj ho).2) (fun i k _ hk => ?_) ?_ hA.2 hB.2 i hi
  · constructor
    · rintro ⟨y, hy, e0, e2⟩
      obtain ⟨y1, hy1, rfl⟩ := List.mem_map.1 hy
      exact ⟨y1, hy1, e0, by have : y1.f2 + x = k := e2; omega⟩
    · rintro ⟨y, hy, e0, e2⟩
      exact ⟨lateS x y, List.mem_map_of_mem hy, e0, by show y.f2 + x = k; omega⟩
  · obtain ⟨y, hy, e0, e2⟩ := hk
    obtain ⟨z, hz, rfl⟩ := List.mem_map.1 hy
    have : z.f2 % 1048577 = k := e2
    omega
  · show 1048576 + 254 * (C.length : Int) + x < 1099511627776
    omega
end Go.Proofs.Ytgcfcemgeppkmaa.P
