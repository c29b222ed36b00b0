/-
  What a law of layer 10 has in memory: a tile, seeds, a field.
-/
import Derived.Test.YtgcfcemgeppkmaaXLawF
namespace Go.Proofs.Ytgcfcemgeppkmaa.P
open Go.RowKit Go.Proofs.YtgcfcemgeppkmaaW.PrintWords Go.Proofs.YtgcfcemgeppkmaaW.PrintLast Go.Proofs.YtgcfcemgeppkmaaW.PrintMore
open Go.Proofs.Ytgcfcemgeppkmaa.Dist
set_option linter.unusedVariables false
set_option linter.unusedSimpArgs false
structure EnvF (w : World) (gt gf : Nat) (W H : Int) (At : Option Addr) (ct : Nat) (C : List Int) (As : Option Addr) (cs : Nat) (s : List Seed) (Ad : Option Addr) (cd : Nat) (D : List Int) (Ae : Option Addr) (ce : Nat) (E : List Int) : Prop where
  tb : w.heap[gt]? = some (.cells #[.int .i64 W, .int .i64 H, .slice At C.length ct] 35 (0, 0))
  fb : w.heap[gf]? = some (.cells #[.slice Ad D.length cd, .slice Ae E.length ce] 60 (0, 0))
  tile : Kd.C (Kd.int .u8) w At C.length C ∧ C.length ≤ ct
  seeds : Kd.C k25 w As s.length s ∧ s.length ≤ cs
  dist : Kd.C (Kd.int .i64) w Ad D.length D ∧ D.length ≤ cd
  dirs : Kd.C (Kd.int .i64) w Ae E.length E ∧ E.length ≤ ce
variable {w w' : World} {gt gf : Nat} {W H : Int} {At : Option Addr} {ct : Nat} {C : List Int} {As : Option Addr} {cs : Nat} {s : List Seed} {Ad : Option Addr} {cd : Nat} {D : List Int} {Ae : Option Addr} {ce : Nat} {E : List Int}
theorem EnvF.below (h : EnvF w gt gf W H At ct C As cs s Ad cd D Ae ce E) (hb : Below w.heap.size w w') : EnvF w' gt gf W H At ct C As cs s Ad cd D Ae ce E :=
  ⟨blk_step h.tb hb, blk_step h.fb hb, ⟨Kd.C_below h.tile.1 hb, h.tile.2⟩, ⟨Kd.C_below h.seeds.1 hb, h.seeds.2⟩, ⟨Kd.C_below h.dist.1 hb, h.dist.2⟩, ⟨Kd.C_below h.dirs.1 hb, h.dirs.2⟩⟩
theorem EnvF.cells (h : EnvF w gt gf W H At ct C As cs s Ad cd D Ae ce E) : w.cell? ⟨gt, 0, none⟩ = some (.int .i64 W) ∧ w.cell? ⟨gt, 1, none⟩ = some (.int .i64 H) ∧ w.cell? ⟨gt, 2, none⟩ = some (.slice At C.length ct) ∧ w.cell? ⟨gf, 0, none⟩ = some (.slice Ad D.length cd) ∧ w.cell? ⟨gf, 1, none⟩ = some (.slice Ae E.length ce) :=
  ⟨cell_blk h.tb rfl, cell_blk h.tb rfl, cell_blk h.tb rfl, cell_blk h.fb rfl, cell_blk h.fb rfl⟩
theorem EnvF.distAt (h : EnvF w gt gf W H At ct C As cs s Ad cd D Ae ce E) {i : Nat} (hi : i < D.length) : ∃ ad, Ad = some ad ∧ w.cell? (ad.add i) = some (.int .i64 (rd D i)) := by
  have := Kd.at_int h.dist.1 (i : Int) (by omega) (by omega)
  simpa using this
theorem EnvF.tileAt (h : EnvF w gt gf W H At ct C As cs s Ad cd D Ae ce E) {i : Nat} (hi : i < C.length) : ∃ ad, At = some ad ∧ w.cell? (ad.add i) = some (.int .u8 (rd C i)) := by
  have := Kd.at_int h.tile.1 (i : Int) (by omega) (by omega)
  simpa using this
/-- The first so many numbers. -/
theorem few10_calls (A : Option Addr) (c : Nat) (l : List Int) (w : World) (h : Kd.C (Kd.int .i64) w A l.length l) (hc : l.length ≤ c) : Calls Try.prog 57 #[.slice A l.length c] w fun e w' => ∃ A' c', e = .returned (.slice A' (l.take (min l.length 24)).length c') ∧ Kd.C (Kd.int .i64) w' A' (l.take (min l.length 24)).length (l.take (min l.length 24)) ∧ (l.take (min l.length 24)).length ≤ c' ∧ Below w.heap.size w w' := by
  refine (herdsmanlaw10_few.calls (fun k_ => k_ < w.heap.size) A c l _ w (Kd.V_mk hc (Kd.C_F (Kd.heap_int .i64) h)) (few10_some l)).mono ?_
  rintro e w' ⟨v, rfl, hV, hB⟩
  obtain ⟨A', c', rfl⟩ := Kd.V_slice hV
  obtain ⟨_, h1, h2⟩ := Kd.V_reads' hV
  exact ⟨A', c', rfl, h2, h1, hB⟩
end Go.Proofs.Ytgcfcemgeppkmaa.P
