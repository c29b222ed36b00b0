/-
  Rows: a slice of seeds that came in, opened; and again shut. Rows: a slice of numbers, and a tile, that came in, opened.
-/
import Derived.Test.YtgcfcemgeppkmaaPx0
import Derived.Test.YtgcfcemgeppkmaaXBase
import Derived.Deep.Slices
import Derived.Deep.Strs
import Derived.Deep.Fields
import Derived.SizedLaws
import Derived.WalkKit
import Derived.ProofKit
import Derived.OpenShut
import Derived.Lib.SmallJoins
namespace Go.Proofs.Ytgcfcemgeppkmaa.P
open Go Go.Deep Go.RowKit Go.ChangeShapes Go.WideShapes Go.Proofs.YtgcfcemgeppkmaaW.PrintWords Go.Proofs.YtgcfcemgeppkmaaW.PrintLast Go.Proofs.YtgcfcemgeppkmaaW.PrintMore
set_option linter.unusedVariables false
set_option linter.unusedSimpArgs false
/-- What a slice of seeds reads as. -/
theorem open_seeds {H : Type} {enc : TypeId × Value → H} {w : World} {base : Nat} {spare : Nat → Bool} {held : Bool} {a : Option Addr} {len cap : Nat} {d : DataW H} {ps : List MemPlace} {ts : List TypeId} {ds : List (DataW H)} {j : Nat}
    (hsz : (DataW.weightsEach Try.prog ts ds).all (· ≤ reachBytes) = true) (ht : ts[j]? = some 22) (hd : ds[j]? = some d)
    (h : DataW.Trod enc Try.prog w base spare held 22 (.slice a len cap) d ps) : ∃ xs : List Seed, xs.length = len ∧ Kd.C k25 w a xs.length xs ∧ xs.length ≤ cap ∧ xs.length * 24 ≤ 140737488351232 ∧ ∀ x, x ∈ xs → (Lit.int .i64 x.f0).wf = true ∧ (Lit.int .i64 x.f1).wf = true ∧ (Lit.int .i64 x.f2).wf = true := by
  obtain ⟨fuel, hf⟩ := h
  have hu := Try.underlying22
  rcases open_slice hu hf with ⟨hcs, _⟩ | ⟨ad, l, c, m, n, D, Pl, hcs, hb, hl, hm, hmm, hx, hi⟩
  · simp [Value.cells] at hcs
    obtain ⟨rfl, rfl, rfl⟩ := hcs
    exact ⟨[], rfl, Kd.C_nil _ _, Nat.le_refl _, by simp, fun x hx => by simp at hx⟩
  · simp [Value.cells] at hcs
    obtain ⟨rfl, rfl, rfl⟩ := hcs
    have hlm : len ≤ m := by rw [hmm]; split <;> omega
    have c3 : Try.prog.cellsOf 25 = 3 := by kernel_rfl
    have c1 : Try.prog.cellsOf 3 = 1 := by kernel_rfl
    have each : ∀ i, i < len → ∃ x : Seed, ((Lit.int .i64 x.f0).wf = true ∧ (Lit.int .i64 x.f1).wf = true ∧ (Lit.int .i64 x.f2).wf = true) ∧ ∀ j u, ([.int .i64 x.f0, .int .i64 x.f1, .int .i64 x.f2] : List Value)[j]? = some u → w.cell? (ad.add (i * 3 + j)) = some u := by
      intro i hil
      obtain ⟨cs', hc, ht'⟩ := hi i (by omega)
      rw [c3] at hc
      obtain ⟨_, hcl, hat⟩ := World.cells?_some hc
      obtain ⟨v0, v1, v2, rfl⟩ : ∃ v0 v1 v2, cs' = [v0, v1, v2] := by
        match cs', hcl with
        | [v0, v1, v2], _ => exact ⟨v0, v1, v2, rfl⟩
      obtain ⟨y0, y1, y2, n', _, _, h0, h1, h2⟩ := trod_struct3 Try.underlying25 ht'
      rw [c1] at h0 h1 h2
      obtain ⟨i0, e0, _, w0⟩ := DataW.trod_int Try.underlying3 (show DataW.trod enc Try.prog w base spare held n' 3 [v0] = some y0 from h0)
      obtain ⟨i1, e1, _, w1⟩ := DataW.trod_int Try.underlying3 (show DataW.trod enc Try.prog w base spare held n' 3 [v1] = some y1 from h1)
      obtain ⟨i2, e2, _, w2⟩ := DataW.trod_int Try.underlying3 (show DataW.trod enc Try.prog w base spare held n' 3 [v2] = some y2 from h2)
      obtain rfl : v0 = .int .i64 i0 := by simpa using e0
      obtain rfl : v1 = .int .i64 i1 := by simpa using e1
      obtain rfl : v2 = .int .i64 i2 := by simpa using e2
      refine ⟨⟨i0, i1, i2⟩, ⟨w0, w1, w2⟩, fun j u hj => ?_⟩
      have hj3 : j < 3 := by
        have := (List.getElem?_eq_some_iff.1 hj).1
        simpa using this
      have := hat j hj3
      rw [← Go.Deep.add_add, this]
      exact hj
    let f : Nat → Seed := fun i => if h : i < len then Classical.choose (each i h) else z25
    have hfs : ∀ i, i < len → ((Lit.int .i64 (f i).f0).wf = true ∧ (Lit.int .i64 (f i).f1).wf = true ∧ (Lit.int .i64 (f i).f2).wf = true) ∧ ∀ j u, ([.int .i64 (f i).f0, .int .i64 (f i).f1, .int .i64 (f i).f2] : List Value)[j]? = some u → w.cell? (ad.add (i * 3 + j)) = some u := by
      intro i hil
      have := Classical.choose_spec (each i hil)
      simp only [f, dif_pos hil]
      exact this
    have hlen : ((List.range len).map f).length = len := by simp
    refine ⟨(List.range len).map f, hlen, ?_, by rw [hlen]; exact hl, ?_, fun x hx => ?_⟩
    · rw [hlen]
      refine ⟨by simp, by unfold maxLen at hm; omega, fun h0 => ⟨ad, rfl, fun i p hp => ?_⟩⟩
      obtain ⟨hil, rfl⟩ : i < len ∧ f i = p := by
        have h1 := (List.getElem?_eq_some_iff.1 hp).1
        rw [hlen] at h1
        rw [List.getElem?_map, List.getElem?_range h1] at hp
        exact ⟨h1, by simpa using hp⟩
      exact ⟨_, rfl, k25_mk w (f i), fun j u hj => (hfs i hil).2 j u hj⟩
    · obtain ⟨hx, _⟩ := Prod.mk.inj hx
      subst hx
      have z := sized_slice hsz ht hd hu
      have hb24 : Try.prog.bytesOf 25 = 24 := by kernel_rfl
      have hrb : reachBytes = 140737488351232 := by decide
      rw [hb24, hrb] at z
      simp only [List.length_map, List.length_range] at z ⊢
      omega
    · obtain ⟨i, hi', rfl⟩ := List.mem_map.1 hx
      exact (hfs i (List.mem_range.1 hi')).1
end Go.Proofs.Ytgcfcemgeppkmaa.P
namespace Go.Proofs.Ytgcfcemgeppkmaa.P
open Go Go.Deep Go.RowKit Go.ChangeShapes Go.WideShapes Go.Proofs.YtgcfcemgeppkmaaW.PrintWords Go.Proofs.YtgcfcemgeppkmaaW.PrintLast Go.Proofs.YtgcfcemgeppkmaaW.PrintMore
set_option linter.unusedVariables false
theorem open_nums {H : Type} {enc : TypeId × Value → H} {w : World} {base : Nat} {held : Bool} {t e : TypeId} {k : IntKind} {fuel : Nat} {cs : List Value} {x : DataW H × List MemPlace} (ht : Try.prog.underlying t = some (.slice e)) (he : Try.prog.underlying e = some (.int k)) (hc : Try.prog.cellsOf e = 1)
    (h : DataW.trod enc Try.prog w base (fun _ => true) held fuel t cs = some x) : ∃ (a : Option Addr) (cap : Nat) (l : List Int), cs = [.slice a l.length cap] ∧ Kd.C (Kd.int k) w a l.length l ∧ l.length ≤ cap ∧ l.length ≤ maxLen ∧ ∀ x ∈ l, (Lit.int k x).wf = true := by
  have key : ∀ (a : Option Addr) (len cap : Nat) (zs : List Int), ((a = none ∧ len = 0 ∧ cap = 0 ∧ zs = []) ∨ ∃ x, a = some x ∧ len ≤ cap ∧ cap ≤ maxLen ∧ zs.length = cap ∧ (∀ i, i < zs.length → w.cell? (x.add i) = some (.int k (zs.getD i 0))) ∧ ∀ n ∈ zs, (Lit.int k n).wf = true) →
      ∃ l : List Int, len = l.length ∧ Kd.C (Kd.int k) w a l.length l ∧ l.length ≤ cap ∧ l.length ≤ maxLen ∧ ∀ x ∈ l, (Lit.int k x).wf = true := by
    intro a len cap zs hz
    obtain ⟨l, e, hr, hm, hw, hl⟩ := ReadsInt.ofRowC hz
    exact ⟨l, e, Kd.C_of_reads (d := (0 : Int)) (h1 := fun _ => rfl) hr, hl, hm, hw⟩
  rcases Go.ChangeShapes.open_ints ht he hc h with ⟨hcs, _⟩ | ⟨x, l, c, zs, hcs, _, hl, hm, hz, _, hcell, hwz⟩
  · obtain ⟨l, e, r⟩ := key none 0 0 [] (.inl ⟨rfl, rfl, rfl, rfl⟩)
    exact ⟨none, 0, l, by rw [hcs, e], r⟩
  · obtain ⟨ys, e, r⟩ := key (some x) l c zs (.inr ⟨_, rfl, hl, hm, by simpa using hz, hcell, hwz⟩)
    exact ⟨some x, c, ys, by rw [hcs, e], r⟩
set_option maxRecDepth 100000 in
theorem open_tile {H : Type} {enc : TypeId × Value → H} {w : World} {base b0 : Nat} {r : Reach} {held : Bool} {v : Value} {d : DataW H} {p : List MemPlace} (hv : Value.okWide Try.prog w r b0 35 v) (h : DataW.Trod enc Try.prog w base (fun _ => true) held 35 v d p) :
    ∃ (x y : Int) (a : Option Addr) (cap : Nat) (l : List Int), v = .agg #[.int .i64 x, .int .i64 y, .slice a l.length cap] ∧ Kd.C (Kd.int .u8) w a l.length l ∧ l.length ≤ cap ∧ (∀ x ∈ l, (Lit.int .u8 x).wf = true) ∧ (Lit.int .i64 x).wf = true ∧ (Lit.int .i64 y).wf = true := by
  obtain ⟨v0, v1, v2, y0, y1, y2, n, rfl, _, _, h0, h1, h2⟩ := Go.Joins.open_agg3 Try.underlying35 (by kernel_rfl) (by kernel_rfl) hv h
  obtain ⟨i0, e0, _, w0⟩ := DataW.trod_int Try.underlying3 h0
  obtain ⟨i1, e1, _, w1⟩ := DataW.trod_int Try.underlying3 h1
  obtain ⟨a, cap, l, e2, hr, hl, _, hw⟩ := open_nums Try.underlying33 Try.underlying5 (by kernel_rfl) h2
  obtain rfl : v0 = .int .i64 i0 := by simpa using e0
  obtain rfl : v1 = .int .i64 i1 := by simpa using e1
  obtain rfl : v2 = .slice a l.length cap := by simpa using e2
  exact ⟨i0, i1, a, cap, l, rfl, hr, hl, hw, w0, w1⟩
end Go.Proofs.Ytgcfcemgeppkmaa.P
