/-
  PLAIN: what waits in a ring, as pairs of key and cell.
-/
import Derived.Test.YtgcfcemgeppkmaaXRing2
import Derived.Test.YtgcfcemgeppkmaaXDijk
namespace Go.Proofs.Ytgcfcemgeppkmaa.P
open Go.RowKit Go.Proofs.YtgcfcemgeppkmaaW.PrintWords Go.Proofs.YtgcfcemgeppkmaaW.PrintLast Go.Proofs.YtgcfcemgeppkmaaW.PrintMore
open Go.Proofs.Ytgcfcemgeppkmaa.Dist
set_option linter.unusedVariables false
set_option linter.unusedSimpArgs false

/-- The cell i waits under the key k. -/
def memR (a : Int) (B : Nat → List Int) (k : Int) (i : Nat) : Prop := a ≤ k ∧ k < a + 256 ∧ (i : Int) ∈ B (k % 256).toNat
theorem mem_put {a key : Int} {B : Nat → List Int} {i0 : Nat} (h1 : a ≤ key) (h2 : key < a + 256) (k : Int) (i : Nat) : memR a (updB B (key % 256).toNat (B (key % 256).toNat ++ [(i0 : Int)])) k i ↔ memR a B k i ∨ (k = key ∧ i = i0) := by
  unfold memR
  constructor
  · rintro ⟨e1, e2, e3⟩
    by_cases e : (k % 256).toNat = (key % 256).toNat
    · have hk : k = key := by omega
      subst hk
      rw [updB_at, List.mem_append, List.mem_singleton] at e3
      rcases e3 with e3 | e3
      · exact .inl ⟨e1, e2, e3⟩
      · exact .inr ⟨rfl, by omega⟩
    · rw [updB_ne _ _ e] at e3
      exact .inl ⟨e1, e2, e3⟩
  · rintro (⟨e1, e2, e3⟩ | ⟨rfl, rfl⟩)
    · refine ⟨e1, e2, ?_⟩
      by_cases e : (k % 256).toNat = (key % 256).toNat
      · rw [e] at e3 ⊢
        rw [updB_at]
        exact List.mem_append_left _ e3
      · rw [updB_ne _ _ e]; exact e3
    · exact ⟨h1, h2, by rw [updB_at]; simp⟩
/-- What is taken out first. -/
theorem mem_pop {a : Int} {B : Nat → List Int} {J i0 : Nat} {rest : List Int} (ha : 0 ≤ a) (hJ : J < 256) (hE : ∀ i, i < J → B ((a + (i : Int)) % 256).toNat = []) (hH : B ((a + (J : Int)) % 256).toNat = (i0 : Int) :: rest) :
    memR a B (a + J) i0 ∧ (∀ k i, memR a B k i → a + J ≤ k) ∧ (∀ k i, memR a B k i → memR (a + J) (updB B ((a + (J : Int)) % 256).toNat rest) k i ∨ (k = a + J ∧ i = i0)) ∧ (∀ k i, memR (a + J) (updB B ((a + (J : Int)) % 256).toNat rest) k i → memR a B k i) := by
  have hmin : ∀ k i, memR a B k i → a + J ≤ k := by
    rintro k i ⟨e1, e2, e3⟩
    by_cases h : a + (J : Int) ≤ k
    · exact h
    · have := hE (k - a).toNat (by omega)
      rw [show a + (((k - a).toNat : Nat) : Int) = k by omega] at this
      rw [this] at e3
      simp at e3
  refine ⟨⟨by omega, by omega, by rw [hH]; simp⟩, hmin, ?_, ?_⟩
  · rintro k i hm
    have h := hmin k i hm
    obtain ⟨e1, e2, e3⟩ := hm
    by_cases e : (k % 256).toNat = ((a + (J : Int)) % 256).toNat
    · have hk : k = a + J := by omega
      subst hk
      rw [hH] at e3
      rcases List.mem_cons.1 e3 with e4 | e4
      · exact .inr ⟨rfl, by omega⟩
      · exact .inl ⟨by omega, by omega, by rw [updB_at]; exact e4⟩
    · exact .inl ⟨h, by omega, by rw [updB_ne _ _ e]; exact e3⟩
  · rintro k i ⟨e1, e2, e3⟩
    by_cases e : (k % 256).toNat = ((a + (J : Int)) % 256).toNat
    · have hk : k = a + J := by omega
      subst hk
      rw [updB_at] at e3
      exact ⟨by omega, by omega, by rw [hH]; exact List.mem_cons_of_mem _ e3⟩
    · rw [updB_ne _ _ e] at e3
      refine ⟨by omega, ?_, e3⟩
      by_cases h : k < a + 256
      · exact h
      · have := hE (k - 256 - a).toNat (by omega)
        rw [show ((a + (((k - 256 - a).toNat : Nat) : Int)) % 256).toNat = (k % 256).toNat by omega] at this
        rw [this] at e3
        simp at e3
theorem mem_none {a : Int} {B : Nat → List Int} (h : total B 256 = 0) (k : Int) (i : Nat) : ¬ memR a B k i := by
  rintro ⟨_, _, e3⟩
  have h1 : 0 ≤ k % 256 := Int.emod_nonneg _ (by decide)
  have h2 : k % 256 < 256 := Int.emod_lt_of_pos _ (by decide)
  rw [total_zero B 256 h _ (by omega)] at e3
  simp at e3

/-- All that waits is a cell. -/
def itemsOk (n : Nat) (B : Nat → List Int) : Prop := ∀ b, b < 256 → ∀ x, x ∈ B b → 0 ≤ x ∧ x < (n : Int)
theorem itemsOk.put {n : Nat} {B : Nat → List Int} (h : itemsOk n B) (b : Nat) {x : Int} (h0 : 0 ≤ x) (h1 : x < (n : Int)) : itemsOk n (updB B b (B b ++ [x])) := by
  intro b' hb' y hy
  by_cases e : b' = b
  · subst e
    rw [updB_at, List.mem_append, List.mem_singleton] at hy
    rcases hy with hy | rfl
    · exact h b' hb' y hy
    · exact ⟨h0, h1⟩
  · rw [updB_ne _ _ e] at hy; exact h b' hb' y hy
theorem itemsOk.pop {n : Nat} {B : Nat → List Int} (h : itemsOk n B) {b : Nat} (hb : b < 256) {x : Int} {rest : List Int} (hH : B b = x :: rest) : (0 ≤ x ∧ x < (n : Int)) ∧ itemsOk n (updB B b rest) := by
  refine ⟨h b hb x (by rw [hH]; simp), fun b' hb' y hy => ?_⟩
  by_cases e : b' = b
  · subst e
    rw [updB_at] at hy
    exact h b' hb' y (by rw [hH]; exact List.mem_cons_of_mem _ hy)
  · rw [updB_ne _ _ e] at hy; exact h b' hb' y hy
end Go.Proofs.Ytgcfcemgeppkmaa.P
