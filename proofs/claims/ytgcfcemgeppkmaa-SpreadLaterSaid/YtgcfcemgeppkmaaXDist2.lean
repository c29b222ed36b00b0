/-
  PLAIN: laws of least distances: parts, later, ways, a third one, back. No program.
-/
import Derived.Test.YtgcfcemgeppkmaaXDist
namespace Go.Proofs.Ytgcfcemgeppkmaa.Dist

/-- Two graphs that differ in what is told alone. -/
def Gr.with (g : Gr) (s : Nat → Int → Prop) : Gr := { g with src := s }

theorem parts {g : Gr} {a b : Nat → Int → Prop} (hab : ∀ i k, i < g.n → (g.src i k ↔ a i k ∨ b i k)) {D A B : Nat → Int} (hc : ∀ j, j < g.n → g.opn j → 1 ≤ g.c j)
    (hD : g.IsDist D) (hA : (g.with a).IsDist A) (hB : (g.with b).IsDist B) (i : Nat) (hi : i < g.n) : D i = min (A i) (B i) := by
  refine Gr.unique (D' := fun i => min (A i) (B i)) hc hD ⟨fun i hi => ?_, fun i hi => ?_⟩ i hi
  · obtain ⟨ha1, ha2⟩ := hA.1 i hi
    obtain ⟨hb1, hb2⟩ := hB.1 i hi
    refine ⟨by show min _ _ ≤ _; have : A i ≤ g.inf := ha1; omega, fun ho => ⟨fun k hk => ?_, fun j hj hadj hoj => ?_⟩⟩
    · rcases (hab i k hi).1 hk with h | h
      · have := (ha2 ho).1 k h; show min _ _ ≤ _; omega
      · have := (hb2 ho).1 k h; show min _ _ ≤ _; omega
    · have h1 : A i ≤ A j + g.c j := (ha2 ho).2 j hj hadj hoj
      have h2 : B i ≤ B j + g.c j := (hb2 ho).2 j hj hadj hoj
      show min _ _ ≤ min _ _ + _
      omega
  · obtain ⟨ha0, ha⟩ := hA.2 i hi
    obtain ⟨hb0, hb⟩ := hB.2 i hi
    refine ⟨by show 0 ≤ min _ _; omega, ?_⟩
    show min (A i) (B i) = g.inf ∨ g.opn i ∧ (g.src i (min (A i) (B i)) ∨ ∃ j, j < g.n ∧ g.adj i j ∧ g.opn j ∧ min (A i) (B i) = min (A j) (B j) + g.c j)
    rcases Int.le_total (A i) (B i) with h | h
    · rw [Int.min_eq_left h]
      rcases ha with e | ⟨ho, e | ⟨j, hj, hadj, hoj, e⟩⟩
      · exact .inl e
      · exact .inr ⟨ho, .inl ((hab i _ hi).2 (.inl e))⟩
      · refine .inr ⟨ho, .inr ⟨j, hj, hadj, hoj, ?_⟩⟩
        have h2 : B i ≤ B j + g.c j := ((hB.1 i hi).2 ho).2 j hj hadj hoj
        have e' : A i = A j + g.c j := e
        omega
    · rw [Int.min_eq_right h]
      rcases hb with e | ⟨ho, e | ⟨j, hj, hadj, hoj, e⟩⟩
      · exact .inl e
      · exact .inr ⟨ho, .inl ((hab i _ hi).2 (.inr e))⟩
      · refine .inr ⟨ho, .inr ⟨j, hj, hadj, hoj, ?_⟩⟩
        have h2 : A i ≤ A j + g.c j := ((hA.1 i hi).2 ho).2 j hj hadj hoj
        have e' : B i = B j + g.c j := e
        omega

/-- All later by x. -/
theorem later {g : Gr} {b : Nat → Int → Prop} {x K M : Int} (hx : 0 ≤ x) (hb : ∀ i k, i < g.n → (b i k ↔ g.src i (k - x))) {A B : Nat → Int} (hc : ∀ j, j < g.n → g.opn j → 1 ≤ g.c j)
    (hM : 0 ≤ M) (hcM : ∀ j, j < g.n → g.opn j → g.c j ≤ M) (hK : ∀ i k, i < g.n → g.src i k → k ≤ K) (hinf : K + M * (g.n : Int) + x < g.inf)
    (hA : g.IsDist A) (hB : (g.with b).IsDist B) (i : Nat) (hi : i < g.n) : (A i < g.inf → B i = A i + x) ∧ (g.inf ≤ A i → B i = g.inf) := by
  have hbd := fun i hi => Gr.bound_n hc hA K M hM hcM hK i hi
  have h : B i = if A i = g.inf then g.inf else A i + x := by
    refine Gr.unique (g := g.with b) hc hB (D' := fun i => if A i = g.inf then g.inf else A i + x) ⟨fun i hi => ?_, fun i hi => ?_⟩ i hi
    · show (if A i = g.inf then g.inf else A i + x) ≤ g.inf ∧ _
      have h0 := hbd i hi
      refine ⟨by split <;> omega, fun ho => ⟨fun k hk => ?_, fun j hj hadj hoj => ?_⟩⟩
      · have hk' := (hb i k hi).1 hk
        have h1 := ((hA.1 i hi).2 ho).1 _ hk'
        have h2 := hK i _ hi hk'
        have h3 : 0 ≤ M * (g.n : Int) := Int.mul_nonneg hM (by omega)
        show (if A i = g.inf then g.inf else A i + x) ≤ k
        rw [if_neg (by omega)]
        omega
      · have h1 := ((hA.1 i hi).2 ho).2 j hj hadj hoj
        have h2 := hc j hj hoj
        have h4 := hcM j hj hoj
        have h3 := (hA.1 i hi).1
        have h5 := hbd j hj
        show (if A i = g.inf then g.inf else A i + x) ≤ (if A j = g.inf then g.inf else A j + x) + g.c j
        split <;> split
        · omega
        · -- A i = inf but A j finite: A i ≤ A j + c j: too small
          rename_i e1 e2
          have h6 : g.inf ≤ A j + g.c j := by omega
          have h7 := h5 e2
          -- A j is at most the bound; g.c j at most M: the bound with one more would not do, so use the sharper one
          have h8 := Gr.bound hc hA K M hM hcM hK j hj e2
          have h9 : countLt A (A j) g.n + 1 ≤ g.n := by
            have := countLt_lt A (show A j < A j + 1 by omega) g.n hj rfl
            have := countLt_le A (A j + 1) g.n
            omega
          have h10 : M * ((countLt A (A j) g.n : Nat) + 1 : Int) ≤ M * (g.n : Int) := Int.mul_le_mul_of_nonneg_left (by omega) hM
          rw [Int.mul_add, Int.mul_one] at h10
          omega
        · omega
        · omega
    · obtain ⟨h0, h⟩ := hA.2 i hi
      show 0 ≤ (if A i = g.inf then g.inf else A i + x) ∧ ((if A i = g.inf then g.inf else A i + x) = g.inf ∨ g.opn i ∧ (b i (if A i = g.inf then g.inf else A i + x) ∨ ∃ j, j < g.n ∧ g.adj i j ∧ g.opn j ∧ (if A i = g.inf then g.inf else A i + x) = (if A j = g.inf then g.inf else A j + x) + g.c j))
      refine ⟨by split <;> omega, ?_⟩
      by_cases e : A i = g.inf
      · exact .inl (by rw [if_pos e])
      · rw [if_neg e]
        rcases h with h | ⟨ho, h | ⟨j, hj, hadj, hoj, h⟩⟩
        · exact absurd h e
        · refine .inr ⟨ho, .inl ((hb i _ hi).2 ?_)⟩
          rw [Int.add_sub_cancel]; exact h
        · refine .inr ⟨ho, .inr ⟨j, hj, hadj, hoj, ?_⟩⟩
          have h2 := hc j hj hoj
          have h3 := (hA.1 i hi).1
          rw [if_neg (by omega)]
          omega
  rw [h]
  have h3 := (hA.1 i hi).1
  exact ⟨fun hl => by rw [if_neg (by omega)], fun hl => by rw [if_pos (by omega)]⟩

/-- From one cell. -/
def Gr.one (g : Gr) (t : Nat) : Gr := g.with fun i k => i = t ∧ k = 0

/-- A way over a third one is never shorter. -/
theorem over {g : Gr} {a t : Nat} {A T : Nat → Int} (hc : ∀ j, j < g.n → g.opn j → 1 ≤ g.c j) (hA : (g.one a).IsDist A) (hT : (g.one t).IsDist T) (i : Nat) (hi : i < g.n) : T i ≤ A i + T a ∨ g.inf ≤ A i := by
  have key : ∀ (m : Nat) (i : Nat), i < g.n → (A i).toNat ≤ m → T i ≤ A i + T a ∨ g.inf ≤ A i := by
    intro m
    induction m with
    | zero =>
      intro i hi hm
      obtain ⟨h0, h | ⟨ho, ⟨rfl, h⟩ | ⟨j, hj, hadj, hoj, h⟩⟩⟩ := hA.2 i hi
      · exact .inr (Int.le_of_eq h.symm)
      · left; omega
      · have h1 := (hA.2 j hj).1
        have h2 := hc j hj hoj
        have h' : A i = A j + g.c j := h
        omega
    | succ m ih =>
      intro i hi hm
      obtain ⟨h0, h | ⟨ho, ⟨rfl, h⟩ | ⟨j, hj, hadj, hoj, h⟩⟩⟩ := hA.2 i hi
      · exact .inr (Int.le_of_eq h.symm)
      · left; omega
      · have h1 := (hA.2 j hj).1
        have h2 := hc j hj hoj
        have h' : A i = A j + g.c j := h
        have h3 : T i ≤ T j + g.c j := ((hT.1 i hi).2 ho).2 j hj hadj hoj
        rcases ih j hj (by omega) with h4 | h4
        · left; omega
        · right; omega
  exact key _ i hi (Nat.le_refl _)

/-- There and back differ by just what the ends cost. -/
theorem back_le {g : Gr} (hsym : ∀ i j, g.adj i j → g.adj j i) (hc : ∀ j, j < g.n → g.opn j → 1 ≤ g.c j) {t : Nat} (ht : t < g.n) {Ds : Nat → Nat → Int} (hD : ∀ a, a < g.n → g.opn a → (g.one a).IsDist (Ds a)) (hot : g.opn t)
    (i : Nat) (hi : i < g.n) (hoi : g.opn i) : Ds i t + g.c t ≤ Ds t i + g.c i ∨ g.inf ≤ Ds t i := by
  have key : ∀ (m : Nat) (i : Nat), i < g.n → g.opn i → (Ds t i).toNat ≤ m → Ds i t + g.c t ≤ Ds t i + g.c i ∨ g.inf ≤ Ds t i := by
    intro m
    induction m with
    | zero =>
      intro i hi hoi hm
      obtain ⟨h0, h | ⟨ho, ⟨rfl, h⟩ | ⟨j, hj, hadj, hoj, h⟩⟩⟩ := (hD t ht hot).2 i hi
      · exact .inr (Int.le_of_eq h.symm)
      · left; omega
      · have h1 := ((hD t ht hot).2 j hj).1
        have h2 := hc j hj hoj
        have h' : Ds t i = Ds t j + g.c j := h
        omega
    | succ m ih =>
      intro i hi hoi hm
      obtain ⟨h0, h | ⟨ho, ⟨rfl, h⟩ | ⟨j, hj, hadj, hoj, h⟩⟩⟩ := (hD t ht hot).2 i hi
      · exact .inr (Int.le_of_eq h.symm)
      · left; omega
      · have h1 := ((hD t ht hot).2 j hj).1
        have h2 := hc j hj hoj
        have h' : Ds t i = Ds t j + g.c j := h
        rcases ih j hj hoj (by omega) with h4 | h4
        · -- Ds i t ≤ Ds j t + Ds i j, and Ds i j ≤ c i
          have h5 : Ds i j ≤ Ds i i + g.c i := (((hD i hi hoi).1 j hj).2 hoj).2 i hi (hsym _ _ hadj) hoi
          have h6 : Ds i i ≤ 0 := (((hD i hi hoi).1 i hi).2 hoi).1 0 ⟨rfl, rfl⟩
          have h7 := over hc (hD j hj hoj) (hD i hi hoi) t ht
          rcases h7 with h7 | h7
          · left; omega
          · -- no way from t to j: then Ds j t = inf
            have h8 := ((hD j hj hoj).1 t ht).1
            have h9 := ((hD i hi hoi).1 t ht).1
            have h10 : (g.one j).inf = g.inf := rfl
            have h11 : (g.one i).inf = g.inf := rfl
            -- Ds j t + c t ≤ Ds t j + c j with Ds j t = inf
            left
            have h12 : Ds j t ≤ g.inf := h8
            have h13 : Ds i t ≤ g.inf := h9
            have h14 := hc i hi hoi
            omega
        · right; omega
  exact key _ i hi hoi (Nat.le_refl _)
end Go.Proofs.Ytgcfcemgeppkmaa.Dist
