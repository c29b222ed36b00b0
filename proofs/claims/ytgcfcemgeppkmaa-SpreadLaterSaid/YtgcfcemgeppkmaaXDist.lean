/-
  PLAIN: least distances over a graph whose steps cost what they enter, as the one solution of two conditions. No program.
-/
namespace Go.Proofs.Ytgcfcemgeppkmaa.Dist

/-- A graph of n cells: beside (adj), open ones, costs; what is told of a cell from outside (src); INF: no way. -/
structure Gr where
  n : Nat
  adj : Nat → Nat → Prop
  opn : Nat → Prop
  c : Nat → Int
  src : Nat → Int → Prop
  inf : Int

/-- No cell is further than what it is told, by sources and by cells beside it. -/
def Gr.Upper (g : Gr) (D : Nat → Int) : Prop :=
  ∀ i, i < g.n → D i ≤ g.inf ∧ (g.opn i → (∀ k, g.src i k → D i ≤ k) ∧ ∀ j, j < g.n → g.adj i j → g.opn j → D i ≤ D j + g.c j)
/-- Each finite distance comes about. -/
def Gr.Attain (g : Gr) (D : Nat → Int) : Prop :=
  ∀ i, i < g.n → 0 ≤ D i ∧ (D i = g.inf ∨ g.opn i ∧ (g.src i (D i) ∨ ∃ j, j < g.n ∧ g.adj i j ∧ g.opn j ∧ D i = D j + g.c j))
def Gr.IsDist (g : Gr) (D : Nat → Int) : Prop := g.Upper D ∧ g.Attain D

variable {g : Gr}

theorem Gr.le_of (hc : ∀ j, j < g.n → g.opn j → 1 ≤ g.c j) {D D' : Nat → Int} (hu : g.Upper D') (ha : g.Attain D) (i : Nat) (hi : i < g.n) : D' i ≤ D i := by
  have key : ∀ (m : Nat) (i : Nat), i < g.n → (D i).toNat ≤ m → D' i ≤ D i := by
    intro m
    induction m with
    | zero =>
      intro i hi hm
      obtain ⟨h0, h | ⟨ho, h | ⟨j, hj, hadj, hoj, h⟩⟩⟩ := ha i hi
      · rw [h]; exact (hu i hi).1
      · exact ((hu i hi).2 ho).1 _ h
      · have h1 := (ha j hj).1
        have h2 := hc j hj hoj
        omega
    | succ m ih =>
      intro i hi hm
      obtain ⟨h0, h | ⟨ho, h | ⟨j, hj, hadj, hoj, h⟩⟩⟩ := ha i hi
      · rw [h]; exact (hu i hi).1
      · exact ((hu i hi).2 ho).1 _ h
      · have h1 := (ha j hj).1
        have h2 := hc j hj hoj
        have h3 := ih j hj (by omega)
        have h4 := ((hu i hi).2 ho).2 j hj hadj hoj
        omega
  exact key _ i hi (Nat.le_refl _)

theorem Gr.unique (hc : ∀ j, j < g.n → g.opn j → 1 ≤ g.c j) {D D' : Nat → Int} (h : g.IsDist D) (h' : g.IsDist D') (i : Nat) (hi : i < g.n) : D i = D' i :=
  Int.le_antisymm (Gr.le_of hc h.1 h'.2 i hi) (Gr.le_of hc h'.1 h.2 i hi)

/-! ### How great a finite distance may be -/
def countLt (D : Nat → Int) (v : Int) : Nat → Nat
  | 0 => 0
  | n + 1 => countLt D v n + (if D n < v then 1 else 0)
theorem countLt_le (D : Nat → Int) (v : Int) (n : Nat) : countLt D v n ≤ n := by
  induction n with
  | zero => exact Nat.le_refl _
  | succ n ih => unfold countLt; split <;> omega
theorem countLt_mono (D : Nat → Int) {v v' : Int} (h : v ≤ v') (n : Nat) : countLt D v n ≤ countLt D v' n := by
  induction n with
  | zero => exact Nat.le_refl _
  | succ n ih => unfold countLt; split <;> split <;> omega
theorem countLt_lt (D : Nat → Int) {v v' : Int} (h : v < v') (n : Nat) {j : Nat} (hj : j < n) (hv : D j = v) : countLt D v n + 1 ≤ countLt D v' n := by
  induction n with
  | zero => omega
  | succ n ih =>
    unfold countLt
    by_cases e : j = n
    · subst e
      have := countLt_mono D (Int.le_of_lt h) j
      rw [if_neg (by omega), if_pos (by omega)]
      omega
    · have := ih (by omega)
      split <;> split <;> omega

theorem Gr.bound (hc : ∀ j, j < g.n → g.opn j → 1 ≤ g.c j) {D : Nat → Int} (hd : g.IsDist D) (K M : Int) (hM : 0 ≤ M) (hcM : ∀ j, j < g.n → g.opn j → g.c j ≤ M) (hK : ∀ i k, i < g.n → g.src i k → k ≤ K)
    (i : Nat) (hi : i < g.n) (hf : D i ≠ g.inf) : D i ≤ K + M * (countLt D (D i) g.n : Nat) := by
  have key : ∀ (m : Nat) (i : Nat), i < g.n → (D i).toNat ≤ m → D i ≠ g.inf → D i ≤ K + M * (countLt D (D i) g.n : Nat) := by
    intro m
    induction m with
    | zero =>
      intro i hi hm hf
      have h2 : 0 ≤ M * (countLt D (D i) g.n : Nat) := Int.mul_nonneg hM (by omega)
      obtain ⟨h0, h | ⟨ho, h | ⟨j, hj, hadj, hoj, h⟩⟩⟩ := hd.2 i hi
      · exact absurd h hf
      · have := hK i _ hi h
        omega
      · have h1 := (hd.2 j hj).1
        have h2 := hc j hj hoj
        omega
    | succ m ih =>
      intro i hi hm hf
      have h2 : 0 ≤ M * (countLt D (D i) g.n : Nat) := Int.mul_nonneg hM (by omega)
      obtain ⟨h0, h | ⟨ho, h | ⟨j, hj, hadj, hoj, h⟩⟩⟩ := hd.2 i hi
      · exact absurd h hf
      · have := hK i _ hi h
        omega
      · have h1 := (hd.2 j hj).1
        have h2 := hc j hj hoj
        have h3 := hcM j hj hoj
        have h4 := (hd.1 i hi).1
        have h5 := ih j hj (by omega) (by omega)
        have h6 := countLt_lt D (show D j < D i by omega) g.n hj rfl
        have h7 : M * ((countLt D (D j) g.n : Nat) + 1 : Int) ≤ M * (countLt D (D i) g.n : Nat) := Int.mul_le_mul_of_nonneg_left (by omega) hM
        rw [Int.mul_add, Int.mul_one] at h7
        omega
  exact key _ i hi (Nat.le_refl _) hf
theorem Gr.bound_n (hc : ∀ j, j < g.n → g.opn j → 1 ≤ g.c j) {D : Nat → Int} (hd : g.IsDist D) (K M : Int) (hM : 0 ≤ M) (hcM : ∀ j, j < g.n → g.opn j → g.c j ≤ M) (hK : ∀ i k, i < g.n → g.src i k → k ≤ K)
    (i : Nat) (hi : i < g.n) (hf : D i ≠ g.inf) : D i ≤ K + M * (g.n : Int) := by
  have h := Gr.bound hc hd K M hM hcM hK i hi hf
  have h2 : M * ((countLt D (D i) g.n : Nat) : Int) ≤ M * (g.n : Int) := Int.mul_le_mul_of_nonneg_left (by have := countLt_le D (D i) g.n; omega) hM
  omega

/-! ### There is one -/
open Classical in
/-- One step of making all less. -/
noncomputable def minOver (p : Nat → Prop) (f : Nat → Int) (z : Int) : Nat → Int
  | 0 => z
  | n + 1 => if p n then min (f n) (minOver p f z n) else minOver p f z n
theorem minOver_le (p : Nat → Prop) (f : Nat → Int) (z : Int) (n : Nat) : minOver p f z n ≤ z := by
  induction n with
  | zero => exact Int.le_refl _
  | succ n ih => unfold minOver; split <;> omega
theorem minOver_le_at (p : Nat → Prop) (f : Nat → Int) (z : Int) (n j : Nat) (hj : j < n) (hp : p j) : minOver p f z n ≤ f j := by
  induction n with
  | zero => omega
  | succ n ih =>
    unfold minOver
    by_cases e : j = n
    · subst e; rw [if_pos hp]; omega
    · have := ih (by omega); split <;> omega
theorem minOver_at (p : Nat → Prop) (f : Nat → Int) (z : Int) (n : Nat) : minOver p f z n = z ∨ ∃ j, j < n ∧ p j ∧ minOver p f z n = f j := by
  induction n with
  | zero => exact .inl rfl
  | succ n ih =>
    unfold minOver
    split
    · rename_i hp
      rcases Int.le_total (f n) (minOver p f z n) with h | h
      · exact .inr ⟨n, by omega, hp, by omega⟩
      · rcases ih with ih | ⟨j, hj, hpj, ih⟩
        · exact .inl (by omega)
        · exact .inr ⟨j, by omega, hpj, by omega⟩
    · rcases ih with ih | ⟨j, hj, hpj, ih⟩
      · exact .inl ih
      · exact .inr ⟨j, by omega, hpj, ih⟩
theorem minOver_mono (p : Nat → Prop) {f f' : Nat → Int} {z z' : Int} (hz : z ≤ z') (n : Nat) (h : ∀ j, j < n → f j ≤ f' j) : minOver p f z n ≤ minOver p f' z' n := by
  induction n with
  | zero => exact hz
  | succ n ih =>
    have h1 := ih (fun j hj => h j (by omega))
    have h2 := h n (by omega)
    unfold minOver
    split <;> omega
def sumTo (D : Nat → Int) : Nat → Int
  | 0 => 0
  | n + 1 => sumTo D n + D n
theorem sumTo_nonneg {D : Nat → Int} (n : Nat) (h : ∀ i, i < n → 0 ≤ D i) : 0 ≤ sumTo D n := by
  induction n with
  | zero => exact Int.le_refl _
  | succ n ih => have := ih (fun i hi => h i (by omega)); have := h n (by omega); unfold sumTo; omega
theorem sumTo_le {D D' : Nat → Int} (n : Nat) (h : ∀ i, i < n → D i ≤ D' i) : sumTo D n ≤ sumTo D' n := by
  induction n with
  | zero => exact Int.le_refl _
  | succ n ih => have := ih (fun i hi => h i (by omega)); have := h n (by omega); unfold sumTo; omega
theorem sumTo_eq {D D' : Nat → Int} (n : Nat) (h : ∀ i, i < n → D i ≤ D' i) (hs : sumTo D' n ≤ sumTo D n) : ∀ i, i < n → D i = D' i := by
  induction n with
  | zero => intro i hi; omega
  | succ n ih =>
    intro i hi
    have h1 := sumTo_le n (fun i hi => h i (by omega))
    have h2 := h n (by omega)
    unfold sumTo at hs
    by_cases e : i = n
    · subst e; omega
    · exact ih (fun i hi => h i (by omega)) (by omega) i (by omega)

open Classical in
/-- What a cell is told. -/
noncomputable def Gr.told (g : Gr) (s : Nat → Int) (D : Nat → Int) (i : Nat) : Int :=
  if g.opn i then minOver (fun j => g.adj i j ∧ g.opn j) (fun j => D j + g.c j) (min g.inf (s i)) g.n else g.inf

theorem nat_min (p : Nat → Prop) (h : ∃ m, p m) : ∃ m, p m ∧ ∀ k, k < m → ¬ p k := by
  obtain ⟨m, hm⟩ := h
  induction m using Nat.strongRecOn with
  | _ m ih =>
    by_cases hk : ∃ k, k < m ∧ p k
    · obtain ⟨k, hk, hp⟩ := hk; exact ih k hk hp
    · exact ⟨m, hm, fun k hk' hp => hk ⟨k, hk', hp⟩⟩

/-- Sources that have a least one, by a number for each cell (inf: none). -/
theorem Gr.exists_dist (hc : ∀ j, j < g.n → g.opn j → 1 ≤ g.c j) (hinf : 0 ≤ g.inf) (s : Nat → Int) (hs0 : ∀ i, i < g.n → 0 ≤ s i) (hs1 : ∀ i k, i < g.n → g.src i k → s i ≤ k) (hs2 : ∀ i, i < g.n → g.inf ≤ s i ∨ g.src i (s i)) : ∃ D, g.IsDist D := by
  -- the least sum among those that are no less than what they are told
  have hex : ∃ m : Nat, ∃ D : Nat → Int, (∀ i, i < g.n → 0 ≤ D i ∧ g.told s D i ≤ D i) ∧ sumTo D g.n = (m : Int) := by
    refine ⟨(sumTo (fun _ => g.inf) g.n).toNat, fun _ => g.inf, fun i hi => ⟨hinf, ?_⟩, ?_⟩
    · unfold Gr.told
      split
      · exact Int.le_trans (minOver_le _ _ _ _) (Int.min_le_left _ _)
      · exact Int.le_refl _
    · have := sumTo_nonneg (D := fun _ => g.inf) g.n (fun _ _ => hinf)
      omega
  obtain ⟨m0, ⟨D, hD, hm⟩, hmin⟩ := nat_min _ hex
  have hmono : ∀ i, i < g.n → g.told s (g.told s D) i ≤ g.told s D i := by
    intro i hi
    unfold Gr.told
    split
    · exact minOver_mono _ (Int.le_refl _) _ (fun j hj => by have := (hD j hj).2; unfold Gr.told at this; omega)
    · exact Int.le_refl _
  have hnn : ∀ i, i < g.n → 0 ≤ g.told s D i := by
    intro i hi
    unfold Gr.told
    split
    · rcases minOver_at (fun j => g.adj i j ∧ g.opn j) (fun j => D j + g.c j) (min g.inf (s i)) g.n with h | ⟨j, hj, hp, h⟩
      · rw [h]; have := hs0 i hi; omega
      · rw [h]; have := (hD j hj).1; have := hc j hj hp.2; omega
    · exact hinf
  have hsum : sumTo D g.n ≤ sumTo (g.told s D) g.n := by
    rcases Int.lt_or_le (sumTo (g.told s D) g.n) (sumTo D g.n) with h | h
    · exfalso
      have h0 := sumTo_nonneg g.n hnn
      exact hmin (sumTo (g.told s D) g.n).toNat (by omega) ⟨g.told s D, fun i hi => ⟨hnn i hi, hmono i hi⟩, by omega⟩
    · exact h
  have heq := sumTo_eq g.n (fun i hi => (hD i hi).2) hsum
  refine ⟨D, fun i hi => ?_, fun i hi => ?_⟩
  · have h := heq i hi
    unfold Gr.told at h
    by_cases ho : g.opn i
    · rw [if_pos ho] at h
      refine ⟨?_, fun _ => ⟨fun k hk => ?_, fun j hj ha hoj => ?_⟩⟩
      · rw [← h]; exact Int.le_trans (minOver_le _ _ _ _) (by omega)
      · rw [← h]; refine Int.le_trans (minOver_le _ _ _ _) ?_; have := hs1 i k hi hk; omega
      · rw [← h]; exact minOver_le_at (fun j => g.adj i j ∧ g.opn j) (fun j => D j + g.c j) _ _ j hj ⟨ha, hoj⟩
    · rw [if_neg ho] at h
      exact ⟨by omega, fun hh => absurd hh ho⟩
  · refine ⟨(hD i hi).1, ?_⟩
    have h := heq i hi
    unfold Gr.told at h
    by_cases ho : g.opn i
    · rw [if_pos ho] at h
      rcases minOver_at (fun j => g.adj i j ∧ g.opn j) (fun j => D j + g.c j) (min g.inf (s i)) g.n with h2 | ⟨j, hj, hp, h2⟩
      · rcases hs2 i hi with h3 | h3
        · exact .inl (by omega)
        · rcases Int.le_total g.inf (s i) with h4 | h4
          · exact .inl (by omega)
          · refine .inr ⟨ho, .inl ?_⟩
            rw [← h, h2, Int.min_eq_right h4]; exact h3
      · exact .inr ⟨ho, .inr ⟨j, hj, hp.1, hp.2, by omega⟩⟩
    · rw [if_neg ho] at h
      exact .inl (by omega)
end Go.Proofs.Ytgcfcemgeppkmaa.Dist
