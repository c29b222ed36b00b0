/-
 PLAIN: least distances over a graph whose steps cost what they enter, as the one solution of two conditions. No program. PLAIN: laws of least distances: parts, later, ways, a third one, back. No program. PLAIN: going over a graph, the nearest cell first: what holds of each step, and that the end is the least distances. No program. PLAIN: a tile as a graph; its distances.
-/
import Derived.Test.YthgehdembghdaaaGreatXMay
namespace Go.Proofs.YthgehdembghdaaaGreat.Dist
structure Gr where
 n : Nat
 adj : Nat → Nat → Prop
 opn : Nat → Prop
 c : Nat → Int
 src : Nat → Int → Prop
 inf : Int
def Gr.Upper (g : Gr) (D : Nat → Int) : Prop :=
 ∀ i, i < g.n → D i ≤ g.inf ∧ (g.opn i → (∀ k, g.src i k → D i ≤ k) ∧ ∀ j, j < g.n → g.adj i j → g.opn j → D i ≤ D j + g.c j)
def Gr.Attain (g : Gr) (D : Nat → Int) : Prop :=
 ∀ i, i < g.n → 0 ≤ D i ∧ (D i = g.inf ∨ g.opn i ∧ (g.src i (D i) ∨ ∃ j, j < g.n ∧ g.adj i j ∧ g.opn j ∧ D i = D j + g.c j))
def Gr.IsDist (g : Gr) (D : Nat → Int) : Prop := g.Upper D ∧ g.Attain D
variable {g : Gr}
theorem Gr.le_of (hc : ∀ j, j < g.n → g.opn j → 1 ≤ g.c j) {D D' : Nat → Int} (hu : g.Upper D') (ha : g.Attain D) (i : Nat) (hi : i < g.n) : D' i ≤ D i := by
 have key : ∀ (m : Nat) (i : Nat), i < g.n → (D i).toNat ≤ m → D' i ≤ D i := by
  intro m
  induction m with
  | zero =>
   intro i hi hm
   obtain ⟨h0, h | ⟨ho, h | ⟨j, hj, hadj, hoj, h⟩⟩⟩ := ha i hi
   ·rw [h]; exact (hu i hi).1
   ·exact ((hu i hi).2 ho).1 _ h
   ·have h1 := (ha j hj).1
    have h2 := hc j hj hoj
    omega
  | succ m ih =>
   intro i hi hm
   obtain ⟨h0, h | ⟨ho, h | ⟨j, hj, hadj, hoj, h⟩⟩⟩ := ha i hi
   ·rw [h]; exact (hu i hi).1
   ·exact ((hu i hi).2 ho).1 _ h
   ·have h1 := (ha j hj).1
    have h2 := hc j hj hoj
    have h3 := ih j hj (by omega)
    have h4 := ((hu i hi).2 ho).2 j hj hadj hoj
    omega
 exact key _ i hi (Nat.le_refl _)
theorem Gr.unique (hc : ∀ j, j < g.n → g.opn j → 1 ≤ g.c j) {D D' : Nat → Int} (h : g.IsDist D) (h' : g.IsDist D') (i : Nat) (hi : i < g.n) : D i = D' i :=
 Int.le_antisymm (Gr.le_of hc h.1 h'.2 i hi) (Gr.le_of hc h'.1 h.2 i hi)
def countLt (D : Nat → Int) (v : Int) : Nat → Nat
 | 0 => 0
 | n + 1 => countLt D v n + (if D n < v then 1 else 0)
theorem countLt_le (D : Nat → Int) (v : Int) (n : Nat) : countLt D v n ≤ n := by
 induction n with
 | zero => exact Nat.le_refl _
 | succ n ih => unfold countLt; split <;> omega
theorem countLt_mono (D : Nat → Int) {v v' : Int} (h : v ≤ v') (n : Nat) : countLt D v n ≤ countLt D v' n := by
 induction n with
 | zero => exact Nat.le_refl _
 | succ n ih => unfold countLt; split <;> split <;> omega
theorem countLt_lt (D : Nat → Int) {v v' : Int} (h : v < v') (n : Nat) {j : Nat} (hj : j < n) (hv : D j = v) : countLt D v n + 1 ≤ countLt D v' n := by
 induction n with
 | zero => omega
 | succ n ih =>
  unfold countLt
  by_cases e : j = n
  ·subst e
   have := countLt_mono D (Int.le_of_lt h) j
   rw [if_neg (by omega), if_pos (by omega)]
   omega
  ·have := ih (by omega)
   split <;> split <;> omega
theorem Gr.bound (hc : ∀ j, j < g.n → g.opn j → 1 ≤ g.c j) {D : Nat → Int} (hd : g.IsDist D) (K M : Int) (hM : 0 ≤ M) (hcM : ∀ j, j < g.n → g.opn j → g.c j ≤ M) (hK : ∀ i k, i < g.n → g.src i k → k ≤ K)
  (i : Nat) (hi : i < g.n) (hf : D i ≠ g.inf) : D i ≤ K + M * (countLt D (D i) g.n : Nat) := by
 have key : ∀ (m : Nat) (i : Nat), i < g.n → (D i).toNat ≤ m → D i ≠ g.inf → D i ≤ K + M * (countLt D (D i) g.n : Nat) := by
  intro m
  induction m with
  | zero =>
   intro i hi hm hf
   have h2 : 0 ≤ M * (countLt D (D i) g.n : Nat) := Int.mul_nonneg hM (by omega)
   obtain ⟨h0, h | ⟨ho, h | ⟨j, hj, hadj, hoj, h⟩⟩⟩ := hd.2 i hi
   ·exact absurd h hf
   ·have := hK i _ hi h
    omega
   ·have h1 := (hd.2 j hj).1
    have h2 := hc j hj hoj
    omega
  | succ m ih =>
   intro i hi hm hf
   have h2 : 0 ≤ M * (countLt D (D i) g.n : Nat) := Int.mul_nonneg hM (by omega)
   obtain ⟨h0, h | ⟨ho, h | ⟨j, hj, hadj, hoj, h⟩⟩⟩ := hd.2 i hi
   ·exact absurd h hf
   ·have := hK i _ hi h
    omega
   ·have h1 := (hd.2 j hj).1
    have h2 := hc j hj hoj
    have h3 := hcM j hj hoj
    have h4 := (hd.1 i hi).1
    have h5 := ih j hj (by omega) (by omega)
    have h6 := countLt_lt D (show D j < D i by omega) g.n hj rfl
    have h7 : M * ((countLt D (D j) g.n : Nat) + 1 : Int) ≤ M * (countLt D (D i) g.n : Nat) := Int.mul_le_mul_of_nonneg_left (by omega) hM
    rw [Int.mul_add, Int.mul_one] at h7
    omega
 exact key _ i hi (Nat.le_refl _) hf
theorem Gr.bound_n (hc : ∀ j, j < g.n → g.opn j → 1 ≤ g.c j) {D : Nat → Int} (hd : g.IsDist D) (K M : Int) (hM : 0 ≤ M) (hcM : ∀ j, j < g.n → g.opn j → g.c j ≤ M) (hK : ∀ i k, i < g.n → g.src i k → k ≤ K)
  (i : Nat) (hi : i < g.n) (hf : D i ≠ g.inf) : D i ≤ K + M * (g.n : Int) := by
 have h := Gr.bound hc hd K M hM hcM hK i hi hf
 have h2 : M * ((countLt D (D i) g.n : Nat) : Int) ≤ M * (g.n : Int) := Int.mul_le_mul_of_nonneg_left (by have := countLt_le D (D i) g.n; omega) hM
 omega
open Classical in
noncomputable def minOver (p : Nat → Prop) (f : Nat → Int) (z : Int) : Nat → Int
 | 0 => z
 | n + 1 => if p n then min (f n) (minOver p f z n) else minOver p f z n
theorem minOver_le (p : Nat → Prop) (f : Nat → Int) (z : Int) (n : Nat) : minOver p f z n ≤ z := by
 induction n with
 | zero => exact Int.le_refl _
 | succ n ih => unfold minOver; split <;> omega
theorem minOver_le_at (p : Nat → Prop) (f : Nat → Int) (z : Int) (n j : Nat) (hj : j < n) (hp : p j) : minOver p f z n ≤ f j := by
 induction n with
 | zero => omega
 | succ n ih =>
  unfold minOver
  by_cases e : j = n
  ·subst e; rw [if_pos hp]; omega
  ·have := ih (by omega); split <;> omega
theorem minOver_at (p : Nat → Prop) (f : Nat → Int) (z : Int) (n : Nat) : minOver p f z n = z ∨ ∃ j, j < n ∧ p j ∧ minOver p f z n = f j := by
 induction n with
 | zero => exact .inl rfl
 | succ n ih =>
  unfold minOver
  split
  ·rename_i hp
   rcases Int.le_total (f n) (minOver p f z n) with h | h
   ·exact .inr ⟨n, by omega, hp, by omega⟩
   ·rcases ih with ih | ⟨j, hj, hpj, ih⟩
    ·exact .inl (by omega)
    ·exact .inr ⟨j, by omega, hpj, by omega⟩
  ·rcases ih with ih | ⟨j, hj, hpj, ih⟩
   ·exact .inl ih
   ·exact .inr ⟨j, by omega, hpj, ih⟩
theorem minOver_mono (p : Nat → Prop) {f f' : Nat → Int} {z z' : Int} (hz : z ≤ z') (n : Nat) (h : ∀ j, j < n → f j ≤ f' j) : minOver p f z n ≤ minOver p f' z' n := by
 induction n with
 | zero => exact hz
 | succ n ih =>
  have h1 := ih (fun j hj => h j (by omega))
  have h2 := h n (by omega)
  unfold minOver
  split <;> omega
def sumTo (D : Nat → Int) : Nat → Int
 | 0 => 0
 | n + 1 => sumTo D n + D n
theorem sumTo_nonneg {D : Nat → Int} (n : Nat) (h : ∀ i, i < n → 0 ≤ D i) : 0 ≤ sumTo D n := by
 induction n with
 | zero => exact Int.le_refl _
 | succ n ih => have := ih (fun i hi => h i (by omega)); have := h n (by omega); unfold sumTo; omega
theorem sumTo_le {D D' : Nat → Int} (n : Nat) (h : ∀ i, i < n → D i ≤ D' i) : sumTo D n ≤ sumTo D' n := by
 induction n with
 | zero => exact Int.le_refl _
 | succ n ih => have := ih (fun i hi => h i (by omega)); have := h n (by omega); unfold sumTo; omega
theorem sumTo_eq {D D' : Nat → Int} (n : Nat) (h : ∀ i, i < n → D i ≤ D' i) (hs : sumTo D' n ≤ sumTo D n) : ∀ i, i < n → D i = D' i := by
 induction n with
 | zero => intro i hi; omega
 | succ n ih =>
  intro i hi
  have h1 := sumTo_le n (fun i hi => h i (by omega))
  have h2 := h n (by omega)
  unfold sumTo at hs
  by_cases e : i = n
  ·subst e; omega
  ·exact ih (fun i hi => h i (by omega)) (by omega) i (by omega)
open Classical in
noncomputable def Gr.told (g : Gr) (s : Nat → Int) (D : Nat → Int) (i : Nat) : Int :=
 if g.opn i then minOver (fun j => g.adj i j ∧ g.opn j) (fun j => D j + g.c j) (min g.inf (s i)) g.n else g.inf
theorem nat_min (p : Nat → Prop) (h : ∃ m, p m) : ∃ m, p m ∧ ∀ k, k < m → ¬ p k := by
 obtain ⟨m, hm⟩ := h
 induction m using Nat.strongRecOn with
 | _ m ih =>
  by_cases hk : ∃ k, k < m ∧ p k
  ·obtain ⟨k, hk, hp⟩ := hk; exact ih k hk hp
  ·exact ⟨m, hm, fun k hk' hp => hk ⟨k, hk', hp⟩⟩
theorem Gr.exists_dist (hc : ∀ j, j < g.n → g.opn j → 1 ≤ g.c j) (hinf : 0 ≤ g.inf) (s : Nat → Int) (hs0 : ∀ i, i < g.n → 0 ≤ s i) (hs1 : ∀ i k, i < g.n → g.src i k → s i ≤ k) (hs2 : ∀ i, i < g.n → g.inf ≤ s i ∨ g.src i (s i)) : ∃ D, g.IsDist D := by
 -- the least sum among those that are no less than what they are told
 have hex : ∃ m : Nat, ∃ D : Nat → Int, (∀ i, i < g.n → 0 ≤ D i ∧ g.told s D i ≤ D i) ∧ sumTo D g.n = (m : Int) := by
  refine ⟨(sumTo (fun _ => g.inf) g.n).toNat, fun _ => g.inf, fun i hi => ⟨hinf, ?_⟩, ?_⟩
  ·unfold Gr.told
   split
   ·exact Int.le_trans (minOver_le _ _ _ _) (Int.min_le_left _ _)
   ·exact Int.le_refl _
  ·have := sumTo_nonneg (D := fun _ => g.inf) g.n (fun _ _ => hinf)
   omega
 obtain ⟨m0, ⟨D, hD, hm⟩, hmin⟩ := nat_min _ hex
 have hmono : ∀ i, i < g.n → g.told s (g.told s D) i ≤ g.told s D i := by
  intro i hi
  unfold Gr.told
  split
  ·exact minOver_mono _ (Int.le_refl _) _ (fun j hj => by have := (hD j hj).2; unfold Gr.told at this; omega)
  ·exact Int.le_refl _
 have hnn : ∀ i, i < g.n → 0 ≤ g.told s D i := by
  intro i hi
  unfold Gr.told
  split
  ·rcases minOver_at (fun j => g.adj i j ∧ g.opn j) (fun j => D j + g.c j) (min g.inf (s i)) g.n with h | ⟨j, hj, hp, h⟩
   ·rw [h]; have := hs0 i hi; omega
   ·rw [h]; have := (hD j hj).1; have := hc j hj hp.2; omega
  ·exact hinf
 have hsum : sumTo D g.n ≤ sumTo (g.told s D) g.n := by
  rcases Int.lt_or_le (sumTo (g.told s D) g.n) (sumTo D g.n) with h | h
  ·exfalso
   have h0 := sumTo_nonneg g.n hnn
   exact hmin (sumTo (g.told s D) g.n).toNat (by omega) ⟨g.told s D, fun i hi => ⟨hnn i hi, hmono i hi⟩, by omega⟩
  ·exact h
 have heq := sumTo_eq g.n (fun i hi => (hD i hi).2) hsum
 refine ⟨D, fun i hi => ?_, fun i hi => ?_⟩
 ·have h := heq i hi
  unfold Gr.told at h
  by_cases ho : g.opn i
  ·rw [if_pos ho] at h
   refine ⟨?_, fun _ => ⟨fun k hk => ?_, fun j hj ha hoj => ?_⟩⟩
   ·rw [← h]; exact Int.le_trans (minOver_le _ _ _ _) (by omega)
   ·rw [← h]; refine Int.le_trans (minOver_le _ _ _ _) ?_; have := hs1 i k hi hk; omega
   ·rw [← h]; exact minOver_le_at (fun j => g.adj i j ∧ g.opn j) (fun j => D j + g.c j) _ _ j hj ⟨ha, hoj⟩
  ·rw [if_neg ho] at h
   exact ⟨by omega, fun hh => absurd hh ho⟩
 ·refine ⟨(hD i hi).1, ?_⟩
  have h := heq i hi
  unfold Gr.told at h
  by_cases ho : g.opn i
  ·rw [if_pos ho] at h
   rcases minOver_at (fun j => g.adj i j ∧ g.opn j) (fun j => D j + g.c j) (min g.inf (s i)) g.n with h2 | ⟨j, hj, hp, h2⟩
   ·rcases hs2 i hi with h3 | h3
    ·exact .inl (by omega)
    ·rcases Int.le_total g.inf (s i) with h4 | h4
     ·exact .inl (by omega)
     ·refine .inr ⟨ho, .inl ?_⟩
      rw [← h, h2, Int.min_eq_right h4]; exact h3
   ·exact .inr ⟨ho, .inr ⟨j, hj, hp.1, hp.2, by omega⟩⟩
  ·rw [if_neg ho] at h
   exact .inl (by omega)
end Go.Proofs.YthgehdembghdaaaGreat.Dist
namespace Go.Proofs.YthgehdembghdaaaGreat.Dist
def Gr.with (g : Gr) (s : Nat → Int → Prop) : Gr := { g with src := s }
theorem later {g : Gr} {b : Nat → Int → Prop} {x K M : Int} (hx : 0 ≤ x) (hb : ∀ i k, i < g.n → (b i k ↔ g.src i (k - x))) {A B : Nat → Int} (hc : ∀ j, j < g.n → g.opn j → 1 ≤ g.c j)
  (hM : 0 ≤ M) (hcM : ∀ j, j < g.n → g.opn j → g.c j ≤ M) (hK : ∀ i k, i < g.n → g.src i k → k ≤ K) (hinf : K + M * (g.n : Int) + x < g.inf)
  (hA : g.IsDist A) (hB : (g.with b).IsDist B) (i : Nat) (hi : i < g.n) : (A i < g.inf → B i = A i + x) ∧ (g.inf ≤ A i → B i = g.inf) := by
 have hbd := fun i hi => Gr.bound_n hc hA K M hM hcM hK i hi
 have h : B i = if A i = g.inf then g.inf else A i + x := by
  refine Gr.unique (g := g.with b) hc hB (D' := fun i => if A i = g.inf then g.inf else A i + x) ⟨fun i hi => ?_, fun i hi => ?_⟩ i hi
  ·show (if A i = g.inf then g.inf else A i + x) ≤ g.inf ∧ _
   have h0 := hbd i hi
   refine ⟨by split <;> omega, fun ho => ⟨fun k hk => ?_, fun j hj hadj hoj => ?_⟩⟩
   ·have hk' := (hb i k hi).1 hk
    have h1 := ((hA.1 i hi).2 ho).1 _ hk'
    have h2 := hK i _ hi hk'
    have h3 : 0 ≤ M * (g.n : Int) := Int.mul_nonneg hM (by omega)
    show (if A i = g.inf then g.inf else A i + x) ≤ k
    rw [if_neg (by omega)]
    omega
   ·have h1 := ((hA.1 i hi).2 ho).2 j hj hadj hoj
    have h2 := hc j hj hoj
    have h4 := hcM j hj hoj
    have h3 := (hA.1 i hi).1
    have h5 := hbd j hj
    show (if A i = g.inf then g.inf else A i + x) ≤ (if A j = g.inf then g.inf else A j + x) + g.c j
    split <;> split
    ·omega
    ·-- A i = inf but A j finite: A i ≤ A j + c j: too small
     rename_i e1 e2
     have h6 : g.inf ≤ A j + g.c j := by omega
     have h7 := h5 e2
     -- A j is at most the bound; g.c j at most M: the bound with one more would not do, so use the sharper one
     have h8 := Gr.bound hc hA K M hM hcM hK j hj e2
     have h9 : countLt A (A j) g.n + 1 ≤ g.n := by
      have := countLt_lt A (show A j < A j + 1 by omega) g.n hj rfl
      have := countLt_le A (A j + 1) g.n
      omega
     have h10 : M * ((countLt A (A j) g.n : Nat) + 1 : Int) ≤ M * (g.n : Int) := Int.mul_le_mul_of_nonneg_left (by omega) hM
     rw [Int.mul_add, Int.mul_one] at h10
     omega
    ·omega
    ·omega
  ·obtain ⟨h0, h⟩ := hA.2 i hi
   show 0 ≤ (if A i = g.inf then g.inf else A i + x) ∧ ((if A i = g.inf then g.inf else A i + x) = g.inf ∨ g.opn i ∧ (b i (if A i = g.inf then g.inf else A i + x) ∨ ∃ j, j < g.n ∧ g.adj i j ∧ g.opn j ∧ (if A i = g.inf then g.inf else A i + x) = (if A j = g.inf then g.inf else A j + x) + g.c j))
   refine ⟨by split <;> omega, ?_⟩
   by_cases e : A i = g.inf
   ·exact .inl (by rw [if_pos e])
   ·rw [if_neg e]
    rcases h with h | ⟨ho, h | ⟨j, hj, hadj, hoj, h⟩⟩
    ·exact absurd h e
    ·refine .inr ⟨ho, .inl ((hb i _ hi).2 ?_)⟩
     rw [Int.add_sub_cancel]; exact h
    ·refine .inr ⟨ho, .inr ⟨j, hj, hadj, hoj, ?_⟩⟩
     have h2 := hc j hj hoj
     have h3 := (hA.1 i hi).1
     rw [if_neg (by omega)]
     omega
 rw [h]
 have h3 := (hA.1 i hi).1
 exact ⟨fun hl => by rw [if_neg (by omega)], fun hl => by rw [if_pos (by omega)]⟩
def Gr.one (g : Gr) (t : Nat) : Gr := g.with fun i k => i = t ∧ k = 0
theorem over {g : Gr} {a t : Nat} {A T : Nat → Int} (hc : ∀ j, j < g.n → g.opn j → 1 ≤ g.c j) (hA : (g.one a).IsDist A) (hT : (g.one t).IsDist T) (i : Nat) (hi : i < g.n) : T i ≤ A i + T a ∨ g.inf ≤ A i := by
 have key : ∀ (m : Nat) (i : Nat), i < g.n → (A i).toNat ≤ m → T i ≤ A i + T a ∨ g.inf ≤ A i := by
  intro m
  induction m with
  | zero =>
   intro i hi hm
   obtain ⟨h0, h | ⟨ho, ⟨rfl, h⟩ | ⟨j, hj, hadj, hoj, h⟩⟩⟩ := hA.2 i hi
   ·exact .inr (Int.le_of_eq h.symm)
   ·left; omega
   ·have h1 := (hA.2 j hj).1
    have h2 := hc j hj hoj
    have h' : A i = A j + g.c j := h
    omega
  | succ m ih =>
   intro i hi hm
   obtain ⟨h0, h | ⟨ho, ⟨rfl, h⟩ | ⟨j, hj, hadj, hoj, h⟩⟩⟩ := hA.2 i hi
   ·exact .inr (Int.le_of_eq h.symm)
   ·left; omega
   ·have h1 := (hA.2 j hj).1
    have h2 := hc j hj hoj
    have h' : A i = A j + g.c j := h
    have h3 : T i ≤ T j + g.c j := ((hT.1 i hi).2 ho).2 j hj hadj hoj
    rcases ih j hj (by omega) with h4 | h4
    ·left; omega
    ·right; omega
 exact key _ i hi (Nat.le_refl _)
theorem back_le {g : Gr} (hsym : ∀ i j, g.adj i j → g.adj j i) (hc : ∀ j, j < g.n → g.opn j → 1 ≤ g.c j) {t : Nat} (ht : t < g.n) {Ds : Nat → Nat → Int} (hD : ∀ a, a < g.n → g.opn a → (g.one a).IsDist (Ds a)) (hot : g.opn t)
  (i : Nat) (hi : i < g.n) (hoi : g.opn i) : Ds i t + g.c t ≤ Ds t i + g.c i ∨ g.inf ≤ Ds t i := by
 have key : ∀ (m : Nat) (i : Nat), i < g.n → g.opn i → (Ds t i).toNat ≤ m → Ds i t + g.c t ≤ Ds t i + g.c i ∨ g.inf ≤ Ds t i := by
  intro m
  induction m with
  | zero =>
   intro i hi hoi hm
   obtain ⟨h0, h | ⟨ho, ⟨rfl, h⟩ | ⟨j, hj, hadj, hoj, h⟩⟩⟩ := (hD t ht hot).2 i hi
   ·exact .inr (Int.le_of_eq h.symm)
   ·left; omega
   ·have h1 := ((hD t ht hot).2 j hj).1
    have h2 := hc j hj hoj
    have h' : Ds t i = Ds t j + g.c j := h
    omega
  | succ m ih =>
   intro i hi hoi hm
   obtain ⟨h0, h | ⟨ho, ⟨rfl, h⟩ | ⟨j, hj, hadj, hoj, h⟩⟩⟩ := (hD t ht hot).2 i hi
   ·exact .inr (Int.le_of_eq h.symm)
   ·left; omega
   ·have h1 := ((hD t ht hot).2 j hj).1
    have h2 := hc j hj hoj
    have h' : Ds t i = Ds t j + g.c j := h
    rcases ih j hj hoj (by omega) with h4 | h4
    ·-- Ds i t ≤ Ds j t + Ds i j, and Ds i j ≤ c i
     have h5 : Ds i j ≤ Ds i i + g.c i := (((hD i hi hoi).1 j hj).2 hoj).2 i hi (hsym _ _ hadj) hoi
     have h6 : Ds i i ≤ 0 := (((hD i hi hoi).1 i hi).2 hoi).1 0 ⟨rfl, rfl⟩
     have h7 := over hc (hD j hj hoj) (hD i hi hoi) t ht
     rcases h7 with h7 | h7
     ·left; omega
     ·-- no way from t to j: then Ds j t = inf
      have h8 := ((hD j hj hoj).1 t ht).1
      have h9 := ((hD i hi hoi).1 t ht).1
      have h10 : (g.one j).inf = g.inf := rfl
      have h11 : (g.one i).inf = g.inf := rfl
      -- Ds j t + c t ≤ Ds t j + c j with Ds j t = inf
      left
      have h12 : Ds j t ≤ g.inf := h8
      have h13 : Ds i t ≤ g.inf := h9
      have h14 := hc i hi hoi
      omega
    ·right; omega
 exact key _ i hi hoi (Nat.le_refl _)
end Go.Proofs.YthgehdembghdaaaGreat.Dist
namespace Go.Proofs.YthgehdembghdaaaGreat.Dist
def known (inf : Int) (d : Nat → Int) : Nat → Nat
 | 0 => 0
 | n + 1 => known inf d n + (if d n = inf then 0 else 1)
theorem known_le (inf : Int) (d : Nat → Int) (n : Nat) : known inf d n ≤ n := by
 induction n with
 | zero => exact Nat.le_refl _
 | succ n ih => unfold known; split <;> omega
theorem known_congr {inf : Int} {d d' : Nat → Int} (n : Nat) (h : ∀ i, i < n → d i = d' i) : known inf d n = known inf d' n := by
 induction n with
 | zero => rfl
 | succ n ih => unfold known; rw [ih (fun i hi => h i (by omega)), h n (by omega)]
def upd (d : Nat → Int) (i : Nat) (k : Int) : Nat → Int := fun j => if j = i then k else d j
theorem upd_at (d : Nat → Int) (i : Nat) (k : Int) : upd d i k i = k := by simp [upd]
theorem upd_ne (d : Nat → Int) {i j : Nat} (k : Int) (h : j ≠ i) : upd d i k j = d j := by simp [upd, h]
theorem known_upd {inf : Int} {d : Nat → Int} {i : Nat} {k : Int} (n : Nat) (hi : i < n) (hd : d i = inf) (hk : k ≠ inf) : known inf (upd d i k) n = known inf d n + 1 := by
 induction n with
 | zero => omega
 | succ n ih =>
  unfold known
  by_cases e : i = n
  ·subst e
   rw [upd_at, if_neg hk, if_pos hd, known_congr (d := upd d i k) (d' := d) i (fun j hj => upd_ne _ _ (by omega))]
  ·rw [ih (by omega), upd_ne _ _ (Ne.symm e)]
   split <;> omega
structure Inv (g : Gr) (K Mx : Int) (T : Nat → Int → Prop) (at_ : Int) (M : Int → Nat → Prop) (d : Nat → Int) : Prop where
 at0 : 0 ≤ at_
 dle : ∀ i, i < g.n → d i ≤ g.inf
 set_ : ∀ i, i < g.n → d i ≠ g.inf → d i ≤ at_ ∧ 0 ≤ d i ∧ g.opn i
 M_ok : ∀ k i, M k i → i < g.n ∧ g.opn i ∧ at_ ≤ k ∧ k ≤ K + Mx * (known g.inf d g.n : Nat) ∧ (g.src i k ∨ ∃ j, j < g.n ∧ g.adj i j ∧ g.opn j ∧ d j ≠ g.inf ∧ k = d j + g.c j)
 T_ok : ∀ i k, T i k → g.src i k
 edge : ∀ j, j < g.n → d j ≠ g.inf → ∀ i, i < g.n → g.adj i j → g.opn i → (d i ≠ g.inf ∧ d i ≤ d j + g.c j) ∨ M (d j + g.c j) i
 seed : ∀ i k, g.src i k → T i k ∨ M k i ∨ (d i ≠ g.inf ∧ d i ≤ k)
 att : ∀ i, i < g.n → d i ≠ g.inf → g.src i (d i) ∨ ∃ j, j < g.n ∧ g.adj i j ∧ g.opn j ∧ d j ≠ g.inf ∧ d i = d j + g.c j
variable {g : Gr} {K Mx : Int} {T T' : Nat → Int → Prop} {at_ : Int} {M M' : Int → Nat → Prop} {d : Nat → Int}
theorem Inv.start (hsrc : ∀ i k, T i k ↔ g.src i k) (hM : ∀ k i, ¬ M k i) : Inv g K Mx T 0 M (fun _ => g.inf) where
 at0 := Int.le_refl _
 dle := fun _ _ => Int.le_refl _
 set_ := fun _ _ h => absurd rfl h
 M_ok := fun k i h => absurd h (hM k i)
 T_ok := fun i k h => (hsrc i k).1 h
 edge := fun _ _ h => absurd rfl h
 seed := fun i k h => .inl ((hsrc i k).2 h)
 att := fun _ _ h => absurd rfl h
theorem Inv.jump (h : Inv g K Mx T at_ M d) (hM : ∀ k i, ¬ M k i) (hM' : ∀ k i, ¬ M' k i) {a : Int} (ha : at_ ≤ a) : Inv g K Mx T a M' d where
 at0 := by have := h.at0; omega
 dle := h.dle
 set_ := fun i hi hd => by have := h.set_ i hi hd; exact ⟨by omega, this.2⟩
 M_ok := fun k i hk => absurd hk (hM' k i)
 T_ok := h.T_ok
 edge := fun j hj hd i hi ha ho => by
  rcases h.edge j hj hd i hi ha ho with h1 | h1
  ·exact .inl h1
  ·exact absurd h1 (hM _ _)
 seed := fun i k hk => by
  rcases h.seed i k hk with h1 | h1 | h1
  ·exact .inl h1
  ·exact absurd h1 (hM _ _)
  ·exact .inr (.inr h1)
 att := h.att
theorem Inv.fill (h : Inv g K Mx T at_ M d) (hMx : 0 ≤ Mx) (hsrc : ∀ i k, g.src i k → i < g.n ∧ g.opn i ∧ k ≤ K) {i0 : Nat} {k0 : Int} (h0 : T i0 k0) (hk0 : at_ ≤ k0) (hT : ∀ i k, T i k → T' i k ∨ (i = i0 ∧ k = k0)) (hT' : ∀ i k, T' i k → T i k)
  (hM : ∀ k i, M' k i ↔ M k i ∨ (k = k0 ∧ i = i0)) : Inv g K Mx T' at_ M' d where
 at0 := h.at0
 dle := h.dle
 set_ := h.set_
 M_ok := fun k i hk => by
  rcases (hM k i).1 hk with h1 | ⟨rfl, rfl⟩
  ·exact h.M_ok k i h1
  ·have h2 := h.T_ok _ _ h0
   obtain ⟨h3, h4, h5⟩ := hsrc _ _ h2
   have h6 : 0 ≤ Mx * (known g.inf d g.n : Nat) := Int.mul_nonneg hMx (by omega)
   exact ⟨h3, h4, hk0, by omega, .inl h2⟩
 T_ok := fun i k hk => h.T_ok i k (hT' i k hk)
 edge := fun j hj hd i hi ha ho => by
  rcases h.edge j hj hd i hi ha ho with h1 | h1
  ·exact .inl h1
  ·exact .inr ((hM _ _).2 (.inl h1))
 seed := fun i k hk => by
  rcases h.seed i k hk with h1 | h1 | h1
  ·rcases hT i k h1 with h2 | ⟨rfl, rfl⟩
   ·exact .inl h2
   ·exact .inr (.inl ((hM _ _).2 (.inr ⟨rfl, rfl⟩)))
  ·exact .inr (.inl ((hM _ _).2 (.inl h1)))
  ·exact .inr (.inr h1)
 att := h.att
theorem Inv.old (h : Inv g K Mx T at_ M d) {k0 : Int} {i0 : Nat} (h0 : M k0 i0) (hd0 : d i0 ≠ g.inf) (hmin : ∀ k i, M k i → k0 ≤ k) (hM : ∀ k i, M k i → M' k i ∨ (k = k0 ∧ i = i0)) (hM' : ∀ k i, M' k i → M k i) : Inv g K Mx T k0 M' d where
 at0 := by have := h.at0; have := (h.M_ok _ _ h0).2.2.1; omega
 dle := h.dle
 set_ := fun i hi hd => by have := h.set_ i hi hd; have := (h.M_ok _ _ h0).2.2.1; exact ⟨by omega, by omega, (h.set_ i hi hd).2.2⟩
 M_ok := fun k i hk => by
  have h1 := h.M_ok k i (hM' k i hk)
  exact ⟨h1.1, h1.2.1, hmin k i (hM' k i hk), h1.2.2.2⟩
 T_ok := h.T_ok
 edge := fun j hj hd i hi ha ho => by
  rcases h.edge j hj hd i hi ha ho with h1 | h1
  ·exact .inl h1
  ·rcases hM _ _ h1 with h2 | ⟨h2, rfl⟩
   ·exact .inr h2
   ·have h3 := h.set_ i hi hd0
    have h4 := (h.M_ok _ _ h0).2.2.1
    exact .inl ⟨hd0, by omega⟩
 seed := fun i k hk => by
  rcases h.seed i k hk with h1 | h1 | h1
  ·exact .inl h1
  ·rcases hM _ _ h1 with h2 | ⟨h2, rfl⟩
   ·exact .inr (.inl h2)
   ·have h3 := h.set_ i (h.M_ok _ _ h0).1 hd0
    have h4 := (h.M_ok _ _ h0).2.2.1
    exact .inr (.inr ⟨hd0, by omega⟩)
  ·exact .inr (.inr h1)
 att := h.att
theorem Inv.new (h : Inv g K Mx T at_ M d) (hMx : 0 ≤ Mx) (hc : ∀ j, j < g.n → g.opn j → 0 ≤ g.c j ∧ g.c j ≤ Mx) (hinf : K + Mx * (g.n : Int) < g.inf) {k0 : Int} {i0 : Nat} (h0 : M k0 i0) (hd0 : d i0 = g.inf) (hmin : ∀ k i, M k i → k0 ≤ k)
  {M1 : Int → Nat → Prop} (hM : ∀ k i, M k i → M1 k i ∨ (k = k0 ∧ i = i0)) (hM1 : ∀ k i, M1 k i → M k i)
  (hM' : ∀ k i, M' k i ↔ M1 k i ∨ (k = k0 + g.c i0 ∧ i < g.n ∧ g.adj i i0 ∧ g.opn i ∧ upd d i0 k0 i = g.inf)) : Inv g K Mx T k0 M' (upd d i0 k0) ∧ k0 < g.inf := by
 obtain ⟨hi0, ho0, ha0, hb0, hs0⟩ := h.M_ok _ _ h0
 have hkn := known_le g.inf d g.n
 have hlt : k0 < g.inf := by
  have : Mx * (known g.inf d g.n : Nat) ≤ Mx * (g.n : Int) := Int.mul_le_mul_of_nonneg_left (by omega) hMx
  omega
 have hkn' := known_upd (inf := g.inf) (d := d) (k := k0) g.n hi0 hd0 (by omega)
 have hmx : Mx * ((known g.inf (upd d i0 k0) g.n : Nat) : Int) = Mx * (known g.inf d g.n : Nat) + Mx := by
  rw [hkn', Int.natCast_add, Int.mul_add]; simp
 have hat := h.at0
 refine ⟨{ at0 := by omega, dle := ?_, set_ := ?_, M_ok := ?_, T_ok := h.T_ok, edge := ?_, seed := ?_, att := ?_ }, hlt⟩
 ·intro i hi
  by_cases e : i = i0
  ·subst e; rw [upd_at]; omega
  ·rw [upd_ne _ _ e]; exact h.dle i hi
 ·intro i hi hd
  by_cases e : i = i0
  ·subst e; rw [upd_at]; exact ⟨by omega, by omega, ho0⟩
  ·rw [upd_ne _ _ e] at hd ⊢
   have := h.set_ i hi hd
   exact ⟨by omega, this.2⟩
 ·intro k i hk
  rcases (hM' k i).1 hk with h1 | ⟨rfl, hi, hadj, ho, hd⟩
  ·obtain ⟨a1, a2, a3, a4, a5⟩ := h.M_ok k i (hM1 k i h1)
   refine ⟨a1, a2, hmin k i (hM1 k i h1), by omega, ?_⟩
   rcases a5 with a5 | ⟨j, hj, hadj, hoj, hdj, e⟩
   ·exact .inl a5
   ·have hne : j ≠ i0 := fun e => hdj (e ▸ hd0)
    exact .inr ⟨j, hj, hadj, hoj, by rw [upd_ne _ _ hne]; exact hdj, by rw [upd_ne _ _ hne]; exact e⟩
  ·have hc0 := hc i0 hi0 ho0
   refine ⟨hi, ho, by omega, by omega, .inr ⟨i0, hi0, hadj, ho0, by rw [upd_at]; omega, by rw [upd_at]⟩⟩
 ·intro j hj hd i hi hadj ho
  by_cases e : j = i0
  ·subst e
   rw [upd_at]
   by_cases hdi : upd d j k0 i = g.inf
   ·exact .inr ((hM' _ _).2 (.inr ⟨rfl, hi, hadj, ho, hdi⟩))
   ·refine .inl ⟨hdi, ?_⟩
    have hc0 := hc j hj ho0
    by_cases e : i = j
    ·subst e; rw [upd_at]; omega
    ·rw [upd_ne _ _ e] at hdi ⊢
     have := h.set_ i hi hdi
     omega
  ·rw [upd_ne _ _ e] at hd ⊢
   rcases h.edge j hj hd i hi hadj ho with ⟨h1, h2⟩ | h1
   ·have hne : i ≠ i0 := fun e => h1 (e ▸ hd0)
    exact .inl ⟨by rw [upd_ne _ _ hne]; exact h1, by rw [upd_ne _ _ hne]; exact h2⟩
   ·rcases hM _ _ h1 with h2 | ⟨h2, rfl⟩
    ·exact .inr ((hM' _ _).2 (.inl h2))
    ·exact .inl ⟨by rw [upd_at]; omega, by rw [upd_at]; omega⟩
 ·intro i k hk
  rcases h.seed i k hk with h1 | h1 | ⟨h1, h2⟩
  ·exact .inl h1
  ·rcases hM _ _ h1 with h2 | ⟨rfl, rfl⟩
   ·exact .inr (.inl ((hM' _ _).2 (.inl h2)))
   ·exact .inr (.inr ⟨by rw [upd_at]; omega, by rw [upd_at]; omega⟩)
  ·have hne : i ≠ i0 := fun e => h1 (e ▸ hd0)
   exact .inr (.inr ⟨by rw [upd_ne _ _ hne]; exact h1, by rw [upd_ne _ _ hne]; exact h2⟩)
 ·intro i hi hd
  by_cases e : i = i0
  ·subst e
   rw [upd_at]
   rcases hs0 with a5 | ⟨j, hj, hadj, hoj, hdj, e⟩
   ·exact .inl a5
   ·have hne : j ≠ i := fun e => hdj (e ▸ hd0)
    exact .inr ⟨j, hj, hadj, hoj, by rw [upd_ne _ _ hne]; exact hdj, by rw [upd_ne _ _ hne]; exact e⟩
  ·rw [upd_ne _ _ e] at hd ⊢
   rcases h.att i hi hd with a5 | ⟨j, hj, hadj, hoj, hdj, e⟩
   ·exact .inl a5
   ·have hne : j ≠ i0 := fun e => hdj (e ▸ hd0)
    exact .inr ⟨j, hj, hadj, hoj, by rw [upd_ne _ _ hne]; exact hdj, by rw [upd_ne _ _ hne]; exact e⟩
theorem Inv.done (h : Inv g K Mx T at_ M d) (hinf : 0 ≤ g.inf) (hc : ∀ j, j < g.n → g.opn j → 0 ≤ g.c j) (hT : ∀ i k, ¬ T i k) (hM : ∀ k i, ¬ M k i) : g.IsDist d := by
 refine ⟨fun i hi => ⟨h.dle i hi, fun ho => ⟨fun k hk => ?_, fun j hj hadj hoj => ?_⟩⟩, fun i hi => ?_⟩
 ·rcases h.seed i k hk with h1 | h1 | h1
  ·exact absurd h1 (hT _ _)
  ·exact absurd h1 (hM _ _)
  ·exact h1.2
 ·by_cases e : d j = g.inf
  ·have := hc j hj hoj; have := h.dle i hi; omega
  ·rcases h.edge j hj e i hi hadj ho with h1 | h1
   ·exact h1.2
   ·exact absurd h1 (hM _ _)
 ·by_cases e : d i = g.inf
  ·exact ⟨by omega, .inl e⟩
  ·obtain ⟨h1, h2, h3⟩ := h.set_ i hi e
   refine ⟨h2, .inr ⟨h3, ?_⟩⟩
   rcases h.att i hi e with a5 | ⟨j, hj, hadj, hoj, hdj, e⟩
   ·exact .inl a5
   ·exact .inr ⟨j, hj, hadj, hoj, e⟩
end Go.Proofs.YthgehdembghdaaaGreat.Dist
namespace Go.Proofs.YthgehdembghdaaaGreat.P
open Go.RowKit Go.Proofs.YthgehdembghdaaaGreatW.PrintWords Go.Proofs.YthgehdembghdaaaGreatW.PrintLast Go.Proofs.YthgehdembghdaaaGreatW.PrintMore
open Go.Proofs.YthgehdembghdaaaGreat.Dist
set_option linter.unusedVariables false
set_option linter.unusedSimpArgs false
abbrev INF : Int := 1099511627776
def AdjT (W i j : Int) : Prop := j = i - W ∨ (j = i + 1 ∧ i % W < W - 1) ∨ j = i + W ∨ (j = i - 1 ∧ 0 < i % W)
def grT (W : Int) (C : List Int) (l : List Seed) : Gr where
 n := C.length
 adj i j := AdjT W i j
 opn i := rd C i ≠ 255
 c i := rd C i
 src i k := ∃ x, x ∈ l ∧ x.f0 = (i : Int) ∧ x.f2 = k
 inf := INF
def DistL (W : Int) (C : List Int) (l : List Seed) (d : List Int) : Prop := d.length = C.length ∧ (grT W C l).IsDist (fun i => rd d i)
open Classical in
noncomputable def distOf (W : Int) (C : List Int) (l : List Seed) : List Int := if h : ∃ d, DistL W C l d then Classical.choose h else []
open Classical in
noncomputable def spreadF (W H : Int) (C : List Int) (l : List Seed) : Option (List Int × Int) := if SeedsOk W H C l then (if (∀ x ∈ C, 0 ≤ x ∧ x ≤ 255) ∧ l.length < 5864062014805 then some (distOf W C l, 0) else none) else some ([], 1)
theorem costs_pos {W H : Int} {C : List Int} (hb : ∀ x ∈ C, 0 ≤ x ∧ x ≤ 255) (h : TileOk W H C) (l : List Seed) : ∀ j, j < (grT W C l).n → (grT W C l).opn j → 1 ≤ (grT W C l).c j ∧ (grT W C l).c j ≤ 254 := by
 intro j hj ho
 have hj' : j < C.length := hj
 have h1 := hb (C[j]) (List.getElem_mem _)
 have h2 : C[j] ≠ 0 := fun e => h.2.2.2.2.2 (e ▸ List.getElem_mem _)
 have h3 : rd C (j : Int) ≠ 255 := ho
 rw [rd_get C hj'] at h3
 show 1 ≤ rd C (j : Int) ∧ rd C (j : Int) ≤ 254
 rw [rd_get C hj']
 omega
theorem distL_unique {W H : Int} {C : List Int} (hb : ∀ x ∈ C, 0 ≤ x ∧ x ≤ 255) (ht : TileOk W H C) {l : List Seed} {d d' : List Int} (h : DistL W C l d) (h' : DistL W C l d') : d = d' := by
 apply List.ext_getElem (by rw [h.1, h'.1])
 intro i h1 h2
 have := Gr.unique (fun j hj ho => (costs_pos hb ht l j hj ho).1) h.2 h'.2 i (by show i < C.length; rw [← h.1]; exact h1)
 simp only [rd_get d h1, rd_get d' h2] at this
 exact this
theorem distOf_eq {W H : Int} {C : List Int} (hb : ∀ x ∈ C, 0 ≤ x ∧ x ≤ 255) (ht : TileOk W H C) {l : List Seed} {d : List Int} (h : DistL W C l d) : distOf W C l = d := by
 have hex : ∃ d, DistL W C l d := ⟨d, h⟩
 unfold distOf
 rw [dif_pos hex]
 exact distL_unique hb ht (Classical.choose_spec hex) h
theorem distOf_spec {W H : Int} {C : List Int} (hb : ∀ x ∈ C, 0 ≤ x ∧ x ≤ 255) {l : List Seed} (ht : SeedsOk W H C l) : DistL W C l (distOf W C l) := by
 have hex : ∃ d, DistL W C l d := by
  let s : Nat → Int := fun i => l.foldl (fun m x => if x.f0 = (i : Int) then min m x.f2 else m) INF
  have hf : ∀ (i : Nat) (l : List Seed) (m : Int), (∀ x, x ∈ l → 0 ≤ x.f2) → 0 ≤ m → (0 ≤ l.foldl (fun m x => if x.f0 = (i : Int) then min m x.f2 else m) m) ∧ l.foldl (fun m x => if x.f0 = (i : Int) then min m x.f2 else m) m ≤ m ∧ (∀ x, x ∈ l → x.f0 = (i : Int) → l.foldl (fun m x => if x.f0 = (i : Int) then min m x.f2 else m) m ≤ x.f2) ∧ (l.foldl (fun m x => if x.f0 = (i : Int) then min m x.f2 else m) m = m ∨ ∃ x, x ∈ l ∧ x.f0 = (i : Int) ∧ x.f2 = l.foldl (fun m x => if x.f0 = (i : Int) then min m x.f2 else m) m) := by
   intro i l
   induction l with
   | nil => intro m _ hm; exact ⟨hm, Int.le_refl _, fun x hx => by simp at hx, .inl rfl⟩
   | cons y r ih =>
    intro m hp hm
    have hy := hp y (by simp)
    rw [List.foldl_cons]
    by_cases e : y.f0 = (i : Int)
    ·rw [if_pos e]
     obtain ⟨a1, a2, a3, a4⟩ := ih (min m y.f2) (fun x hx => hp x (by simp [hx])) (by omega)
     refine ⟨a1, by omega, fun x hx hxi => ?_, ?_⟩
     ·rcases List.mem_cons.1 hx with rfl | hx
      ·omega
      ·exact a3 x hx hxi
     ·rcases a4 with a4 | ⟨x, hx, hxi, he⟩
      ·rcases Int.le_total m y.f2 with h | h
       ·exact .inl (by rw [a4]; omega)
       ·exact .inr ⟨y, by simp, e, by rw [a4]; omega⟩
      ·exact .inr ⟨x, by simp [hx], hxi, he⟩
    ·rw [if_neg e]
     obtain ⟨a1, a2, a3, a4⟩ := ih m (fun x hx => hp x (by simp [hx])) hm
     refine ⟨a1, a2, fun x hx hxi => ?_, ?_⟩
     ·rcases List.mem_cons.1 hx with rfl | hx
      ·exact absurd hxi e
      ·exact a3 x hx hxi
     ·rcases a4 with a4 | ⟨x, hx, hxi, he⟩
      ·exact .inl a4
      ·exact .inr ⟨x, by simp [hx], hxi, he⟩
  have hk : ∀ x, x ∈ l → 0 ≤ x.f2 := fun x hx => (ht.2 x hx).2.2.2.1
  obtain ⟨D, hD⟩ := Gr.exists_dist (g := grT W C l) (fun j hj ho => (costs_pos hb ht.1 l j hj ho).1) (by show (0 : Int) ≤ INF; decide) s (fun i _ => (hf i l INF hk (by decide)).1)
   (fun i k _ ⟨x, hx, hxi, he⟩ => by rw [← he]; exact (hf i l INF hk (by decide)).2.2.1 x hx hxi)
   (fun i _ => by
    rcases (hf i l INF hk (by decide)).2.2.2 with h | ⟨x, hx, hxi, he⟩
    ·exact .inl (Int.le_of_eq h.symm)
    ·exact .inr ⟨x, hx, hxi, he⟩)
  refine ⟨(List.range C.length).map D, by simp, ?_⟩
  have e : ∀ i, i < C.length → rd ((List.range C.length).map D) (i : Int) = D i := by
   intro i hi
   rw [rd_get _ (by simpa using hi)]
   simp
  refine ⟨fun i hi => ?_, fun i hi => ?_⟩
  ·obtain ⟨h1, h2⟩ := hD.1 i hi
   simp only [e i hi]
   exact ⟨h1, fun ho => ⟨(h2 ho).1, fun j hj ha hoj => by simp only [e j hj]; exact (h2 ho).2 j hj ha hoj⟩⟩
  ·obtain ⟨h1, h2⟩ := hD.2 i hi
   simp only [e i hi]
   refine ⟨h1, ?_⟩
   rcases h2 with h2 | ⟨ho, h2 | ⟨j, hj, ha, hoj, h2⟩⟩
   ·exact .inl h2
   ·exact .inr ⟨ho, .inl h2⟩
   ·exact .inr ⟨ho, .inr ⟨j, hj, ha, hoj, by simp only [e j hj]; exact h2⟩⟩
 unfold distOf
 rw [dif_pos hex]
 exact Classical.choose_spec hex
end Go.Proofs.YthgehdembghdaaaGreat.P
