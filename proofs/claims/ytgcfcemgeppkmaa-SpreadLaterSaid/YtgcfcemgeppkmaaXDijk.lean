/-
  PLAIN: going over a graph, the nearest cell first: what holds of each step, and that the end is the least distances. No program.
-/
import Derived.Test.YtgcfcemgeppkmaaXDist
namespace Go.Proofs.Ytgcfcemgeppkmaa.Dist

/-- How many cells are known. -/
def known (inf : Int) (d : Nat → Int) : Nat → Nat
  | 0 => 0
  | n + 1 => known inf d n + (if d n = inf then 0 else 1)
theorem known_le (inf : Int) (d : Nat → Int) (n : Nat) : known inf d n ≤ n := by
  induction n with
  | zero => exact Nat.le_refl _
  | succ n ih => unfold known; split <;> omega
theorem known_congr {inf : Int} {d d' : Nat → Int} (n : Nat) (h : ∀ i, i < n → d i = d' i) : known inf d n = known inf d' n := by
  induction n with
  | zero => rfl
  | succ n ih => unfold known; rw [ih (fun i hi => h i (by omega)), h n (by omega)]
def upd (d : Nat → Int) (i : Nat) (k : Int) : Nat → Int := fun j => if j = i then k else d j
theorem upd_at (d : Nat → Int) (i : Nat) (k : Int) : upd d i k i = k := by simp [upd]
theorem upd_ne (d : Nat → Int) {i j : Nat} (k : Int) (h : j ≠ i) : upd d i k j = d j := by simp [upd, h]
theorem known_upd {inf : Int} {d : Nat → Int} {i : Nat} {k : Int} (n : Nat) (hi : i < n) (hd : d i = inf) (hk : k ≠ inf) : known inf (upd d i k) n = known inf d n + 1 := by
  induction n with
  | zero => omega
  | succ n ih =>
    unfold known
    by_cases e : i = n
    · subst e
      rw [upd_at, if_neg hk, if_pos hd, known_congr (d := upd d i k) (d' := d) i (fun j hj => upd_ne _ _ (by omega))]
    · rw [ih (by omega), upd_ne _ _ (Ne.symm e)]
      split <;> omega

/-- T: what is told and doesn't wait yet; M: what waits (key, cell); d: what is known. -/
structure Inv (g : Gr) (K Mx : Int) (T : Nat → Int → Prop) (at_ : Int) (M : Int → Nat → Prop) (d : Nat → Int) : Prop where
  at0 : 0 ≤ at_
  dle : ∀ i, i < g.n → d i ≤ g.inf
  set_ : ∀ i, i < g.n → d i ≠ g.inf → d i ≤ at_ ∧ 0 ≤ d i ∧ g.opn i
  M_ok : ∀ k i, M k i → i < g.n ∧ g.opn i ∧ at_ ≤ k ∧ k ≤ K + Mx * (known g.inf d g.n : Nat) ∧ (g.src i k ∨ ∃ j, j < g.n ∧ g.adj i j ∧ g.opn j ∧ d j ≠ g.inf ∧ k = d j + g.c j)
  T_ok : ∀ i k, T i k → g.src i k
  edge : ∀ j, j < g.n → d j ≠ g.inf → ∀ i, i < g.n → g.adj i j → g.opn i → (d i ≠ g.inf ∧ d i ≤ d j + g.c j) ∨ M (d j + g.c j) i
  seed : ∀ i k, g.src i k → T i k ∨ M k i ∨ (d i ≠ g.inf ∧ d i ≤ k)
  att : ∀ i, i < g.n → d i ≠ g.inf → g.src i (d i) ∨ ∃ j, j < g.n ∧ g.adj i j ∧ g.opn j ∧ d j ≠ g.inf ∧ d i = d j + g.c j

variable {g : Gr} {K Mx : Int} {T T' : Nat → Int → Prop} {at_ : Int} {M M' : Int → Nat → Prop} {d : Nat → Int}

theorem Inv.start (hsrc : ∀ i k, T i k ↔ g.src i k) (hM : ∀ k i, ¬ M k i) : Inv g K Mx T 0 M (fun _ => g.inf) where
  at0 := Int.le_refl _
  dle := fun _ _ => Int.le_refl _
  set_ := fun _ _ h => absurd rfl h
  M_ok := fun k i h => absurd h (hM k i)
  T_ok := fun i k h => (hsrc i k).1 h
  edge := fun _ _ h => absurd rfl h
  seed := fun i k h => .inl ((hsrc i k).2 h)
  att := fun _ _ h => absurd rfl h

/-- Nothing waits: the place where it stands goes on. -/
theorem Inv.jump (h : Inv g K Mx T at_ M d) (hM : ∀ k i, ¬ M k i) (hM' : ∀ k i, ¬ M' k i) {a : Int} (ha : at_ ≤ a) : Inv g K Mx T a M' d where
  at0 := by have := h.at0; omega
  dle := h.dle
  set_ := fun i hi hd => by have := h.set_ i hi hd; exact ⟨by omega, this.2⟩
  M_ok := fun k i hk => absurd hk (hM' k i)
  T_ok := h.T_ok
  edge := fun j hj hd i hi ha ho => by
    rcases h.edge j hj hd i hi ha ho with h1 | h1
    · exact .inl h1
    · exact absurd h1 (hM _ _)
  seed := fun i k hk => by
    rcases h.seed i k hk with h1 | h1 | h1
    · exact .inl h1
    · exact absurd h1 (hM _ _)
    · exact .inr (.inr h1)
  att := h.att

/-- What is told begins to wait. -/
theorem Inv.fill (h : Inv g K Mx T at_ M d) (hMx : 0 ≤ Mx) (hsrc : ∀ i k, g.src i k → i < g.n ∧ g.opn i ∧ k ≤ K) {i0 : Nat} {k0 : Int} (h0 : T i0 k0) (hk0 : at_ ≤ k0) (hT : ∀ i k, T i k → T' i k ∨ (i = i0 ∧ k = k0)) (hT' : ∀ i k, T' i k → T i k)
    (hM : ∀ k i, M' k i ↔ M k i ∨ (k = k0 ∧ i = i0)) : Inv g K Mx T' at_ M' d where
  at0 := h.at0
  dle := h.dle
  set_ := h.set_
  M_ok := fun k i hk => by
    rcases (hM k i).1 hk with h1 | ⟨rfl, rfl⟩
    · exact h.M_ok k i h1
    · have h2 := h.T_ok _ _ h0
      obtain ⟨h3, h4, h5⟩ := hsrc _ _ h2
      have h6 : 0 ≤ Mx * (known g.inf d g.n : Nat) := Int.mul_nonneg hMx (by omega)
      exact ⟨h3, h4, hk0, by omega, .inl h2⟩
  T_ok := fun i k hk => h.T_ok i k (hT' i k hk)
  edge := fun j hj hd i hi ha ho => by
    rcases h.edge j hj hd i hi ha ho with h1 | h1
    · exact .inl h1
    · exact .inr ((hM _ _).2 (.inl h1))
  seed := fun i k hk => by
    rcases h.seed i k hk with h1 | h1 | h1
    · rcases hT i k h1 with h2 | ⟨rfl, rfl⟩
      · exact .inl h2
      · exact .inr (.inl ((hM _ _).2 (.inr ⟨rfl, rfl⟩)))
    · exact .inr (.inl ((hM _ _).2 (.inl h1)))
    · exact .inr (.inr h1)
  att := h.att

/-- What is taken out is known already. -/
theorem Inv.old (h : Inv g K Mx T at_ M d) {k0 : Int} {i0 : Nat} (h0 : M k0 i0) (hd0 : d i0 ≠ g.inf) (hmin : ∀ k i, M k i → k0 ≤ k) (hM : ∀ k i, M k i → M' k i ∨ (k = k0 ∧ i = i0)) (hM' : ∀ k i, M' k i → M k i) : Inv g K Mx T k0 M' d where
  at0 := by have := h.at0; have := (h.M_ok _ _ h0).2.2.1; omega
  dle := h.dle
  set_ := fun i hi hd => by have := h.set_ i hi hd; have := (h.M_ok _ _ h0).2.2.1; exact ⟨by omega, by omega, (h.set_ i hi hd).2.2⟩
  M_ok := fun k i hk => by
    have h1 := h.M_ok k i (hM' k i hk)
    exact ⟨h1.1, h1.2.1, hmin k i (hM' k i hk), h1.2.2.2⟩
  T_ok := h.T_ok
  edge := fun j hj hd i hi ha ho => by
    rcases h.edge j hj hd i hi ha ho with h1 | h1
    · exact .inl h1
    · rcases hM _ _ h1 with h2 | ⟨h2, rfl⟩
      · exact .inr h2
      · have h3 := h.set_ i hi hd0
        have h4 := (h.M_ok _ _ h0).2.2.1
        exact .inl ⟨hd0, by omega⟩
  seed := fun i k hk => by
    rcases h.seed i k hk with h1 | h1 | h1
    · exact .inl h1
    · rcases hM _ _ h1 with h2 | ⟨h2, rfl⟩
      · exact .inr (.inl h2)
      · have h3 := h.set_ i (h.M_ok _ _ h0).1 hd0
        have h4 := (h.M_ok _ _ h0).2.2.1
        exact .inr (.inr ⟨hd0, by omega⟩)
    · exact .inr (.inr h1)
  att := h.att

/-- What is taken out is new: it is known from now on, and the cells beside it wait. -/
theorem Inv.new (h : Inv g K Mx T at_ M d) (hMx : 0 ≤ Mx) (hc : ∀ j, j < g.n → g.opn j → 0 ≤ g.c j ∧ g.c j ≤ Mx) (hinf : K + Mx * (g.n : Int) < g.inf) {k0 : Int} {i0 : Nat} (h0 : M k0 i0) (hd0 : d i0 = g.inf) (hmin : ∀ k i, M k i → k0 ≤ k)
    {M1 : Int → Nat → Prop} (hM : ∀ k i, M k i → M1 k i ∨ (k = k0 ∧ i = i0)) (hM1 : ∀ k i, M1 k i → M k i)
    (hM' : ∀ k i, M' k i ↔ M1 k i ∨ (k = k0 + g.c i0 ∧ i < g.n ∧ g.adj i i0 ∧ g.opn i ∧ upd d i0 k0 i = g.inf)) : Inv g K Mx T k0 M' (upd d i0 k0) ∧ k0 < g.inf := by
  obtain ⟨hi0, ho0, ha0, hb0, hs0⟩ := h.M_ok _ _ h0
  have hkn := known_le g.inf d g.n
  have hlt : k0 < g.inf := by
    have : Mx * (known g.inf d g.n : Nat) ≤ Mx * (g.n : Int) := Int.mul_le_mul_of_nonneg_left (by omega) hMx
    omega
  have hkn' := known_upd (inf := g.inf) (d := d) (k := k0) g.n hi0 hd0 (by omega)
  have hmx : Mx * ((known g.inf (upd d i0 k0) g.n : Nat) : Int) = Mx * (known g.inf d g.n : Nat) + Mx := by
    rw [hkn', Int.natCast_add, Int.mul_add]; simp
  have hat := h.at0
  refine ⟨{ at0 := by omega, dle := ?_, set_ := ?_, M_ok := ?_, T_ok := h.T_ok, edge := ?_, seed := ?_, att := ?_ }, hlt⟩
  · intro i hi
    by_cases e : i = i0
    · subst e; rw [upd_at]; omega
    · rw [upd_ne _ _ e]; exact h.dle i hi
  · intro i hi hd
    by_cases e : i = i0
    · subst e; rw [upd_at]; exact ⟨by omega, by omega, ho0⟩
    · rw [upd_ne _ _ e] at hd ⊢
      have := h.set_ i hi hd
      exact ⟨by omega, this.2⟩
  · intro k i hk
    rcases (hM' k i).1 hk with h1 | ⟨rfl, hi, hadj, ho, hd⟩
    · obtain ⟨a1, a2, a3, a4, a5⟩ := h.M_ok k i (hM1 k i h1)
      refine ⟨a1, a2, hmin k i (hM1 k i h1), by omega, ?_⟩
      rcases a5 with a5 | ⟨j, hj, hadj, hoj, hdj, e⟩
      · exact .inl a5
      · have hne : j ≠ i0 := fun e => hdj (e ▸ hd0)
        exact .inr ⟨j, hj, hadj, hoj, by rw [upd_ne _ _ hne]; exact hdj, by rw [upd_ne _ _ hne]; exact e⟩
    · have hc0 := hc i0 hi0 ho0
      refine ⟨hi, ho, by omega, by omega, .inr ⟨i0, hi0, hadj, ho0, by rw [upd_at]; omega, by rw [upd_at]⟩⟩
  · intro j hj hd i hi hadj ho
    by_cases e : j = i0
    · subst e
      rw [upd_at]
      by_cases hdi : upd d j k0 i = g.inf
      · exact .inr ((hM' _ _).2 (.inr ⟨rfl, hi, hadj, ho, hdi⟩))
      · refine .inl ⟨hdi, ?_⟩
        have hc0 := hc j hj ho0
        by_cases e : i = j
        · subst e; rw [upd_at]; omega
        · rw [upd_ne _ _ e] at hdi ⊢
          have := h.set_ i hi hdi
          omega
    · rw [upd_ne _ _ e] at hd ⊢
      rcases h.edge j hj hd i hi hadj ho with ⟨h1, h2⟩ | h1
      · have hne : i ≠ i0 := fun e => h1 (e ▸ hd0)
        exact .inl ⟨by rw [upd_ne _ _ hne]; exact h1, by rw [upd_ne _ _ hne]; exact h2⟩
      · rcases hM _ _ h1 with h2 | ⟨h2, rfl⟩
        · exact .inr ((hM' _ _).2 (.inl h2))
        · exact .inl ⟨by rw [upd_at]; omega, by rw [upd_at]; omega⟩
  · intro i k hk
    rcases h.seed i k hk with h1 | h1 | ⟨h1, h2⟩
    · exact .inl h1
    · rcases hM _ _ h1 with h2 | ⟨rfl, rfl⟩
      · exact .inr (.inl ((hM' _ _).2 (.inl h2)))
      · exact .inr (.inr ⟨by rw [upd_at]; omega, by rw [upd_at]; omega⟩)
    · have hne : i ≠ i0 := fun e => h1 (e ▸ hd0)
      exact .inr (.inr ⟨by rw [upd_ne _ _ hne]; exact h1, by rw [upd_ne _ _ hne]; exact h2⟩)
  · intro i hi hd
    by_cases e : i = i0
    · subst e
      rw [upd_at]
      rcases hs0 with a5 | ⟨j, hj, hadj, hoj, hdj, e⟩
      · exact .inl a5
      · have hne : j ≠ i := fun e => hdj (e ▸ hd0)
        exact .inr ⟨j, hj, hadj, hoj, by rw [upd_ne _ _ hne]; exact hdj, by rw [upd_ne _ _ hne]; exact e⟩
    · rw [upd_ne _ _ e] at hd ⊢
      rcases h.att i hi hd with a5 | ⟨j, hj, hadj, hoj, hdj, e⟩
      · exact .inl a5
      · have hne : j ≠ i0 := fun e => hdj (e ▸ hd0)
        exact .inr ⟨j, hj, hadj, hoj, by rw [upd_ne _ _ hne]; exact hdj, by rw [upd_ne _ _ hne]; exact e⟩

/-- Nothing waits, nothing is to be told: these are the least distances. -/
theorem Inv.done (h : Inv g K Mx T at_ M d) (hinf : 0 ≤ g.inf) (hc : ∀ j, j < g.n → g.opn j → 0 ≤ g.c j) (hT : ∀ i k, ¬ T i k) (hM : ∀ k i, ¬ M k i) : g.IsDist d := by
  refine ⟨fun i hi => ⟨h.dle i hi, fun ho => ⟨fun k hk => ?_, fun j hj hadj hoj => ?_⟩⟩, fun i hi => ?_⟩
  · rcases h.seed i k hk with h1 | h1 | h1
    · exact absurd h1 (hT _ _)
    · exact absurd h1 (hM _ _)
    · exact h1.2
  · by_cases e : d j = g.inf
    · have := hc j hj hoj; have := h.dle i hi; omega
    · rcases h.edge j hj e i hi hadj ho with h1 | h1
      · exact h1.2
      · exact absurd h1 (hM _ _)
  · by_cases e : d i = g.inf
    · exact ⟨by omega, .inl e⟩
    · obtain ⟨h1, h2, h3⟩ := h.set_ i hi e
      refine ⟨h2, .inr ⟨h3, ?_⟩⟩
      rcases h.att i hi e with a5 | ⟨j, hj, hadj, hoj, hdj, e⟩
      · exact .inl a5
      · exact .inr ⟨j, hj, hadj, hoj, e⟩
end Go.Proofs.Ytgcfcemgeppkmaa.Dist
