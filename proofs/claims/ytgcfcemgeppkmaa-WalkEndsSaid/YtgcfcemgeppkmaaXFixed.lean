/-
  PLAIN: the cell beside one, as the laws' own helper tells it. PLAIN: distances come about by the four sides; a way never costs less.
-/
import Derived.Test.YtgcfcemgeppkmaaXRefSeedsP
import Derived.Test.YtgcfcemgeppkmaaPx1
import Derived.Test.YtgcfcemgeppkmaaXLawS
namespace Go.Proofs.Ytgcfcemgeppkmaa.P
open Go.RowKit Go.Proofs.YtgcfcemgeppkmaaW.PrintWords Go.Proofs.YtgcfcemgeppkmaaW.PrintLast Go.Proofs.YtgcfcemgeppkmaaW.PrintMore
set_option linter.unusedVariables false
set_option linter.unusedSimpArgs false

theorem full_some (C : List Int) (h0 : (0 : Int) ∉ C) (hl : C.length ≤ 1000) (k : Nat) (hk : C.length < k) : herdsmanref1_full.f k C = some true := by
  have key : ∀ (d i k : Nat), i + d = C.length → d < k → herdsmanref1_full.l0 k C (i : Int) = some true := by
    intro d
    induction d with
    | zero =>
      intro i k hi hk
      obtain ⟨k, rfl⟩ : ∃ m, k = m + 1 := ⟨k - 1, by omega⟩
      rw [herdsmanref1_full.l0, if_neg (by omega)]
    | succ d ih =>
      intro i k hi hk
      obtain ⟨k, rfl⟩ : ∃ m, k = m + 1 := ⟨k - 1, by omega⟩
      have hne : rd C (i : Int) ≠ 0 := by
        rw [rd_get C (show i < C.length by omega)]
        exact fun e => h0 (e ▸ List.getElem_mem _)
      rw [herdsmanref1_full.l0, if_pos (by omega), if_pos (by omega), if_neg hne, w64 (by omega) (by omega)]
      exact ih (i + 1) k (by omega) (by omega)
  exact key C.length 0 k (by omega) hk
theorem mayTile_some {W H : Int} {C : List Int} (ht : TileOk W H C) (k : Nat) (hk : 300 ≤ k) : herdsmanref1_MayTile.f k W H C = some true := by
  obtain ⟨a1, a2, a3, a4, a5, a6⟩ := ht
  have hm := mul_small ⟨a1, a2⟩ ⟨a3, a4⟩
  unfold herdsmanref1_MayTile.f
  rw [refIn_some, refIn_some, Option.bind_some, Option.bind_some, if_pos (by rw [decide_eq_true_eq]; omega), if_pos (by rw [decide_eq_true_eq]; omega), w64 (by omega) (by omega), if_pos a5, full_some C a6 (by omega) k (by omega), Option.bind_some]
/-- The cell over a side. -/
def nbS (W c s : Int) : Int := if s = 0 then c - W else if s = 1 then c + 1 else if s = 2 then c + W else if s = 3 then c - 1 else c
theorem step_val {W H c s : Int} (hW : 1 ≤ W ∧ W ≤ 16) (hH : 1 ≤ H ∧ H ≤ 16) (h0 : 0 ≤ c) (h1 : c < W * H) (hs : 0 ≤ s ∧ s ≤ 4) (k : Nat) : herdsmanref1_Step.f (k + 5) W H c s = some (if OutE W H c s then -1 else nbS W c s) := by
  have hm := mul_small hW hH
  have hd0 : 0 ≤ c / W := Int.ediv_nonneg h0 (by omega)
  have hdm := Int.mul_ediv_add_emod c W
  have hr0 : 0 ≤ c % W := Int.emod_nonneg _ (by omega)
  have hrW : c % W < W := Int.emod_lt_of_pos _ (by omega)
  have hdH : c / W < H := by
    rcases Int.lt_or_le (c / W) H with h | h
    · exact h
    · have := Int.mul_le_mul_of_nonneg_left (c := W) h (by omega)
      omega
  have hq : ∀ x y : Int, 0 ≤ x → 0 ≤ y → 0 ≤ y * W + x := fun x y hx hy => by have := Int.mul_nonneg hy (show 0 ≤ W by omega); omega
  have hq2 : ∀ x y : Int, x ≤ 16 → y ≤ 16 → y * W + x ≤ 1000 := fun x y hx hy => by
    have := Int.mul_le_mul_of_nonneg_right (c := W) hy (by omega)
    omega
  unfold herdsmanref1_Step.f
  rw [refIsCell_some hW hH h0 h1, Option.bind_some, if_pos rfl, refIn_some, Option.bind_some, decide_eq_true hs]
  rw [herdsmanref1_Step.j0, tdiv_nn h0, tmod_nn h0, w64 (n := c / W) (by omega) (by omega), w64 (n := c / W - 1) (by omega) (by omega)]
  rw [if_neg (by simp), if_neg (by omega)]
  have hj4 : ∀ x y : Int, -1 ≤ x → x ≤ W → -1 ≤ y → y ≤ H → ((x < 0 ∨ W ≤ x ∨ y < 0 ∨ H ≤ y) ↔ OutE W H c s) → (¬ OutE W H c s → y * W + x = nbS W c s) → herdsmanref1_Step.j4 (k + 1) W H x y = some (if OutE W H c s then -1 else nbS W c s) := by
    intro x y hx1 hx2 hy1 hy2 ho hv
    rw [herdsmanref1_Step.j4, refIn_some, refIn_some, Option.bind_some, Option.bind_some, w64 (n := W - 1) (by omega) (by omega), w64 (n := H - 1) (by omega) (by omega)]
    by_cases hx : 0 ≤ x ∧ x ≤ W - 1
    · rw [decide_eq_true hx, if_pos rfl]
      by_cases hy : 0 ≤ y ∧ y ≤ H - 1
      · rw [decide_eq_true hy, if_pos rfl]
        have e1 := hq x y hx.1 hy.1
        have e2 := hq2 x y (by omega) (by omega)
        have e3 := hq 0 y (by omega) hy.1
        have e4 := hq2 0 y (by omega) (by omega)
        have hno : ¬ OutE W H c s := fun h => by have := ho.2 h; omega
        rw [w64 (n := y * W) (by omega) (by omega), w64 (by omega) (by omega), if_neg hno, hv hno]
      · rw [decide_eq_false hy, if_neg (by simp), if_pos (ho.1 (by omega))]
    · rw [decide_eq_false hx, if_neg (by simp), if_pos (ho.1 (by omega))]
  have hcW : c / W * W + c % W = c := by rw [Int.mul_comm]; exact hdm
  have hs5 : s = 0 ∨ s = 1 ∨ s = 2 ∨ s = 3 ∨ s = 4 := by omega
  rcases hs5 with rfl | rfl | rfl | rfl | rfl
  · rw [if_pos rfl]
    rw [herdsmanref1_Step.j1, if_neg (by decide), herdsmanref1_Step.j2, if_neg (by decide), herdsmanref1_Step.j3, if_neg (by decide)]
    exact hj4 _ _ (by omega) (by omega) (by omega) (by omega) (by unfold OutE; omega) (fun _ => by rw [Int.sub_mul]; unfold nbS; omega)
  · rw [if_neg (by decide)]
    rw [herdsmanref1_Step.j1, if_pos rfl, herdsmanref1_Step.j2, if_neg (by decide), herdsmanref1_Step.j3, if_neg (by decide), w64 (by omega) (by omega)]
    exact hj4 _ _ (by omega) (by omega) (by omega) (by omega) (by unfold OutE; omega) (fun _ => by unfold nbS; omega)
  · rw [if_neg (by decide)]
    rw [herdsmanref1_Step.j1, if_neg (by decide), herdsmanref1_Step.j2, if_pos rfl, herdsmanref1_Step.j3, if_neg (by decide), w64 (by omega) (by omega)]
    exact hj4 _ _ (by omega) (by omega) (by omega) (by omega) (by unfold OutE; omega) (fun _ => by rw [Int.add_mul]; unfold nbS; omega)
  · rw [if_neg (by decide)]
    rw [herdsmanref1_Step.j1, if_neg (by decide), herdsmanref1_Step.j2, if_neg (by decide), herdsmanref1_Step.j3, if_pos rfl, w64 (by omega) (by omega)]
    exact hj4 _ _ (by omega) (by omega) (by omega) (by omega) (by unfold OutE; omega) (fun _ => by unfold nbS; omega)
  · rw [if_neg (by decide)]
    rw [herdsmanref1_Step.j1, if_neg (by decide), herdsmanref1_Step.j2, if_neg (by decide), herdsmanref1_Step.j3, if_neg (by decide)]
    exact hj4 _ _ (by omega) (by omega) (by omega) (by omega) (by unfold OutE; omega) (fun _ => by unfold nbS; omega)
theorem near_some {W H : Int} {C : List Int} (ht : TileOk W H C) {i : Nat} (hi : i < C.length) {s : Int} (hs : 0 ≤ s ∧ s ≤ 4) (k : Nat) (hk : 300 ≤ k) : herdsmanref1_Near.f k W H C (i : Int) s = some (if OutE W H i s then -1 else nbS W i s) := by
  obtain ⟨k, rfl⟩ : ∃ m, k = m + 5 := ⟨k - 5, by omega⟩
  have a := ht
  obtain ⟨a1, a2, a3, a4, a5, a6⟩ := a
  have hm := mul_small ⟨a1, a2⟩ ⟨a3, a4⟩
  unfold herdsmanref1_Near.f
  rw [mayTile_some ht _ hk, Option.bind_some, if_pos rfl, refIn_some, Option.bind_some, w64 (by omega) (by omega), if_pos (by rw [decide_eq_true_eq]; omega), step_val ⟨a1, a2⟩ ⟨a3, a4⟩ (by omega) (by omega) hs k, Option.bind_some]
end Go.Proofs.Ytgcfcemgeppkmaa.P
namespace Go.Proofs.Ytgcfcemgeppkmaa.P
open Go.RowKit Go.Proofs.YtgcfcemgeppkmaaW.PrintWords Go.Proofs.YtgcfcemgeppkmaaW.PrintLast Go.Proofs.YtgcfcemgeppkmaaW.PrintMore
open Go.Proofs.Ytgcfcemgeppkmaa.Dist
set_option linter.unusedVariables false
set_option linter.unusedSimpArgs false

/-- The cell over a side lies there, and is beside. -/
theorem nb_in {W H c s : Int} {n : Nat} (hW : 1 ≤ W ∧ W ≤ 16) (hH : 1 ≤ H ∧ H ≤ 16) (hn : (n : Int) = W * H) (h0 : 0 ≤ c) (h1 : c < n) (hs : 0 ≤ s ∧ s ≤ 3) (ho : ¬ OutE W H c s) : 0 ≤ nbS W c s ∧ nbS W c s < n ∧ AdjT W c (nbS W c s) := by
  have hm := mul_small hW hH
  have hd0 : 0 ≤ c / W := Int.ediv_nonneg h0 (by omega)
  have hdm := Int.mul_ediv_add_emod c W
  have hr0 : 0 ≤ c % W := Int.emod_nonneg _ (by omega)
  have hrW : c % W < W := Int.emod_lt_of_pos _ (by omega)
  have hge : ∀ k : Int, k ≤ c / W → W * k ≤ W * (c / W) := fun k hk => Int.mul_le_mul_of_nonneg_left hk (by omega)
  have hle : ∀ k : Int, c / W ≤ k → W * (c / W) ≤ W * k := fun k hk => Int.mul_le_mul_of_nonneg_left hk (by omega)
  have hdH : c / W < H := by
    rcases Int.lt_or_le (c / W) H with h | h
    · exact h
    · have := hge H h
      omega
  unfold OutE at ho
  rcases (show s = 0 ∨ s = 1 ∨ s = 2 ∨ s = 3 by omega) with rfl | rfl | rfl | rfl
  · have h2 := hge 1 (by omega)
    simp only [nbS, if_true]
    unfold AdjT
    omega
  · have h2 := hle (H - 1) (by omega)
    rw [Int.mul_sub, Int.mul_one] at h2
    rw [show nbS W c 1 = c + 1 by simp [nbS]]
    unfold AdjT
    omega
  · have h2 := hle (H - 2) (by omega)
    rw [Int.mul_sub] at h2
    rw [show nbS W c 2 = c + W by simp [nbS]]
    unfold AdjT
    omega
  · rw [show nbS W c 3 = c - 1 by simp [nbS]]
    have hq : 0 ≤ W * (c / W) := Int.mul_nonneg (by omega) hd0
    unfold AdjT
    omega
/-- What is beside a cell lies over a side. -/
theorem nb_of {W H c j : Int} {n : Nat} (hW : 1 ≤ W ∧ W ≤ 16) (hH : 1 ≤ H ∧ H ≤ 16) (hn : (n : Int) = W * H) (h0 : 0 ≤ c) (h1 : c < n) (hj0 : 0 ≤ j) (hj1 : j < n) (ha : AdjT W c j) : ∃ s, (0 ≤ s ∧ s ≤ 3) ∧ ¬ OutE W H c s ∧ nbS W c s = j := by
  have hm := mul_small hW hH
  have hd0 : 0 ≤ c / W := Int.ediv_nonneg h0 (by omega)
  have hdm := Int.mul_ediv_add_emod c W
  have hr0 : 0 ≤ c % W := Int.emod_nonneg _ (by omega)
  have hrW : c % W < W := Int.emod_lt_of_pos _ (by omega)
  unfold AdjT at ha
  rcases ha with h | h | h | h
  · refine ⟨0, by omega, ?_, by unfold nbS; rw [if_pos rfl]; omega⟩
    unfold OutE
    rintro (⟨_, h2⟩ | ⟨h2, _⟩ | ⟨h2, _⟩ | ⟨h2, _⟩)
    · rw [h2] at hdm; omega
    all_goals omega
  · refine ⟨1, by omega, ?_, by simp [nbS]; omega⟩
    unfold OutE
    omega
  · refine ⟨2, by omega, ?_, by simp [nbS]; omega⟩
    unfold OutE
    rintro (⟨h2, _⟩ | ⟨h2, _⟩ | ⟨_, h2⟩ | ⟨h2, _⟩)
    · omega
    · omega
    · rw [h2, Int.mul_sub, Int.mul_one] at hdm; omega
    · omega
  · refine ⟨3, by omega, ?_, by simp [nbS]; omega⟩
    unfold OutE
    omega

/-- The least of what seeds say. -/
def seedMin (l : List Seed) (i m : Int) : Int := l.foldl (fun m x => if x.f0 = i then min m x.f2 else m) m
theorem seedMin_le (l : List Seed) (i m : Int) : seedMin l i m ≤ m := by
  unfold seedMin
  induction l generalizing m with
  | nil => exact Int.le_refl _
  | cons y r ih =>
    rw [List.foldl_cons]
    have := ih (if y.f0 = i then min m y.f2 else m)
    split at this <;> split <;> omega
theorem seedMin_mem (l : List Seed) (i m : Int) (x : Seed) (hx : x ∈ l) (hi : x.f0 = i) : seedMin l i m ≤ x.f2 := by
  induction l generalizing m with
  | nil => simp at hx
  | cons y r ih =>
    rcases List.mem_cons.1 hx with rfl | hx
    · have := seedMin_le r i (if x.f0 = i then min m x.f2 else m)
      unfold seedMin at *
      rw [List.foldl_cons]
      rw [if_pos hi] at *
      omega
    · have := ih (if y.f0 = i then min m y.f2 else m) hx
      unfold seedMin at *
      rw [List.foldl_cons]
      exact this
theorem le_seedMin (l : List Seed) (i m d : Int) (hm : d ≤ m) (h : ∀ x, x ∈ l → x.f0 = i → d ≤ x.f2) : d ≤ seedMin l i m := by
  induction l generalizing m with
  | nil => exact hm
  | cons y r ih =>
    unfold seedMin
    rw [List.foldl_cons]
    refine ih _ ?_ (fun x hx => h x (by simp [hx]))
    split
    · rename_i e
      have := h y (by simp) e
      omega
    · exact hm
/-- What is told over one side. -/
def sideMin (W H : Int) (C D : List Int) (i s m : Int) : Int := if OutE W H i s then m else if rd C (nbS W i s) = 255 then m else min m (rd D (nbS W i s) + rd C (nbS W i s))
def sidesMin (W H : Int) (C D : List Int) (i m : Int) : Int := sideMin W H C D i 3 (sideMin W H C D i 2 (sideMin W H C D i 1 (sideMin W H C D i 0 m)))

/-- Over an open side no cell is nearer than by it. -/
theorem dist_side {W H : Int} {C : List Int} (hb : ∀ x ∈ C, 0 ≤ x ∧ x ≤ 255) {l : List Seed} (h : SeedsOk W H C l) {i : Nat} (hi : i < C.length) (ho : rd C i ≠ 255) {s : Int} (hs : 0 ≤ s ∧ s ≤ 3) (hs' : ¬ OutE W H i s) (hno : rd C (nbS W i s) ≠ 255) :
    ∃ j : Nat, j < C.length ∧ (j : Int) = nbS W i s ∧ rd (distOf W C l) i ≤ rd (distOf W C l) j + rd C j := by
  obtain ⟨a1, a2, a3, a4, a5, a6⟩ := h.1
  obtain ⟨b0, b1, b2⟩ := nb_in ⟨a1, a2⟩ ⟨a3, a4⟩ a5 (show (0 : Int) ≤ (i : Int) by omega) (by omega) hs hs'
  obtain ⟨j, hj⟩ : ∃ j : Nat, (j : Int) = nbS W i s := ⟨(nbS W i s).toNat, by omega⟩
  rw [← hj] at b1 b2 hno
  exact ⟨j, by omega, hj, (((distOf_spec hb h).2.1 i hi).2 ho).2 j (show j < C.length by omega) b2 hno⟩

theorem fixed_open {W H : Int} {C : List Int} (hb : ∀ x ∈ C, 0 ≤ x ∧ x ≤ 255) {l : List Seed} (h : SeedsOk W H C l) {i : Nat} (hi : i < C.length) (ho : rd C i ≠ 255) :
    rd (distOf W C l) i = min (sidesMin W H C (distOf W C l) i (seedMin l i INF)) INF := by
  obtain ⟨a1, a2, a3, a4, a5, a6⟩ := h.1
  have hD := distOf_spec hb h
  have hU := hD.2.1 i hi
  have hA := hD.2.2 i hi
  have h1 : rd (distOf W C l) i ≤ INF := hU.1
  have h2 : rd (distOf W C l) i ≤ seedMin l i INF := le_seedMin _ _ _ _ h1 (fun x hx hxi => (hU.2 ho).1 _ ⟨x, hx, hxi, rfl⟩)
  have hside : ∀ s m, 0 ≤ s ∧ s ≤ 3 → rd (distOf W C l) i ≤ m → rd (distOf W C l) i ≤ sideMin W H C (distOf W C l) i s m := by
    intro s m hs hm
    unfold sideMin
    split
    · exact hm
    · rename_i hs'
      split
      · exact hm
      · rename_i hno
        obtain ⟨j, hj, hje, hle⟩ := dist_side hb h hi ho hs hs' hno
        rw [← hje]
        omega
  have hdec : ∀ s m, sideMin W H C (distOf W C l) i s m ≤ m := by
    intro s m
    unfold sideMin
    split
    · exact Int.le_refl _
    · split
      · exact Int.le_refl _
      · exact Int.min_le_left _ _
  have hup : rd (distOf W C l) i ≤ sidesMin W H C (distOf W C l) i (seedMin l i INF) := hside 3 _ (by omega) (hside 2 _ (by omega) (hside 1 _ (by omega) (hside 0 _ (by omega) h2)))
  have d0 := hdec 0 (seedMin l i INF)
  have d1 := hdec 1 (sideMin W H C (distOf W C l) i 0 (seedMin l i INF))
  have d2 := hdec 2 (sideMin W H C (distOf W C l) i 1 (sideMin W H C (distOf W C l) i 0 (seedMin l i INF)))
  have d3 := hdec 3 (sideMin W H C (distOf W C l) i 2 (sideMin W H C (distOf W C l) i 1 (sideMin W H C (distOf W C l) i 0 (seedMin l i INF))))
  have hlow : min (sidesMin W H C (distOf W C l) i (seedMin l i INF)) INF ≤ rd (distOf W C l) i := by
    rcases hA.2 with e | ⟨_, ⟨x, hx, hxi, hxk⟩ | ⟨j, hj, hadj, hoj, e⟩⟩
    · have e' : rd (distOf W C l) i = INF := e
      omega
    · have e1 := seedMin_mem l i INF x hx hxi
      have e2 : x.f2 = rd (distOf W C l) i := hxk
      unfold sidesMin
      omega
    · have e' : rd (distOf W C l) i = rd (distOf W C l) j + rd C j := e
      have hoj' : rd C (j : Int) ≠ 255 := hoj
      have hj' : j < C.length := hj
      obtain ⟨s, hs, hs', hje⟩ := nb_of ⟨a1, a2⟩ ⟨a3, a4⟩ a5 (show (0 : Int) ≤ (i : Int) by omega) (by omega) (show (0 : Int) ≤ (j : Int) by omega) (by omega) hadj
      have hv : ∀ m, sideMin W H C (distOf W C l) i s m ≤ rd (distOf W C l) i := by
        intro m
        unfold sideMin
        rw [if_neg hs', hje, if_neg hoj', e']
        exact Int.min_le_right _ _
      unfold sidesMin
      rcases (show s = 0 ∨ s = 1 ∨ s = 2 ∨ s = 3 by omega) with rfl | rfl | rfl | rfl
      · have := hv (seedMin l i INF); omega
      · have := hv (sideMin W H C (distOf W C l) i 0 (seedMin l i INF)); omega
      · have := hv (sideMin W H C (distOf W C l) i 1 (sideMin W H C (distOf W C l) i 0 (seedMin l i INF))); omega
      · have := hv (sideMin W H C (distOf W C l) i 2 (sideMin W H C (distOf W C l) i 1 (sideMin W H C (distOf W C l) i 0 (seedMin l i INF)))); omega
  omega
theorem fixed_wall {W H : Int} {C : List Int} (hb : ∀ x ∈ C, 0 ≤ x ∧ x ≤ 255) {l : List Seed} (h : SeedsOk W H C l) {i : Nat} (hi : i < C.length) (ho : rd C i = 255) : rd (distOf W C l) i = INF := by
  rcases ((distOf_spec hb h).2.2 i hi).2 with e | ⟨ho', _⟩
  · exact e
  · exact absurd ho ho'
/-- How great and small distances are. -/
theorem dist_range {W H : Int} {C : List Int} (hb : ∀ x ∈ C, 0 ≤ x ∧ x ≤ 255) {l : List Seed} (h : SeedsOk W H C l) {i : Nat} (hi : i < C.length) : 0 ≤ rd (distOf W C l) i ∧ rd (distOf W C l) i ≤ INF :=
  ⟨((distOf_spec hb h).2.2 i hi).1, ((distOf_spec hb h).2.1 i hi).1⟩
end Go.Proofs.Ytgcfcemgeppkmaa.P
