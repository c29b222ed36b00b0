/-
  PLAIN: the tile and the seeds of numbers; what lies over a side of a cell.
-/
import Derived.Test.YtgcfcemgeppkmaaXRefSeeds
import Derived.Test.YtgcfcemgeppkmaaPx2
import Derived.Test.YtgcfcemgeppkmaaPx2
import Derived.Test.YtgcfcemgeppkmaaPx5
namespace Go.Proofs.Ytgcfcemgeppkmaa.P
open Go.RowKit Go.Proofs.YtgcfcemgeppkmaaW.PrintWords Go.Proofs.YtgcfcemgeppkmaaW.PrintLast Go.Proofs.YtgcfcemgeppkmaaW.PrintMore
set_option linter.unusedVariables false
set_option linter.unusedSimpArgs false
theorem within_some (x : Int) {lo hi : Int} (h0 : lo ≤ hi) (h1 : -1000000 ≤ lo) (h2 : hi ≤ 1099511627776) : herdsmanref1_Within.f x lo hi = some (lo + x % (hi - lo + 1)) := by
  unfold herdsmanref1_Within.f
  have e1 : wrap64 (hi - lo) = hi - lo := w64 (by omega) (by omega)
  have e2 : wrap64 (hi - lo + 1) = hi - lo + 1 := w64 (by omega) (by omega)
  have hp := Int.emod_nonneg x (show hi - lo + 1 ≠ 0 by omega)
  have hq := Int.emod_lt_of_pos x (show 0 < hi - lo + 1 by omega)
  have ht := Int.tmod_eq_emod (a := x) (b := hi - lo + 1)
  have hna : ((hi - lo + 1).natAbs : Int) = hi - lo + 1 := by omega
  simp only [e1, e2]
  rw [if_neg (by omega)]
  by_cases hc : 0 ≤ x ∨ hi - lo + 1 ∣ x
  · rw [if_pos hc] at ht
    rw [show Int.tmod x (hi - lo + 1) = x % (hi - lo + 1) by omega, if_neg (by omega), w64 (by omega) (by omega)]
  · rw [if_neg hc, hna] at ht
    have hne : x % (hi - lo + 1) ≠ 0 := fun h => hc (.inr (Int.dvd_of_emod_eq_zero h))
    rw [show Int.tmod x (hi - lo + 1) = x % (hi - lo + 1) - (hi - lo + 1) by omega, if_pos (by omega)]
    generalize x % (hi - lo + 1) = m at *
    rw [w64 (n := m - (hi - lo + 1) + hi) (by omega) (by omega), w64 (n := m - (hi - lo + 1) + hi - lo) (by omega) (by omega), w64 (n := m - (hi - lo + 1) + hi - lo + 1) (by omega) (by omega), w64 (by omega) (by omega)]
    congr 1; omega
theorem cost_some {a : Int} (h : 0 ≤ a ∧ a ≤ 255) : ∃ r, herdsmanref1_Cost.f a = some r ∧ 1 ≤ r ∧ r ≤ 255 := by
  unfold herdsmanref1_Cost.f
  rw [tmod_nn h.1, tmod_nn h.1]
  split
  · exact ⟨255, rfl, by omega⟩
  · split
    · exact ⟨_, rfl, by omega⟩
    · exact ⟨_, rfl, by omega⟩
theorem made_loop {W H : Int} (hW : 1 ≤ W ∧ W ≤ 16) (hH : 1 ≤ H ∧ H ≤ 16) (c : List Int) (hc : ∀ x ∈ c, 0 ≤ x ∧ x ≤ 255) (hcl : c.length ≤ 140737488355328) : ∀ (d k : Nat) (acc : List Int), (acc.length : Int) + d = W * H → d < k → (∀ x ∈ acc, 1 ≤ x ∧ x ≤ 255) →
    ∃ C, herdsmanref1_MadeTile.l0 k c (acc.length : Int) W H acc = some (W, H, C) ∧ (C.length : Int) = W * H ∧ ∀ x ∈ C, 1 ≤ x ∧ x ≤ 255 := by
  have hm := mul_small hW hH
  intro d
  induction d with
  | zero =>
    intro k acc hl hk ha
    obtain ⟨k, rfl⟩ : ∃ m, k = m + 1 := ⟨k - 1, by omega⟩
    rw [herdsmanref1_MadeTile.l0, w64 (n := W * H) (by omega) (by omega), if_neg (by omega)]
    exact ⟨acc, rfl, by omega, ha⟩
  | succ d ih =>
    intro k acc hl hk ha
    obtain ⟨k, rfl⟩ : ∃ m, k = m + 1 := ⟨k - 1, by omega⟩
    have hstep : ∀ r, 1 ≤ r ∧ r ≤ 255 → ∃ C, (if acc.length < 140737488355328 then (herdsmanref1_MadeTile.l0 k c (wrap64 ((acc.length : Int) + 1)) W H (acc ++ [r])) else none) = some (W, H, C) ∧ (C.length : Int) = W * H ∧ ∀ x ∈ C, 1 ≤ x ∧ x ≤ 255 := by
      intro r hr
      rw [if_pos (by omega), w64 (by omega) (by omega)]
      have := ih k (acc ++ [r]) (by simp; omega) (by omega) (fun x hx => by
        rcases List.mem_append.1 hx with h | h
        · exact ha x h
        · rw [List.mem_singleton] at h; rw [h]; exact hr)
      simpa using this
    rw [herdsmanref1_MadeTile.l0, w64 (n := W * H) (by omega) (by omega), if_pos (by omega)]
    by_cases h0 : 0 < c.length
    · have hp := Int.ediv_nonneg (show 0 ≤ (acc.length : Int) by omega) (show 0 ≤ (c.length : Int) by omega)
      have hq := Int.ediv_le_self (c.length : Int) (show 0 ≤ (acc.length : Int) by omega)
      rw [if_pos (by omega), if_neg (by omega), tdiv_nn (by omega), w64 (n := (acc.length : Int) / c.length) (by omega) (by omega), w64 (n := (acc.length : Int) / c.length * 5) (by omega) (by omega), w64 (n := (acc.length : Int) + (acc.length : Int) / c.length * 5) (by omega) (by omega), tmod_nn (by omega)]
      have e0 := Int.emod_nonneg ((acc.length : Int) + (acc.length : Int) / c.length * 5) (show (c.length : Int) ≠ 0 by omega)
      have e1 := Int.emod_lt_of_pos ((acc.length : Int) + (acc.length : Int) / c.length * 5) (show 0 < (c.length : Int) by omega)
      generalize ((acc.length : Int) + (acc.length : Int) / c.length * 5) % c.length = j at *
      obtain ⟨j, rfl⟩ : ∃ n : Nat, j = (n : Int) := ⟨j.toNat, by omega⟩
      rw [if_pos e0, if_pos e1]
      have hj : j < c.length := by omega
      obtain ⟨r, hr, hr2⟩ := cost_some (hc (c[j]) (List.getElem_mem _))
      rw [rd_get c hj, hr, Option.bind_some]
      exact hstep r hr2
    · rw [if_neg (by omega)]
      obtain ⟨r, hr, hr2⟩ := cost_some (a := 1) (by omega)
      rw [hr, Option.bind_some]
      exact hstep r hr2
/-- The tile of numbers. -/
theorem madeTile_some (w h : Int) (c : List Int) (hc : ∀ x ∈ c, 0 ≤ x ∧ x ≤ 255) (hcl : c.length ≤ 140737488355328) : ∃ W H C, (∀ k, 300 ≤ k → herdsmanref1_MadeTile.f k w h c = some (W, H, C)) ∧ TileOk W H C ∧ ∀ x ∈ C, 0 ≤ x ∧ x ≤ 255 := by
  have h1 := Int.emod_nonneg w (show (16 : Int) - 1 + 1 ≠ 0 by omega)
  have h2 := Int.emod_lt_of_pos w (show (0 : Int) < 16 - 1 + 1 by omega)
  have h3 := Int.emod_nonneg h (show (16 : Int) - 1 + 1 ≠ 0 by omega)
  have h4 := Int.emod_lt_of_pos h (show (0 : Int) < 16 - 1 + 1 by omega)
  have hW : 1 ≤ 1 + w % (16 - 1 + 1) ∧ 1 + w % (16 - 1 + 1) ≤ 16 := by omega
  have hH : 1 ≤ 1 + h % (16 - 1 + 1) ∧ 1 + h % (16 - 1 + 1) ≤ 16 := by omega
  have hm := mul_small hW hH
  obtain ⟨d, hd⟩ : ∃ d : Nat, (d : Int) = (1 + w % (16 - 1 + 1)) * (1 + h % (16 - 1 + 1)) := ⟨((1 + w % (16 - 1 + 1)) * (1 + h % (16 - 1 + 1))).toNat, by omega⟩
  obtain ⟨C, hC, hl, hb⟩ := made_loop hW hH c hc hcl d 300 [] (by rw [← hd]; simp) (by omega) (fun x hx => by simp at hx)
  refine ⟨_, _, C, fun k hk => ?_, ⟨hW.1, hW.2, hH.1, hH.2, hl, fun h0 => by have := (hb 0 h0).1; omega⟩, fun x hx => by have := hb x hx; omega⟩
  unfold herdsmanref1_MadeTile.f
  rw [within_some w (by omega) (by omega) (by omega), within_some h (by omega) (by omega) (by omega), Option.bind_some, Option.bind_some]
  have hmono : ∀ n k, 300 + n = k → herdsmanref1_MadeTile.l0 k c 0 (1 + w % (16 - 1 + 1)) (1 + h % (16 - 1 + 1)) [] = some (1 + w % (16 - 1 + 1), 1 + h % (16 - 1 + 1), C) := by
    intro n
    induction n with
    | zero => rintro k rfl; exact hC
    | succ n ih => rintro k rfl; exact herdsmanref1_MadeTile.mono_l (300 + n) _ _ _ _ _ _ (ih _ rfl)
  exact hmono (k - 300) k (by omega)
theorem seeds_some {W H : Int} {C : List Int} (ht : TileOk W H C) (l : List Int) (hl : l.length ≤ 1000000) : herdsmanref7_Seeds.f W H C l = some (seedsOf W H C l) := by
  show refSeedsF W H C l = _
  unfold refSeedsF
  rw [if_pos ⟨ht, hl⟩]
theorem u8_wf {l : List Int} (h : ∀ x ∈ l, (Lit.int .u8 x).wf = true) : ∀ x ∈ l, 0 ≤ x ∧ x ≤ 255 := by
  intro x hx
  have := h x hx
  simp only [Lit.wf, Bool.and_eq_true, decide_eq_true_eq] at this
  exact ⟨this.1, this.2⟩
theorem full_some (C : List Int) (h0 : (0 : Int) ∉ C) (hl : C.length ≤ 1000) (k : Nat) (hk : C.length < k) : herdsmanref1_full.f k C = some true := by
  have key : ∀ (d i k : Nat), i + d = C.length → d < k → herdsmanref1_full.l0 k C (i : Int) = some true := by
    intro d
    induction d with
    | zero =>
      intro i k hi hk
      obtain ⟨k, rfl⟩ : ∃ m, k = m + 1 := ⟨k - 1, by omega⟩
      rw [herdsmanref1_full.l0, if_neg (by omega)]
    | succ d ih =>
      intro i k hi hk
      obtain ⟨k, rfl⟩ : ∃ m, k = m + 1 := ⟨k - 1, by omega⟩
      have hne : rd C (i : Int) ≠ 0 := by
        rw [rd_get C (show i < C.length by omega)]
        exact fun e => h0 (e ▸ List.getElem_mem _)
      rw [herdsmanref1_full.l0, if_pos (by omega), if_pos (by omega), if_neg hne, w64 (by omega) (by omega)]
      exact ih (i + 1) k (by omega) (by omega)
  exact key C.length 0 k (by omega) hk
theorem mayTile_some {W H : Int} {C : List Int} (ht : TileOk W H C) (k : Nat) (hk : 300 ≤ k) : herdsmanref1_MayTile.f k W H C = some true := by
  obtain ⟨a1, a2, a3, a4, a5, a6⟩ := ht
  have hm := mul_small ⟨a1, a2⟩ ⟨a3, a4⟩
  unfold herdsmanref1_MayTile.f
  rw [refIn_some, refIn_some, Option.bind_some, Option.bind_some, if_pos (by rw [decide_eq_true_eq]; omega), if_pos (by rw [decide_eq_true_eq]; omega), w64 (by omega) (by omega), if_pos a5, full_some C a6 (by omega) k (by omega), Option.bind_some]
/-- The cell over a side. -/
def nbS (W c s : Int) : Int := if s = 0 then c - W else if s = 1 then c + 1 else if s = 2 then c + W else if s = 3 then c - 1 else c
theorem step_val {W H c s : Int} (hW : 1 ≤ W ∧ W ≤ 16) (hH : 1 ≤ H ∧ H ≤ 16) (h0 : 0 ≤ c) (h1 : c < W * H) (hs : 0 ≤ s ∧ s ≤ 4) (k : Nat) : herdsmanref1_Step.f (k + 5) W H c s = some (if OutE W H c s then -1 else nbS W c s) := by
  have hm := mul_small hW hH
  have hd0 : 0 ≤ c / W := Int.ediv_nonneg h0 (by omega)
  have hdm := Int.mul_ediv_add_emod c W
  have hr0 : 0 ≤ c % W := Int.emod_nonneg _ (by omega)
  have hrW : c % W < W := Int.emod_lt_of_pos _ (by omega)
  have hdH : c / W < H := by
    rcases Int.lt_or_le (c / W) H with h | h
    · exact h
    · have := Int.mul_le_mul_of_nonneg_left (c := W) h (by omega)
      omega
  have hq : ∀ x y : Int, 0 ≤ x → 0 ≤ y → 0 ≤ y * W + x := fun x y hx hy => by have := Int.mul_nonneg hy (show 0 ≤ W by omega); omega
  have hq2 : ∀ x y : Int, x ≤ 16 → y ≤ 16 → y * W + x ≤ 1000 := fun x y hx hy => by
    have := Int.mul_le_mul_of_nonneg_right (c := W) hy (by omega)
    omega
  unfold herdsmanref1_Step.f
  rw [refIsCell_some hW hH h0 h1, Option.bind_some, if_pos rfl, refIn_some, Option.bind_some, decide_eq_true hs]
  rw [herdsmanref1_Step.j0, tdiv_nn h0, tmod_nn h0, w64 (n := c / W) (by omega) (by omega), w64 (n := c / W - 1) (by omega) (by omega)]
  rw [if_neg (by simp), if_neg (by omega)]
  have hj4 : ∀ x y : Int, -1 ≤ x → x ≤ W → -1 ≤ y → y ≤ H → ((x < 0 ∨ W ≤ x ∨ y < 0 ∨ H ≤ y) ↔ OutE W H c s) → (¬ OutE W H c s → y * W + x = nbS W c s) → herdsmanref1_Step.j4 (k + 1) W H x y = some (if OutE W H c s then -1 else nbS W c s) := by
    intro x y hx1 hx2 hy1 hy2 ho hv
    rw [herdsmanref1_Step.j4, refIn_some, refIn_some, Option.bind_some, Option.bind_some, w64 (n := W - 1) (by omega) (by omega), w64 (n := H - 1) (by omega) (by omega)]
    by_cases hx : 0 ≤ x ∧ x ≤ W - 1
    · rw [decide_eq_true hx, if_pos rfl]
      by_cases hy : 0 ≤ y ∧ y ≤ H - 1
      · rw [decide_eq_true hy, if_pos rfl]
        have e1 := hq x y hx.1 hy.1
        have e2 := hq2 x y (by omega) (by omega)
        have e3 := hq 0 y (by omega) hy.1
        have e4 := hq2 0 y (by omega) (by omega)
        have hno : ¬ OutE W H c s := fun h => by have := ho.2 h; omega
        rw [w64 (n := y * W) (by omega) (by omega), w64 (by omega) (by omega), if_neg hno, hv hno]
      · rw [decide_eq_false hy, if_neg (by simp), if_pos (ho.1 (by omega))]
    · rw [decide_eq_false hx, if_neg (by simp), if_pos (ho.1 (by omega))]
  have hcW : c / W * W + c % W = c := by rw [Int.mul_comm]; exact hdm
  have hs5 : s = 0 ∨ s = 1 ∨ s = 2 ∨ s = 3 ∨ s = 4 := by omega
  rcases hs5 with rfl | rfl | rfl | rfl | rfl
  · rw [if_pos rfl]
    rw [herdsmanref1_Step.j1, if_neg (by decide), herdsmanref1_Step.j2, if_neg (by decide), herdsmanref1_Step.j3, if_neg (by decide)]
    exact hj4 _ _ (by omega) (by omega) (by omega) (by omega) (by unfold OutE; omega) (fun _ => by rw [Int.sub_mul]; unfold nbS; omega)
  · rw [if_neg (by decide)]
    rw [herdsmanref1_Step.j1, if_pos rfl, herdsmanref1_Step.j2, if_neg (by decide), herdsmanref1_Step.j3, if_neg (by decide), w64 (by omega) (by omega)]
    exact hj4 _ _ (by omega) (by omega) (by omega) (by omega) (by unfold OutE; omega) (fun _ => by unfold nbS; omega)
  · rw [if_neg (by decide)]
    rw [herdsmanref1_Step.j1, if_neg (by decide), herdsmanref1_Step.j2, if_pos rfl, herdsmanref1_Step.j3, if_neg (by decide), w64 (by omega) (by omega)]
    exact hj4 _ _ (by omega) (by omega) (by omega) (by omega) (by unfold OutE; omega) (fun _ => by rw [Int.add_mul]; unfold nbS; omega)
  · rw [if_neg (by decide)]
    rw [herdsmanref1_Step.j1, if_neg (by decide), herdsmanref1_Step.j2, if_neg (by decide), herdsmanref1_Step.j3, if_pos rfl, w64 (by omega) (by omega)]
    exact hj4 _ _ (by omega) (by omega) (by omega) (by omega) (by unfold OutE; omega) (fun _ => by unfold nbS; omega)
  · rw [if_neg (by decide)]
    rw [herdsmanref1_Step.j1, if_neg (by decide), herdsmanref1_Step.j2, if_neg (by decide), herdsmanref1_Step.j3, if_neg (by decide)]
    exact hj4 _ _ (by omega) (by omega) (by omega) (by omega) (by unfold OutE; omega) (fun _ => by unfold nbS; omega)
theorem near_some {W H : Int} {C : List Int} (ht : TileOk W H C) {i : Nat} (hi : i < C.length) {s : Int} (hs : 0 ≤ s ∧ s ≤ 4) (k : Nat) (hk : 300 ≤ k) : herdsmanref1_Near.f k W H C (i : Int) s = some (if OutE W H i s then -1 else nbS W i s) := by
  obtain ⟨k, rfl⟩ : ∃ m, k = m + 5 := ⟨k - 5, by omega⟩
  have a := ht
  obtain ⟨a1, a2, a3, a4, a5, a6⟩ := a
  have hm := mul_small ⟨a1, a2⟩ ⟨a3, a4⟩
  unfold herdsmanref1_Near.f
  rw [mayTile_some ht _ hk, Option.bind_some, if_pos rfl, refIn_some, Option.bind_some, w64 (by omega) (by omega), if_pos (by rw [decide_eq_true_eq]; omega), step_val ⟨a1, a2⟩ ⟨a3, a4⟩ (by omega) (by omega) hs k, Option.bind_some]
theorem fullA (C : List Int) (hl : C.length ≤ 1000) (k : Nat) (hk : C.length < k) : herdsmanref1_full.f k C = some (decide ((0 : Int) ∉ C)) := by
  have key : ∀ (d i k : Nat), i + d = C.length → d < k → herdsmanref1_full.l0 k C (i : Int) = some (decide ((0 : Int) ∉ C.drop i)) := by
    intro d
    induction d with
    | zero =>
      intro i k hi hk
      obtain ⟨k, rfl⟩ : ∃ m, k = m + 1 := ⟨k - 1, by omega⟩
      rw [herdsmanref1_full.l0, if_neg (by omega), List.drop_eq_nil_of_le (by omega)]
      simp
    | succ d ih =>
      intro i k hi hk
      obtain ⟨k, rfl⟩ : ∃ m, k = m + 1 := ⟨k - 1, by omega⟩
      have hil : i < C.length := by omega
      rw [herdsmanref1_full.l0, if_pos (by omega), if_pos (by omega), rd_get C hil, w64 (n := (i : Int) + 1) (by omega) (by omega), List.drop_eq_getElem_cons hil]
      by_cases h0 : C[i] = 0
      · rw [if_pos h0]
        exact congrArg some (decide_eq_false (by simp [h0])).symm
      · rw [if_neg h0]
        refine (ih (i + 1) k (by omega) (by omega)).trans (congrArg some (decide_eq_decide.2 ?_))
        rw [List.mem_cons, not_or]
        exact ⟨fun h => ⟨fun e => h0 e.symm, h⟩, fun h => h.2⟩
  have := key C.length 0 k (by omega) hk
  rw [List.drop_zero] at this
  exact this
theorem mayTileA (W H : Int) (C : List Int) (hl : C.length ≤ 1000) (k : Nat) (hk : 1001 ≤ k) : herdsmanref1_MayTile.f k W H C = some (decide (TileOk W H C)) := by
  unfold herdsmanref1_MayTile.f
  rw [refIn_some, refIn_some, Option.bind_some, Option.bind_some]
  by_cases hW : 1 ≤ W ∧ W ≤ 16
  · rw [if_pos (decide_eq_true hW)]
    by_cases hH : 1 ≤ H ∧ H ≤ 16
    · have hm := mul_small hW hH
      rw [if_pos (decide_eq_true hH), w64 (by omega) (by omega)]
      by_cases hc : (C.length : Int) = W * H
      · rw [if_pos hc, fullA C hl k (by omega), Option.bind_some]
        exact congrArg some (decide_eq_decide.2 ⟨fun h => ⟨hW.1, hW.2, hH.1, hH.2, hc, h⟩, fun h => h.2.2.2.2.2⟩)
      · rw [if_neg hc]
        exact congrArg some (decide_eq_false (fun h => hc h.2.2.2.2.1)).symm
    · rw [if_neg (by simpa using hH)]
      exact congrArg some (decide_eq_false (fun h => hH ⟨h.2.2.1, h.2.2.2.1⟩)).symm
  · rw [if_neg (by simpa using hW)]
    exact congrArg some (decide_eq_false (fun h => hW ⟨h.1, h.2.1⟩)).symm
end Go.Proofs.Ytgcfcemgeppkmaa.P
