/-
  PLAIN: the tile and the seeds of numbers; what lies over a side of a cell.
-/
import Derived.Test.YtgcfcemgeppkmaaXRefSeeds
import Derived.Test.YtgcfcemgeppkmaaPx12
import Derived.Test.YtgcfcemgeppkmaaPx12
import Derived.Test.YtgcfcemgeppkmaaPx14
namespace Go.Proofs.Ytgcfcemgeppkmaa.P
open Go.RowKit Go.Proofs.YtgcfcemgeppkmaaW.PrintWords Go.Proofs.YtgcfcemgeppkmaaW.PrintLast Go.Proofs.YtgcfcemgeppkmaaW.PrintMore
set_option linter.unusedVariables false
set_option linter.unusedSimpArgs false
theorem u8_wf {l : List Int} (h : ∀ x ∈ l, (Lit.int .u8 x).wf = true) : ∀ x ∈ l, 0 ≤ x ∧ x ≤ 255 := by
  intro x hx
  have := h x hx
  simp only [Lit.wf, Bool.and_eq_true, decide_eq_true_eq] at this
  exact ⟨this.1, this.2⟩
theorem full_some (C : List Int) (h0 : (0 : Int) ∉ C) (hl : C.length ≤ 1000) (k : Nat) (hk : C.length < k) : herdsmanref1_full.f k C = some true := by
  have key : ∀ (d i k : Nat), i + d = C.length → d < k → herdsmanref1_full.l0 k C (i : Int) = some true := by
    intro d
    induction d with
    | zero =>
      intro i k hi hk
      obtain ⟨k, rfl⟩ : ∃ m, k = m + 1 := ⟨k - 1, by omega⟩
      rw [herdsmanref1_full.l0, if_neg (by omega)]
    | succ d ih =>
      intro i k hi hk
      obtain ⟨k, rfl⟩ : ∃ m, k = m + 1 := ⟨k - 1, by omega⟩
      have hne : rd C (i : Int) ≠ 0 := by
        rw [rd_get C (show i < C.length by omega)]
        exact fun e => h0 (e ▸ List.getElem_mem _)
      rw [herdsmanref1_full.l0, if_pos (by omega), if_pos (by omega), if_neg hne, w64 (by omega) (by omega)]
      exact ih (i + 1) k (by omega) (by omega)
  exact key C.length 0 k (by omega) hk
theorem mayTile_some {W H : Int} {C : List Int} (ht : TileOk W H C) (k : Nat) (hk : 300 ≤ k) : herdsmanref1_MayTile.f k W H C = some true := by
  obtain ⟨a1, a2, a3, a4, a5, a6⟩ := ht
  have hm := mul_small ⟨a1, a2⟩ ⟨a3, a4⟩
  unfold herdsmanref1_MayTile.f
  rw [refIn_some, refIn_some, Option.bind_some, Option.bind_some, if_pos (by rw [decide_eq_true_eq]; omega), if_pos (by rw [decide_eq_true_eq]; omega), w64 (by omega) (by omega), if_pos a5, full_some C a6 (by omega) k (by omega), Option.bind_some]
/-- The cell over a side. -/
def nbS (W c s : Int) : Int := if s = 0 then c - W else if s = 1 then c + 1 else if s = 2 then c + W else if s = 3 then c - 1 else c
theorem step_val {W H c s : Int} (hW : 1 ≤ W ∧ W ≤ 16) (hH : 1 ≤ H ∧ H ≤ 16) (h0 : 0 ≤ c) (h1 : c < W * H) (hs : 0 ≤ s ∧ s ≤ 4) (k : Nat) : herdsmanref1_Step.f (k + 5) W H c s = some (if OutE W H c s then -1 else nbS W c s) := by
  have hm := mul_small hW hH
  have hd0 : 0 ≤ c / W := Int.ediv_nonneg h0 (by omega)
  have hdm := Int.mul_ediv_add_emod c W
  have hr0 : 0 ≤ c % W := Int.emod_nonneg _ (by omega)
  have hrW : c % W < W := Int.emod_lt_of_pos _ (by omega)
  have hdH : c / W < H := by
    rcases Int.lt_or_le (c / W) H with h | h
    · exact h
    · have := Int.mul_le_mul_of_nonneg_left (c := W) h (by omega)
      omega
  have hq : ∀ x y : Int, 0 ≤ x → 0 ≤ y → 0 ≤ y * W + x := fun x y hx hy => by have := Int.mul_nonneg hy (show 0 ≤ W by omega); omega
  have hq2 : ∀ x y : Int, x ≤ 16 → y ≤ 16 → y * W + x ≤ 1000 := fun x y hx hy => by
    have := Int.mul_le_mul_of_nonneg_right (c := W) hy (by omega)
    omega
  unfold herdsmanref1_Step.f
  rw [refIsCell_some hW hH h0 h1, Option.bind_some, if_pos rfl, refIn_some, Option.bind_some, decide_eq_true hs]
  rw [herdsmanref1_Step.j0, tdiv_nn h0, tmod_nn h0, w64 (n := c / W) (by omega) (by omega), w64 (n := c / W - 1) (by omega) (by omega)]
  rw [if_neg (by simp), if_neg (by omega)]
  have hj4 : ∀ x y : Int, -1 ≤ x → x ≤ W → -1 ≤ y → y ≤ H → ((x < 0 ∨ W ≤ x ∨ y < 0 ∨ H ≤ y) ↔ OutE W H c s) → (¬ OutE W H c s → y * W + x = nbS W c s) → herdsmanref1_Step.j4 (k + 1) W H x y = some (if OutE W H c s then -1 else nbS W c s) := by
    intro x y hx1 hx2 hy1 hy2 ho hv
    rw [herdsmanref1_Step.j4, refIn_some, refIn_some, Option.bind_some, Option.bind_some, w64 (n := W - 1) (by omega) (by omega), w64 (n := H - 1) (by omega) (by omega)]
    by_cases hx : 0 ≤ x ∧ x ≤ W - 1
    · rw [decide_eq_true hx, if_pos rfl]
      by_cases hy : 0 ≤ y ∧ y ≤ H - 1
      · rw [decide_eq_true hy, if_pos rfl]
        have e1 := hq x y hx.1 hy.1
        have e2 := hq2 x y (by omega) (by omega)
        have e3 := hq 0 y (by omega) hy.1
        have e4 := hq2 0 y (by omega) (by omega)
        have hno : ¬ OutE W H c s := fun h => by have := ho.2 h; omega
        rw [w64 (n := y * W) (by omega) (by omega), w64 (by omega) (by omega), if_neg hno, hv hno]
      · rw [decide_eq_false hy, if_neg (by simp), if_pos (ho.1 (by omega))]
    · rw [decide_eq_false hx, if_neg (by simp), if_pos (ho.1 (by omega))]
  have hcW : c / W * W + c % W = c := by rw [Int.mul_comm]; exact hdm
  have hs5 : s = 0 ∨ s = 1 ∨ s = 2 ∨ s = 3 ∨ s = 4 := by omega
  rcases hs5 with rfl | rfl | rfl | rfl | rfl
  · rw [if_pos rfl]
    rw [herdsmanref1_Step.j1, if_neg (by decide), herdsmanref1_Step.j2, if_neg (by decide), herdsmanref1_Step.j3, if_neg (by decide)]
    exact hj4 _ _ (by omega) (by omega) (by omega) (by omega) (by unfold OutE; omega) (fun _ => by rw [Int.sub_mul]; unfold nbS; omega)
  · rw [if_neg (by decide)]
    rw [herdsmanref1_Step.j1, if_pos rfl, herdsmanref1_Step.j2, if_neg (by decide), herdsmanref1_Step.j3, if_neg (by decide), w64 (by omega) (by omega)]
    exact hj4 _ _ (by omega) (by omega) (by omega) (by omega) (by unfold OutE; omega) (fun _ => by unfold nbS; omega)
  · rw [if_neg (by decide)]
    rw [herdsmanref1_Step.j1, if_neg (by decide), herdsmanref1_Step.j2, if_pos rfl, herdsmanref1_Step.j3, if_neg (by decide), w64 (by omega) (by omega)]
    exact hj4 _ _ (by omega) (by omega) (by omega) (by omega) (by unfold OutE; omega) (fun _ => by rw [Int.add_mul]; unfold nbS; omega)
  · rw [if_neg (by decide)]
    rw [herdsmanref1_Step.j1, if_neg (by decide), herdsmanref1_Step.j2, if_neg (by decide), herdsmanref1_Step.j3, if_pos rfl, w64 (by omega) (by omega)]
    exact hj4 _ _ (by omega) (by omega) (by omega) (by omega) (by unfold OutE; omega) (fun _ => by unfold nbS; omega)
  · rw [if_neg (by decide)]
    rw [herdsmanref1_Step.j1, if_neg (by decide), herdsmanref1_Step.j2, if_neg (by decide), herdsmanref1_Step.j3, if_neg (by decide)]
    exact hj4 _ _ (by omega) (by omega) (by omega) (by omega) (by unfold OutE; omega) (fun _ => by unfold nbS; omega)
theorem near_some {W H : Int} {C : List Int} (ht : TileOk W H C) {i : Nat} (hi : i < C.length) {s : Int} (hs : 0 ≤ s ∧ s ≤ 4) (k : Nat) (hk : 300 ≤ k) : herdsmanref1_Near.f k W H C (i : Int) s = some (if OutE W H i s then -1 else nbS W i s) := by
  obtain ⟨k, rfl⟩ : ∃ m, k = m + 5 := ⟨k - 5, by omega⟩
  have a := ht
  obtain ⟨a1, a2, a3, a4, a5, a6⟩ := a
  have hm := mul_small ⟨a1, a2⟩ ⟨a3, a4⟩
  unfold herdsmanref1_Near.f
  rw [mayTile_some ht _ hk, Option.bind_some, if_pos rfl, refIn_some, Option.bind_some, w64 (by omega) (by omega), if_pos (by rw [decide_eq_true_eq]; omega), step_val ⟨a1, a2⟩ ⟨a3, a4⟩ (by omega) (by omega) hs k, Option.bind_some]
theorem fullA (C : List Int) (hl : C.length ≤ 1000) (k : Nat) (hk : C.length < k) : herdsmanref1_full.f k C = some (decide ((0 : Int) ∉ C)) := by
  have key : ∀ (d i k : Nat), i + d = C.length → d < k → herdsmanref1_full.l0 k C (i : Int) = some (decide ((0 : Int) ∉ C.drop i)) := by
    intro d
    induction d with
    | zero =>
      intro i k hi hk
      obtain ⟨k, rfl⟩ : ∃ m, k = m + 1 := ⟨k - 1, by omega⟩
      rw [herdsmanref1_full.l0, if_neg (by omega), List.drop_eq_nil_of_le (by omega)]
      simp
    | succ d ih =>
      intro i k hi hk
      obtain ⟨k, rfl⟩ : ∃ m, k = m + 1 := ⟨k - 1, by omega⟩
      have hil : i < C.length := by omega
      rw [herdsmanref1_full.l0, if_pos (by omega), if_pos (by omega), rd_get C hil, w64 (n := (i : Int) + 1) (by omega) (by omega), List.drop_eq_getElem_cons hil]
      by_cases h0 : C[i] = 0
      · rw [if_pos h0]
        exact congrArg some (decide_eq_false (by simp [h0])).symm
      · rw [if_neg h0]
        refine (ih (i + 1) k (by omega) (by omega)).trans (congrArg some (decide_eq_decide.2 ?_))
        rw [List.mem_cons, not_or]
        exact ⟨fun h => ⟨fun e => h0 e.symm, h⟩, fun h => h.2⟩
  have := key C.length 0 k (by omega) hk
  rw [List.drop_zero] at this
  exact this
theorem mayTileA (W H : Int) (C : List Int) (hl : C.length ≤ 1000) (k : Nat) (hk : 1001 ≤ k) : herdsmanref1_MayTile.f k W H C = some (decide (TileOk W H C)) := by
  unfold herdsmanref1_MayTile.f
  rw [refIn_some, refIn_some, Option.bind_some, Option.bind_some]
  by_cases hW : 1 ≤ W ∧ W ≤ 16
  · rw [if_pos (decide_eq_true hW)]
    by_cases hH : 1 ≤ H ∧ H ≤ 16
    · have hm := mul_small hW hH
      rw [if_pos (decide_eq_true hH), w64 (by omega) (by omega)]
      by_cases hc : (C.length : Int) = W * H
      · rw [if_pos hc, fullA C hl k (by omega), Option.bind_some]
        exact congrArg some (decide_eq_decide.2 ⟨fun h => ⟨hW.1, hW.2, hH.1, hH.2, hc, h⟩, fun h => h.2.2.2.2.2⟩)
      · rw [if_neg hc]
        exact congrArg some (decide_eq_false (fun h => hc h.2.2.2.2.1)).symm
    · rw [if_neg (by simpa using hH)]
      exact congrArg some (decide_eq_false (fun h => hH ⟨h.2.2.1, h.2.2.2.1⟩)).symm
  · rw [if_neg (by simpa using hW)]
    exact congrArg some (decide_eq_false (fun h => hW ⟨h.1, h.2.1⟩)).symm
end Go.Proofs.Ytgcfcemgeppkmaa.P
