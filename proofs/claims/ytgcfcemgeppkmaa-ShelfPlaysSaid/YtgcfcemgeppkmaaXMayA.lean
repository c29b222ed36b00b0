/-
  PLAIN: which seeds may be at any tile, as the document says it.
-/
import Derived.Test.YtgcfcemgeppkmaaXNear
import Derived.Test.YtgcfcemgeppkmaaPx16
namespace Go.Proofs.Ytgcfcemgeppkmaa.P
open Go.RowKit Go.Proofs.YtgcfcemgeppkmaaW.PrintWords Go.Proofs.YtgcfcemgeppkmaaW.PrintLast Go.Proofs.YtgcfcemgeppkmaaW.PrintMore
set_option linter.unusedVariables false
set_option linter.unusedSimpArgs false
theorem rdT_getA (xs : List Seed) {i : Nat} (h : i < xs.length) : rd_T25 xs (i : Int) = xs[i] := by
  unfold rd_T25
  rw [Int.toNat_natCast, List.getD_eq_getElem?_getD, List.getElem?_eq_getElem h]
  rfl
theorem nbA {W H c s : Int} {n : Nat} (hW : 1 ≤ W ∧ W ≤ 16) (hH : 1 ≤ H ∧ H ≤ 16) (hn : (n : Int) = W * H) (h0 : 0 ≤ c) (h1 : c < n) (hs : 0 ≤ s ∧ s ≤ 3) (ho : ¬ OutE W H c s) : 0 ≤ nbS W c s := by
  have hm := mul_small hW hH
  have hd0 : 0 ≤ c / W := Int.ediv_nonneg h0 (by omega)
  have hdm := Int.mul_ediv_add_emod c W
  have hr0 : 0 ≤ c % W := Int.emod_nonneg _ (by omega)
  have hrW : c % W < W := Int.emod_lt_of_pos _ (by omega)
  have hge : ∀ k : Int, k ≤ c / W → W * k ≤ W * (c / W) := fun k hk => Int.mul_le_mul_of_nonneg_left hk (by omega)
  have hle : ∀ k : Int, c / W ≤ k → W * (c / W) ≤ W * k := fun k hk => Int.mul_le_mul_of_nonneg_left hk (by omega)
  have hdH : c / W < H := by
    rcases Int.lt_or_le (c / W) H with h | h
    · exact h
    · have := hge H h
      omega
  unfold OutE at ho
  rcases (show s = 0 ∨ s = 1 ∨ s = 2 ∨ s = 3 by omega) with rfl | rfl | rfl | rfl
  · have h2 := hge 1 (by omega)
    simp only [nbS, if_true]
    omega
  · have h2 := hle (H - 1) (by omega)
    rw [Int.mul_sub, Int.mul_one] at h2
    rw [show nbS W c 1 = c + 1 by simp [nbS]]
    omega
  · have h2 := hle (H - 2) (by omega)
    rw [Int.mul_sub] at h2
    rw [show nbS W c 2 = c + W by simp [nbS]]
    omega
  · rw [show nbS W c 3 = c - 1 by simp [nbS]]
    have hq : 0 ≤ W * (c / W) := Int.mul_nonneg (by omega) hd0
    omega
def AllOkA (W H : Int) (C : List Int) (l : List Seed) : Prop := ∀ x, x ∈ l → SeedOk W H C x
open Classical in
theorem maySeedsA (W H : Int) (C : List Int) (hl : C.length ≤ 1000) (l : List Seed) (hs : l.length ≤ 1000) (k : Nat) (hk : 4000 ≤ k) : herdsmanref7_MaySeeds.f k W H C l = some (decide (SeedsOk W H C l)) := by
  unfold herdsmanref7_MaySeeds.f
  rw [mayTileA W H C hl k (by omega), Option.bind_some]
  by_cases ht : TileOk W H C
  · rw [if_pos (decide_eq_true ht)]
    have ht' := ht
    obtain ⟨t1, t2, t3, t4, t5, t6⟩ := ht'
    have hm := mul_small ⟨t1, t2⟩ ⟨t3, t4⟩
    have key : ∀ (d i k : Nat), i + d = l.length → d * 2 + 1001 < k → herdsmanref7_MaySeeds.l0 k l (i : Int) W H C = some (decide (AllOkA W H C (l.drop i))) := by
      intro d
      induction d with
      | zero =>
        intro i k hi hk
        obtain ⟨k, rfl⟩ : ∃ m, k = m + 1 := ⟨k - 1, by omega⟩
        rw [herdsmanref7_MaySeeds.l0, if_neg (by omega), List.drop_eq_nil_of_le (by omega)]
        exact congrArg some (decide_eq_true (show AllOkA W H C [] from fun x hx => by simp at hx)).symm
      | succ d ih =>
        intro i k hi hk
        obtain ⟨k, rfl⟩ : ∃ m, k = m + 1 + 1 := ⟨k - 2, by omega⟩
        have hil : i < l.length := by omega
        have hn := ih (i + 1) k (by omega) (by omega)
        rw [herdsmanref7_MaySeeds.l0, if_pos (by omega), if_pos (by omega), rdT_getA l hil, refIn_some, Option.bind_some, w64 (n := (C.length : Int) - 1) (by omega) (by omega), List.drop_eq_getElem_cons hil]
        have hcons : ∀ x : Seed, AllOkA W H C (x :: l.drop (i + 1)) ↔ SeedOk W H C x ∧ AllOkA W H C (l.drop (i + 1)) := fun x => by unfold AllOkA; simp
        generalize l[i] = x at *
        have hfalse : ¬ SeedOk W H C x → herdsmanref7_MaySeeds.j1 (k + 1) l (i : Int) true W H C x.f0 x.f1 x.f2 = some (decide (AllOkA W H C (x :: l.drop (i + 1)))) := fun h => by
          rw [herdsmanref7_MaySeeds.j1, if_pos rfl]
          exact congrArg some (decide_eq_false (fun h' => h ((hcons x).1 h').1)).symm
        by_cases h0 : 0 ≤ x.f0 ∧ x.f0 ≤ (C.length : Int) - 1
        · obtain ⟨c, hc⟩ : ∃ c : Nat, x.f0 = (c : Int) := ⟨x.f0.toNat, by omega⟩
          rw [if_pos (decide_eq_true h0), if_pos h0.1, if_pos (by omega)]
          by_cases h255 : rd C x.f0 = 255
          · rw [if_pos h255]
            exact hfalse (fun h => h.2.2.1 h255)
          · rw [if_neg h255, refIn_some, Option.bind_some]
            by_cases h2 : 0 ≤ x.f2 ∧ x.f2 ≤ 1073741824
            · rw [if_pos (decide_eq_true h2), refIn_some, Option.bind_some]
              by_cases h1 : 0 ≤ x.f1 ∧ x.f1 ≤ 4
              · rw [decide_eq_true h1, herdsmanref7_MaySeeds.j1, if_neg (by simp), w64 (n := (i : Int) + 1) (by omega) (by omega)]
                have hok : SeedOk W H C x ↔ OutOk W H x.f0 x.f1 := ⟨fun h => h.2.2.2.2.2, fun h => ⟨h0.1, by omega, h255, h2.1, h2.2, h⟩⟩
                have hgo : SeedOk W H C x → herdsmanref7_MaySeeds.l0 k l ((i : Int) + 1) W H C = some (decide (AllOkA W H C (x :: l.drop (i + 1)))) := fun h =>
                  hn.trans (congrArg some (decide_eq_decide.2 ⟨fun h' => (hcons x).2 ⟨h, h'⟩, fun h' => ((hcons x).1 h').2⟩))
                by_cases h4 : x.f1 = 4
                · rw [if_pos h4]
                  exact hgo (hok.2 (.inr (.inr (.inr (.inr h4)))))
                · rw [if_neg h4, hc, near_some ht (show c < C.length by omega) h1 k (by omega), Option.bind_some]
                  by_cases ho : OutE W H c x.f1
                  · rw [if_pos ho, if_neg (by omega)]
                    exact hgo (hok.2 (by rw [hc]; unfold OutE at ho; unfold OutOk; omega))
                  · have b0 := nbA ⟨t1, t2⟩ ⟨t3, t4⟩ t5 (show (0 : Int) ≤ (c : Int) by omega) (by omega) (show 0 ≤ x.f1 ∧ x.f1 ≤ 3 by omega) ho
                    rw [if_neg ho, if_pos (by omega)]
                    exact congrArg some (decide_eq_false (fun h' => by
                      have h5 := hok.1 ((hcons x).1 h').1
                      rw [hc] at h5
                      unfold OutOk at h5
                      unfold OutE at ho
                      omega)).symm
              · rw [decide_eq_false h1]
                exact hfalse (fun h => by have := h.2.2.2.2.2; unfold OutOk at this; omega)
            · rw [if_neg (by simpa using h2)]
              exact hfalse (fun h => h2 ⟨h.2.2.2.1, h.2.2.2.2.1⟩)
        · rw [if_neg (by simpa using h0)]
          exact hfalse (fun h => h0 ⟨h.1, by have := h.2.1; omega⟩)
    refine (key l.length 0 k (by omega) (by omega)).trans (congrArg some (decide_eq_decide.2 ?_))
    rw [List.drop_zero]
    exact ⟨fun h => ⟨ht, h⟩, fun h => h.2⟩
  · rw [if_neg (by simpa using ht)]
    exact congrArg some (decide_eq_false (fun h => ht h.1)).symm
end Go.Proofs.Ytgcfcemgeppkmaa.P
