/-
  Proved: the statement SeedsAsks of herdsmanlaw8 (which seeds may be at a tile, and the least by a side, is what the document says) holds of the given program; no conditions beyond the row's own.
-/
import Derived.Test.YtgcfcemgeppkmaaRows
import Derived.Test.YtgcfcemgeppkmaaPx37
import Derived.Test.YtgcfcemgeppkmaaXRow8
import Derived.Test.YtgcfcemgeppkmaaXRowT
import Derived.WalkKit
import Derived.ProofKit
import Derived.OpenShut
import Derived.ShutString
import Derived.ChangeOld
import Derived.Below
import Derived.SizedLaws
import Derived.Lib.SmallJoins
import Derived.Test.YtgcfcemgeppkmaaWSized
import Derived.Test.YtgcfcemgeppkmaaXLaw8
import Derived.Test.YtgcfcemgeppkmaaXNear
import Derived.Test.YtgcfcemgeppkmaaPx21
import Derived.Test.YtgcfcemgeppkmaaPx8
import Derived.Test.YtgcfcemgeppkmaaPx36
namespace Go.Proofs.Ytgcfcemgeppkmaa.Start
open Go
/-- The start-up word, in four parts. -/
def l1 : List Char := ([104, 97, 114, 110, 101, 115, 115] : List Nat).map Char.ofNat
def l2 : List Char := ([52, 55, 99, 100, 100, 51, 100, 98, 52, 49, 49, 57, 97, 51, 100, 53, 57, 55, 57, 57, 55, 56, 50, 99, 97, 99, 56, 101, 52, 52, 101, 52, 49, 54, 97, 51, 101, 49, 100, 98, 98, 99, 102, 52, 50, 102, 52, 97, 54, 102, 101, 51, 55, 52, 53, 56, 98, 98, 100, 57, 49, 101, 99, 49] : List Nat).map Char.ofNat
def l3 : List Char := ([99, 117, 116] : List Nat).map Char.ofNat
def l4 : List Char := ([97, 116, 32, 104, 101, 114, 100, 115, 109, 97, 110, 47, 104, 101, 114, 100, 115, 109, 97, 110, 108, 97, 119, 56, 46, 83, 101, 101, 100, 115, 83, 111, 114, 116, 115, 32, 104, 101, 114, 100, 115, 109, 97, 110, 47, 104, 101, 114, 100, 115, 109, 97, 110, 108, 97, 119, 56, 46, 83, 101, 101, 100, 115, 66, 101, 115, 116, 32, 104, 101, 114, 100, 115, 109, 97, 110, 47, 104, 101, 114, 100, 115, 109, 97, 110, 108, 97, 119, 56, 46, 83, 101, 101, 100, 115, 84, 119, 105, 99, 101, 32, 104, 101, 114, 100, 115, 109, 97, 110, 47, 104, 101, 114, 100, 115, 109, 97, 110, 108, 97, 119, 56, 46, 83, 101, 101, 100, 115, 83, 97, 109, 101, 32, 104, 101, 114, 100, 115, 109, 97, 110, 47, 104, 101, 114, 100, 115, 109, 97, 110, 108, 97, 119, 56, 46, 83, 101, 101, 100, 115, 65, 115, 107, 115, 32, 104, 101, 114, 100, 115, 109, 97, 110, 47, 104, 101, 114, 100, 115, 109, 97, 110, 108, 97, 119, 57, 46, 83, 112, 114, 101, 97, 100, 70, 105, 120, 101, 100, 32, 104, 101, 114, 100, 115, 109, 97, 110, 47, 104, 101, 114, 100, 115, 109, 97, 110, 108, 97, 119, 57, 46, 83, 112, 114, 101, 97, 100, 80, 97, 114, 116, 115, 32, 104, 101, 114, 100, 115, 109, 97, 110, 47, 104, 101, 114, 100, 115, 109, 97, 110, 108, 97, 119, 57, 46, 83, 112, 114, 101, 97, 100, 76, 97, 116, 101, 114, 32, 104, 101, 114, 100, 115, 109, 97, 110, 47, 104, 101, 114, 100, 115, 109, 97, 110, 108, 97, 119, 57, 46, 83, 112, 114, 101, 97, 100, 87, 97, 121, 115, 32, 104, 101, 114, 100, 115, 109, 97, 110, 47, 104, 101, 114, 100, 115, 109, 97, 110, 108, 97, 119, 49, 50, 46, 84, 97, 98, 108, 101, 65, 115, 107, 115, 32, 104, 101, 114, 100, 115, 109, 97, 110, 47, 104, 101, 114, 100, 115, 109, 97, 110, 108, 97, 119, 49, 50, 46, 84, 97, 98, 108, 101, 84, 111, 32, 104, 101, 114, 100, 115, 109, 97, 110, 47, 104, 101, 114, 100, 115, 109, 97, 110, 108, 97, 119, 49, 50, 46, 84, 97, 98, 108, 101, 79, 118, 101, 114, 32, 104, 101, 114, 100, 115, 109, 97, 110, 47, 104, 101, 114, 100, 115, 109, 97, 110, 108, 97, 119, 49, 50, 46, 84, 97, 98, 108, 101, 66, 97, 99, 107, 32, 104, 101, 114, 100, 115, 109, 97, 110, 47, 104, 101, 114, 100, 115, 109, 97, 110, 108, 97, 119, 49, 50, 46, 84, 97, 98, 108, 101, 67, 111, 108, 117, 109, 110, 115, 32, 104, 101, 114, 100, 115, 109, 97, 110, 47, 104, 101, 114, 100, 115, 109, 97, 110, 108, 97, 119, 49, 48, 46, 70, 105, 101, 108, 100, 65, 115, 107, 115, 32, 104, 101, 114, 100, 115, 109, 97, 110, 47, 104, 101, 114, 100, 115, 109, 97, 110, 108, 97, 119, 49, 48, 46, 70, 105, 101, 108, 100, 76, 101, 97, 100, 115, 32, 104, 101, 114, 100, 115, 109, 97, 110, 47, 104, 101, 114, 100, 115, 109, 97, 110, 108, 97, 119, 49, 48, 46, 70, 105, 101, 108, 100, 70, 105, 114, 115, 116, 32, 104, 101, 114, 100, 115, 109, 97, 110, 47, 104, 101, 114, 100, 115, 109, 97, 110, 108, 97, 119, 49, 48, 46, 87, 97, 108, 107, 65, 115, 107, 115, 32, 104, 101, 114, 100, 115, 109, 97, 110, 47, 104, 101, 114, 100, 115, 109, 97, 110, 108, 97, 119, 49, 48, 46, 87, 97, 108, 107, 69, 110, 100, 115, 32, 104, 101, 114, 100, 115, 109, 97, 110, 47, 104, 101, 114, 100, 115, 109, 97, 110, 108, 97, 119, 57, 46, 83, 112, 114, 101, 97, 100, 65, 115, 107, 115, 32, 104, 101, 114, 100, 115, 109, 97, 110, 47, 104, 101, 114, 100, 115, 109, 97, 110, 108, 97, 119, 49, 57, 46, 83, 104, 101, 108, 102, 82, 105, 103, 104, 116, 32, 104, 101, 114, 100, 115, 109, 97, 110, 47, 104, 101, 114, 100, 115, 109, 97, 110, 108, 97, 119, 49, 57, 46, 83, 104, 101, 108, 102, 79, 119, 110, 32, 104, 101, 114, 100, 115, 109, 97, 110, 47, 104, 101, 114, 100, 115, 109, 97, 110, 108, 97, 119, 49, 57, 46, 83, 104, 101, 108, 102, 80, 108, 97, 121, 115, 32, 104, 101, 114, 100, 115, 109, 97, 110, 47, 104, 101, 114, 100, 115, 109, 97, 110, 108, 97, 119, 49, 57, 46, 83, 104, 101, 108, 102, 67, 111, 117, 110, 116, 115, 32, 104, 101, 114, 100, 115, 109, 97, 110, 47, 104, 101, 114, 100, 115, 109, 97, 110, 108, 97, 119, 49, 57, 46, 83, 104, 101, 108, 102, 78, 111, 110, 101] : List Nat).map Char.ofNat
abbrev sp : Char := Char.ofNat 32
theorem ws_app (w r : List Char) (h : ∀ c ∈ w, c ≠ sp) : wordsSigns (w ++ sp :: r) = w :: wordsSigns r := by
  induction w with
  | nil => rfl
  | cons c w ih =>
    have hc : c ≠ sp := h c (by simp)
    have hw := ih (fun x hx => h x (by simp [hx]))
    rw [List.cons_append, wordsSigns.eq_3 c _ (fun h => hc h), hw]
theorem start : Try.prog.initOrder = String.ofList (l1 ++ sp :: (l2 ++ sp :: (l3 ++ sp :: l4))) := by kernel_rfl
theorem words : wordsSigns Try.prog.initOrder.toList = l1 :: l2 :: l3 :: wordsSigns l4 := by
  rw [start, String.toList_ofList, ws_app _ _ (by decide), ws_app _ _ (by decide), ws_app _ _ (by decide)]
theorem lifts_of (P : Program) (X : List (List Char)) (h : wordsSigns P.initOrder.toList = l1 :: l2 :: l3 :: X) : P.headLifts = [] := by
  unfold Program.headLifts
  rw [h]
  kernel_rfl
theorem final_of (P : Program) (X : List (List Char)) (h : wordsSigns P.initOrder.toList = l1 :: l2 :: l3 :: X) : P.liftsFinal = false := by
  unfold Program.liftsFinal
  rw [h, lifts_of P X h]
  kernel_rfl
theorem make_of (P : Program) (X : List (List Char)) (h : wordsSigns P.initOrder.toList = l1 :: l2 :: l3 :: X) : P.make = some .cut := by
  unfold Program.make
  rw [h, lifts_of P X h]
  kernel_rfl
theorem may_of (P : Program) (X : List (List Char)) (h : wordsSigns P.initOrder.toList = l1 :: l2 :: l3 :: X) (h1 : P.laysLater = false) (h2 : P.bearsReflect = false) (h3 : P.doorRows = []) : P.mayEnter = true := by
  unfold Program.mayEnter
  rw [h, h1, h2]
  unfold Program.doorFits
  rw [h3]
  kernel_rfl
theorem refl : Try.prog.bearsReflect = false := by kernel_rfl
theorem later : Try.prog.laysLater = false := by kernel_rfl
theorem door : Try.prog.doorRows = [] := by kernel_rfl
theorem keysNot : Try.prog.plainKeys = false := by
  unfold Program.plainKeys
  rw [List.all_eq_false]
  exact ⟨148, List.mem_range.2 (of_decide_eq_true (by kernel_rfl)), Bool.eq_false_iff.1 (by kernel_rfl)⟩
end Go.Proofs.Ytgcfcemgeppkmaa.Start
namespace Go.Proofs.Ytgcfcemgeppkmaa.Pure
open Go.RowKit Go.Proofs.Ytgcfcemgeppkmaa.P Go.Proofs.YtgcfcemgeppkmaaW.PrintWords Go.Proofs.YtgcfcemgeppkmaaW.PrintLast Go.Proofs.YtgcfcemgeppkmaaW.PrintMore
set_option linter.unusedSimpArgs false

theorem fullA (C : List Int) (hl : C.length ≤ 1000) (k : Nat) (hk : C.length < k) : herdsmanref1_full.f k C = some (decide ((0 : Int) ∉ C)) := by
  have key : ∀ (d i k : Nat), i + d = C.length → d < k → herdsmanref1_full.l0 k C (i : Int) = some (decide ((0 : Int) ∉ C.drop i)) := by
    intro d
    induction d with
    | zero =>
      intro i k hi hk
      obtain ⟨k, rfl⟩ : ∃ m, k = m + 1 := ⟨k - 1, by omega⟩
      rw [herdsmanref1_full.l0, if_neg (by omega), List.drop_eq_nil_of_le (by omega)]
      simp
    | succ d ih =>
      intro i k hi hk
      obtain ⟨k, rfl⟩ : ∃ m, k = m + 1 := ⟨k - 1, by omega⟩
      have hil : i < C.length := by omega
      rw [herdsmanref1_full.l0, if_pos (by omega), if_pos (by omega), rd_get C hil, w64 (n := (i : Int) + 1) (by omega) (by omega), List.drop_eq_getElem_cons hil]
      by_cases h0 : C[i] = 0
      · rw [if_pos h0]
        exact congrArg some (decide_eq_false (by simp [h0])).symm
      · rw [if_neg h0]
        refine (ih (i + 1) k (by omega) (by omega)).trans (congrArg some (decide_eq_decide.2 ?_))
        rw [List.mem_cons, not_or]
        exact ⟨fun h => ⟨fun e => h0 e.symm, h⟩, fun h => h.2⟩
  have := key C.length 0 k (by omega) hk
  rw [List.drop_zero] at this
  exact this
theorem mayTileA (W H : Int) (C : List Int) (hl : C.length ≤ 1000) (k : Nat) (hk : 1001 ≤ k) : herdsmanref1_MayTile.f k W H C = some (decide (TileOk W H C)) := by
  unfold herdsmanref1_MayTile.f
  rw [refIn_some, refIn_some, Option.bind_some, Option.bind_some]
  by_cases hW : 1 ≤ W ∧ W ≤ 16
  · rw [if_pos (decide_eq_true hW)]
    by_cases hH : 1 ≤ H ∧ H ≤ 16
    · have hm := mul_small hW hH
      rw [if_pos (decide_eq_true hH), w64 (by omega) (by omega)]
      by_cases hc : (C.length : Int) = W * H
      · rw [if_pos hc, fullA C hl k (by omega), Option.bind_some]
        exact congrArg some (decide_eq_decide.2 ⟨fun h => ⟨hW.1, hW.2, hH.1, hH.2, hc, h⟩, fun h => h.2.2.2.2.2⟩)
      · rw [if_neg hc]
        exact congrArg some (decide_eq_false (fun h => hc h.2.2.2.2.1)).symm
    · rw [if_neg (by simpa using hH)]
      exact congrArg some (decide_eq_false (fun h => hH ⟨h.2.2.1, h.2.2.2.1⟩)).symm
  · rw [if_neg (by simpa using hW)]
    exact congrArg some (decide_eq_false (fun h => hW ⟨h.1, h.2.1⟩)).symm
theorem nbA {W H c s : Int} {n : Nat} (hW : 1 ≤ W ∧ W ≤ 16) (hH : 1 ≤ H ∧ H ≤ 16) (hn : (n : Int) = W * H) (h0 : 0 ≤ c) (h1 : c < n) (hs : 0 ≤ s ∧ s ≤ 3) (ho : ¬ OutE W H c s) : 0 ≤ nbS W c s := by
  have hm := mul_small hW hH
  have hd0 : 0 ≤ c / W := Int.ediv_nonneg h0 (by omega)
  have hdm := Int.mul_ediv_add_emod c W
  have hr0 : 0 ≤ c % W := Int.emod_nonneg _ (by omega)
  have hrW : c % W < W := Int.emod_lt_of_pos _ (by omega)
  have hge : ∀ k : Int, k ≤ c / W → W * k ≤ W * (c / W) := fun k hk => Int.mul_le_mul_of_nonneg_left hk (by omega)
  have hle : ∀ k : Int, c / W ≤ k → W * (c / W) ≤ W * k := fun k hk => Int.mul_le_mul_of_nonneg_left hk (by omega)
  have hdH : c / W < H := by
    rcases Int.lt_or_le (c / W) H with h | h
    · exact h
    · have := hge H h
      omega
  unfold OutE at ho
  rcases (show s = 0 ∨ s = 1 ∨ s = 2 ∨ s = 3 by omega) with rfl | rfl | rfl | rfl
  · have h2 := hge 1 (by omega)
    simp only [nbS, if_true]
    omega
  · have h2 := hle (H - 1) (by omega)
    rw [Int.mul_sub, Int.mul_one] at h2
    rw [show nbS W c 1 = c + 1 by simp [nbS]]
    omega
  · have h2 := hle (H - 2) (by omega)
    rw [Int.mul_sub] at h2
    rw [show nbS W c 2 = c + W by simp [nbS]]
    omega
  · rw [show nbS W c 3 = c - 1 by simp [nbS]]
    have hq : 0 ≤ W * (c / W) := Int.mul_nonneg (by omega) hd0
    omega
def AllOkA (W H : Int) (C : List Int) (l : List Seed) : Prop := ∀ x, x ∈ l → SeedOk W H C x
open Classical in
theorem maySeedsA (W H : Int) (C : List Int) (hl : C.length ≤ 1000) (l : List Seed) (hs : l.length ≤ 1000) (k : Nat) (hk : 4000 ≤ k) : herdsmanref7_MaySeeds.f k W H C l = some (decide (SeedsOk W H C l)) := by
  unfold herdsmanref7_MaySeeds.f
  rw [mayTileA W H C hl k (by omega), Option.bind_some]
  by_cases ht : TileOk W H C
  · rw [if_pos (decide_eq_true ht)]
    have ht' := ht
    obtain ⟨t1, t2, t3, t4, t5, t6⟩ := ht'
    have hm := mul_small ⟨t1, t2⟩ ⟨t3, t4⟩
    have key : ∀ (d i k : Nat), i + d = l.length → d * 2 + 1001 < k → herdsmanref7_MaySeeds.l0 k l (i : Int) W H C = some (decide (AllOkA W H C (l.drop i))) := by
      intro d
      induction d with
      | zero =>
        intro i k hi hk
        obtain ⟨k, rfl⟩ : ∃ m, k = m + 1 := ⟨k - 1, by omega⟩
        rw [herdsmanref7_MaySeeds.l0, if_neg (by omega), List.drop_eq_nil_of_le (by omega)]
        exact congrArg some (decide_eq_true (show AllOkA W H C [] from fun x hx => by simp at hx)).symm
      | succ d ih =>
        intro i k hi hk
        obtain ⟨k, rfl⟩ : ∃ m, k = m + 1 + 1 := ⟨k - 2, by omega⟩
        have hil : i < l.length := by omega
        have hn := ih (i + 1) k (by omega) (by omega)
        rw [herdsmanref7_MaySeeds.l0, if_pos (by omega), if_pos (by omega), rdT_get8 l hil, refIn_some, Option.bind_some, w64 (n := (C.length : Int) - 1) (by omega) (by omega), List.drop_eq_getElem_cons hil]
        have hcons : ∀ x : Seed, AllOkA W H C (x :: l.drop (i + 1)) ↔ SeedOk W H C x ∧ AllOkA W H C (l.drop (i + 1)) := fun x => by unfold AllOkA; simp
        generalize l[i] = x at *
        have hfalse : ¬ SeedOk W H C x → herdsmanref7_MaySeeds.j1 (k + 1) l (i : Int) true W H C x.f0 x.f1 x.f2 = some (decide (AllOkA W H C (x :: l.drop (i + 1)))) := fun h => by
          rw [herdsmanref7_MaySeeds.j1, if_pos rfl]
          exact congrArg some (decide_eq_false (fun h' => h ((hcons x).1 h').1)).symm
        by_cases h0 : 0 ≤ x.f0 ∧ x.f0 ≤ (C.length : Int) - 1
        · obtain ⟨c, hc⟩ : ∃ c : Nat, x.f0 = (c : Int) := ⟨x.f0.toNat, by omega⟩
          rw [if_pos (decide_eq_true h0), if_pos h0.1, if_pos (by omega)]
          by_cases h255 : rd C x.f0 = 255
          · rw [if_pos h255]
            exact hfalse (fun h => h.2.2.1 h255)
          · rw [if_neg h255, refIn_some, Option.bind_some]
            by_cases h2 : 0 ≤ x.f2 ∧ x.f2 ≤ 1073741824
            · rw [if_pos (decide_eq_true h2), refIn_some, Option.bind_some]
              by_cases h1 : 0 ≤ x.f1 ∧ x.f1 ≤ 4
              · rw [decide_eq_true h1, herdsmanref7_MaySeeds.j1, if_neg (by simp), w64 (n := (i : Int) + 1) (by omega) (by omega)]
                have hok : SeedOk W H C x ↔ OutOk W H x.f0 x.f1 := ⟨fun h => h.2.2.2.2.2, fun h => ⟨h0.1, by omega, h255, h2.1, h2.2, h⟩⟩
                have hgo : SeedOk W H C x → herdsmanref7_MaySeeds.l0 k l ((i : Int) + 1) W H C = some (decide (AllOkA W H C (x :: l.drop (i + 1)))) := fun h =>
                  hn.trans (congrArg some (decide_eq_decide.2 ⟨fun h' => (hcons x).2 ⟨h, h'⟩, fun h' => ((hcons x).1 h').2⟩))
                by_cases h4 : x.f1 = 4
                · rw [if_pos h4]
                  exact hgo (hok.2 (.inr (.inr (.inr (.inr h4)))))
                · rw [if_neg h4, hc, near_some ht (show c < C.length by omega) h1 k (by omega), Option.bind_some]
                  by_cases ho : OutE W H c x.f1
                  · rw [if_pos ho, if_neg (by omega)]
                    exact hgo (hok.2 (by rw [hc]; unfold OutE at ho; unfold OutOk; omega))
                  · have b0 := nbA ⟨t1, t2⟩ ⟨t3, t4⟩ t5 (show (0 : Int) ≤ (c : Int) by omega) (by omega) (show 0 ≤ x.f1 ∧ x.f1 ≤ 3 by omega) ho
                    rw [if_neg ho, if_pos (by omega)]
                    exact congrArg some (decide_eq_false (fun h' => by
                      have h5 := hok.1 ((hcons x).1 h').1
                      rw [hc] at h5
                      unfold OutOk at h5
                      unfold OutE at ho
                      omega)).symm
              · rw [decide_eq_false h1]
                exact hfalse (fun h => by have := h.2.2.2.2.2; unfold OutOk at this; omega)
            · rw [if_neg (by simpa using h2)]
              exact hfalse (fun h => h2 ⟨h.2.2.2.1, h.2.2.2.2.1⟩)
        · rw [if_neg (by simpa using h0)]
          exact hfalse (fun h => h0 ⟨h.1, by have := h.2.1; omega⟩)
    refine (key l.length 0 k (by omega) (by omega)).trans (congrArg some (decide_eq_decide.2 ?_))
    rw [List.drop_zero]
    exact ⟨fun h => ⟨ht, h⟩, fun h => h.2⟩
  · rw [if_neg (by simpa using ht)]
    exact congrArg some (decide_eq_false (fun h => ht h.1)).symm
theorem refBest_l0A (l : List Seed) (i s : Int) (hl : l.length ≤ 1000000) : ∀ (d j k : Nat) (b : Int × Bool), j + d = l.length → d < k → herdsmanref7_Best.l0 k l i s b.1 b.2 (j : Int) = some ((l.drop j).foldl (bestStep8 i s) b).1 := by
  intro d
  induction d with
  | zero =>
    intro j k b hj hk
    obtain ⟨k, rfl⟩ : ∃ m, k = m + 1 := ⟨k - 1, by omega⟩
    rw [herdsmanref7_Best.l0, if_neg (by omega), List.drop_eq_nil_of_le (by omega)]
    rfl
  | succ d ih =>
    intro j k b hj hk
    obtain ⟨k, rfl⟩ : ∃ m, k = m + 1 := ⟨k - 1, by omega⟩
    have hjl : j < l.length := by omega
    have hn := fun b => ih (j + 1) k b (by omega) (by omega)
    rw [herdsmanref7_Best.l0, if_pos (by omega), if_pos (by omega), rdT_get8 l hjl, w64 (n := (j : Int) + 1) (by omega) (by omega), List.drop_eq_getElem_cons hjl, List.foldl_cons]
    generalize l[j] = x
    by_cases h0 : x.f0 = i
    · rw [if_pos h0]
      by_cases h1 : x.f1 = s
      · rw [if_pos h1]
        by_cases hb : b.2 = true
        · rw [if_pos hb]
          by_cases h2 : x.f2 < b.1
          · rw [if_pos h2, show bestStep8 i s b x = (x.f2, true) by unfold bestStep8; rw [if_pos ⟨h0, h1, .inr h2⟩]]
            exact hn (x.f2, true)
          · rw [if_neg h2, show bestStep8 i s b x = b by unfold bestStep8; rw [if_neg (by rintro ⟨_, _, h | h⟩; rw [hb] at h; simp at h; exact h2 h)]]
            exact hn b
        · rw [if_neg hb, show bestStep8 i s b x = (x.f2, true) by unfold bestStep8; rw [if_pos ⟨h0, h1, .inl (by simpa using hb)⟩]]
          exact hn (x.f2, true)
      · rw [if_neg h1, show bestStep8 i s b x = b by unfold bestStep8; rw [if_neg (by rintro ⟨_, h, _⟩; exact h1 h)]]
        exact hn b
    · rw [if_neg h0, show bestStep8 i s b x = b by unfold bestStep8; rw [if_neg (by rintro ⟨h, _⟩; exact h0 h)]]
      exact hn b
open Classical in
theorem asks_j1 (W H : Int) (C : List Int) (hC : C.length ≤ 1000) (s : List Seed) (hs : s.length ≤ 1000) (c d : Int) : herdsmanlaw8_SeedsAsks.j1 5000 c d s W H C = some true := by
  have hm : seeds_May.f W H C s = some (decide (SeedsOk W H C s)) := by
    show seedsMayF W H C s = _
    rfl
  have e1 : seeds_Best.f 4999 s c d = some (bestS8 s c d) := best_l08 s c d (by omega) s.length 0 4999 (1099511627776, false) (by omega) (by omega)
  have e2 : herdsmanref7_Best.f 4999 s c d = some (bestS8 s c d) := refBest_l0A s c d (by omega) s.length 0 4999 (1099511627776, false) (by omega) (by omega)
  rw [herdsmanlaw8_SeedsAsks.j1, Option.bind_some, if_pos (by simp only [List.length_nil]; omega), told8_some 4999 (by omega), Option.bind_some, if_pos rfl, hm, Option.bind_some, maySeedsA W H C hC s hs 4999 (by omega), Option.bind_some, if_pos (by simp), e1, Option.bind_some, e2, Option.bind_some, if_pos rfl, refSame_some s _ (by omega) 4999 (by omega), Option.bind_some]
  simp
theorem SeedsAsks (W H : Int) (C : List Int) (a1 a2 : Int) (l3 : List Seed) (l4 : List Int) (a5 a6 : Int) (a7 : Bool) (hb : ∀ x ∈ C, (Lit.int .u8 x).wf = true) : ∃ k, herdsmanlaw8_SeedsAsks.f k W H C a1 a2 l3 l4 a5 a6 a7 = some true := by
  refine ⟨5001, ?_⟩
  have hx : (l3.take (min l3.length 60)).length ≤ 60 := by rw [List.length_take]; omega
  have hj0 : ∀ b : Bool, (b = false → C.length ≤ 600 ∧ l4.length ≤ 60) → herdsmanlaw8_SeedsAsks.j0 5001 a1 a2 l3 l4 a5 a6 a7 b W H C = some true := by
    intro b hbf
    rw [herdsmanlaw8_SeedsAsks.j0]
    cases b with
    | true => rw [if_pos rfl, told8_some 5000 (by omega), Option.bind_some]
    | false =>
      obtain ⟨h6, h60⟩ := hbf rfl
      rw [if_neg (by simp)]
      unfold herdsmanref1_OwnTile.f
      rw [Option.bind_some, if_pos (by simp only [List.length_nil]; omega), Option.bind_some, few8_some, Option.bind_some, List.nil_append]
      generalize l3.take (min l3.length 60) = x at hx
      by_cases h7 : a7 = true
      · rw [if_pos h7]
        exact asks_j1 W H C (by omega) x (by omega) a5 a6
      · rw [if_neg h7]
        obtain ⟨V, G, D, hM, ht, _⟩ := madeTile_some a1 a2 C (u8_wf hb) (by omega)
        obtain ⟨t1, t2, t3, t4, t5, t6⟩ := id ht
        have hm := mul_small ⟨t1, t2⟩ ⟨t3, t4⟩
        have hsl := seedsOf_len V G D l4
        have hml : mn (x.length : Int) 1 = ((min x.length 1 : Nat) : Int) := by unfold mn; split <;> omega
        have htl : (x.take (min x.length 1)).length ≤ 1 := by rw [List.length_take]; omega
        rw [hM 5000 (by omega), Option.bind_some, w64 (n := (D.length : Int) - 1) (by omega) (by omega), within0 a5 (show 0 ≤ (D.length : Int) - 1 by omega) (by omega), Option.bind_some, within0 a6 (show (0 : Int) ≤ 4 by omega) (by omega), Option.bind_some, seeds_some ht l4 (by omega), Option.bind_some, hml, if_pos (by omega), if_pos (by omega), Option.bind_some, Int.toNat_natCast, if_pos (by omega)]
        exact asks_j1 V G D (by omega) _ (by rw [List.length_append]; omega) _ _
  unfold herdsmanlaw8_SeedsAsks.f
  split
  · exact hj0 true (fun h => by simp at h)
  · exact hj0 _ (fun h => ⟨by omega, by have := of_decide_eq_false h; omega⟩)
end Go.Proofs.Ytgcfcemgeppkmaa.Pure
namespace Go.Proofs.Ytgcfcemgeppkmaa.seedsAsks
open Go.ChangeShapes Go.WideShapes Go.ChangeAt Go.RowKit
open Go.ChangeMaps (open_string shut_string)
set_option linter.unusedVariables false
theorem own : ownKnob Try.prog.godebug = none := by kernel_rfl
theorem laidOut : laidOutB Try.prog = true := by kernel_rfl
set_option maxRecDepth 100000 in
theorem lifted (os : Os) (started : os.Started) (H : Type) (enc : TypeId × Value → H) :
    ReturnsInHanded {} Try.checked os 7 .any (Rows.seedsAsksSpec.pre6 enc Try.prog Try.f7 Rows.seedsAsksRow.domain false) (Rows.seedsAsksSpec.post enc Try.prog Try.f7 false true false false) := by
  refine returnsInHanded_of_change_sized (C := Try.checked) own started (by kernel_rfl) Try.func7
    (ChangeSpec.witness6 (enc := enc) (C := Try.checked) false ⟨#[], #[.agg #[.int .i64 0, .int .i64 0, .slice none 0 0], .int .i64 0, .int .i64 0, .slice none 0 0, .slice none 0 0, .int .i64 0, .int .i64 0, .bool false], []⟩ 8 (by kernel_rfl) (by kernel_rfl) (by kernel_rfl) (by kernel_rfl)) ?_
  intro W base args ds gs before hval0 hW hcnd hsz0 _
  have hsz : (DataW.weightsEach Try.prog (Try.f7.params.toList ++ Rows.seedsAsksSpec.plain.varTypes Try.prog) (ds ++ gs)).all (· ≤ reachBytes) = true := hsz0
  have hval : ∀ (j : Nat) t v, Try.f7.params[j]? = some t → args[j]? = some v → Value.okWide Try.prog W .any base t v := hval0
  have hW' := hW
  obtain ⟨p, q, hA0, hV, rfl, hfz, hnd⟩ := hW
  have hA : DataW.TrodAll enc Try.prog W 0 (fun _ => true) true Try.f7.params.toList args.toList ds p := hA0
  rw [Try.params7] at hA hval hsz
  obtain ⟨v0, vs0, d0, ds0, p0, q0, hargs, rfl, rfl, h0, r0⟩ := trodAll_cons hA
  obtain ⟨v1, vs1, d1, ds1, p1, q1, rfl, rfl, rfl, h1, r1⟩ := trodAll_cons r0
  obtain ⟨v2, vs2, d2, ds2, p2, q2, rfl, rfl, rfl, h2, r2⟩ := trodAll_cons r1
  obtain ⟨v3, vs3, d3, ds3, p3, q3, rfl, rfl, rfl, h3, r3⟩ := trodAll_cons r2
  obtain ⟨v4, vs4, d4, ds4, p4, q4, rfl, rfl, rfl, h4, r4⟩ := trodAll_cons r3
  obtain ⟨v5, vs5, d5, ds5, p5, q5, rfl, rfl, rfl, h5, r5⟩ := trodAll_cons r4
  obtain ⟨v6, vs6, d6, ds6, p6, q6, rfl, rfl, rfl, h6, r6⟩ := trodAll_cons r5
  obtain ⟨v7, vs7, d7, ds7, p7, q7, rfl, rfl, rfl, h7, r7⟩ := trodAll_cons r6
  obtain ⟨rfl, rfl, rfl⟩ := trodAll_nil r7
  obtain rfl : args = #[v0, v1, v2, v3, v4, v5, v6, v7] := by cases args; simp_all
  obtain ⟨rfl, rfl⟩ := trodVars_none hV
  have k0 := h0
  have lt0 : ∀ x ∈ p0, x.block < W.heap.size := by obtain ⟨m, hm⟩ := k0; exact DataW.trod_lt m _ _ _ hm
  obtain ⟨x0, y0, a0, cap0, l0, rfl, hr0, hc0, hb0, wx0, wy0⟩ := P.open_tile (hval 0 35 v0 rfl rfl) h0
  obtain ⟨a1, rfl, rfl, rfl, w1⟩ := open_int Try.underlying3 (hval 1 3 v1 rfl rfl) h1
  obtain ⟨a2, rfl, rfl, rfl, w2⟩ := open_int Try.underlying3 (hval 2 3 v2 rfl rfl) h2
  obtain ⟨a3, len3, cap3, rfl⟩ := okWide_slice Try.underlying22 (hval 3 22 v3 rfl rfl)
  have k3 := h3
  have lt3 : ∀ x ∈ p3, x.block < W.heap.size := by obtain ⟨m, hm⟩ := k3; exact DataW.trod_lt m _ _ _ hm
  obtain ⟨l3, rfl, hr3, hc3, y3, _⟩ := P.open_seeds hsz (j := 3) rfl rfl h3
  have k4 := h4
  have lt4 : ∀ x ∈ p4, x.block < W.heap.size := by obtain ⟨m, hm⟩ := k4; exact DataW.trod_lt m _ _ _ hm
  obtain ⟨a4, cap4, l4, rfl, hr4, hc4, hm4, hb4⟩ := P.open_slice_nums Try.underlying36 Try.underlying3 (by kernel_rfl) (hval 4 36 v4 rfl rfl) h4
  obtain ⟨a5, rfl, rfl, rfl, w5⟩ := open_int Try.underlying3 (hval 5 3 v5 rfl rfl) h5
  obtain ⟨a6, rfl, rfl, rfl, w6⟩ := open_int Try.underlying3 (hval 6 3 v6 rfl rfl) h6
  obtain ⟨a7, rfl, rfl, rfl⟩ := open_bool Try.underlying4 (hval 7 4 v7 rfl rfl) h7
  clear hA0 hval0 hsz0 hsz
  obtain ⟨k, hk⟩ := Pure.SeedsAsks x0 y0 l0 a1 a2 l3 l4 a5 a6 a7 hb0
  refine (P.herdsmanlaw8_SeedsAsks.calls k x0 y0 a0 cap0 l0 a1 a2 a3 cap3 l3 a4 cap4 l4 a5 a6 a7 true W hr0 hc0 hr3 hc3 hr4 hc4 hk).mono fun e W' ⟨he, bel⟩ => ?_
  subst he
  exact ⟨_, rfl, _, _, _, [], _, [], hW', trodAll_mk1 (shut_bool Try.underlying4 _), (trodAll_cons_mk (Below.trod laidOut (by kernel_rfl) (of_decide_eq_true (by kernel_rfl)) k0 bel lt0) (trodAll_cons_mk (shut_int Try.underlying3 w1) (trodAll_cons_mk (shut_int Try.underlying3 w2) (trodAll_cons_mk (Below.trod laidOut (by kernel_rfl) (of_decide_eq_true (by kernel_rfl)) k3 bel lt3) (trodAll_cons_mk (Below.trod laidOut (by kernel_rfl) (of_decide_eq_true (by kernel_rfl)) k4 bel lt4) (trodAll_cons_mk (shut_int Try.underlying3 w5) (trodAll_cons_mk (shut_int Try.underlying3 w6) (trodAll_cons_mk (shut_bool Try.underlying4 _) trodAll_mk0)))))))), rfl, bel.frame _, fun h => by cases h⟩
theorem joined : joinedFacts Try.prog 7 Try.f7 Rows.seedsAsksSpec Rows.seedsAsksRow = true := by
  unfold joinedFacts
  rw [Start.keysNot, Start.may_of _ _ Start.words Start.later Start.refl Start.door, Start.final_of _ _ Start.words, Start.make_of _ _ Start.words]
  kernel_rfl
theorem over : Rows.seedsAsksRow.holds Try.pinned (OpenSpec.ofChange Rows.seedsAsksSpec) :=
  OpenClaim.holds_of_wide 7 Try.f7 rfl rfl rfl rfl rfl rfl rfl ⟨rfl, rfl, rfl, rfl, rfl⟩ rfl rfl rfl rfl rfl (by kernel_rfl) Try.func7 joined
    (of_decide_eq_true (by kernel_rfl)) (by unfold Func.isWrapper; first | (rw [if_pos (by decide +kernel)]; kernel_rfl) | (rw [if_neg (by decide +kernel)]; exact ⟨rfl, rfl⟩))
    (fun os started H enc _ => lifted os started H enc)
theorem proved : Rows.SeedsAsksSaid := over
#print axioms proved
end Go.Proofs.Ytgcfcemgeppkmaa.seedsAsks
namespace Go.Proofs.Ytgcfcemgeppkmaa
/-- The row, under a short name, for the claim. -/
theorem seedsAsks_holds : Rows.SeedsAsksSaid := seedsAsks.proved
end Go.Proofs.Ytgcfcemgeppkmaa
