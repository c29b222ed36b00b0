/-
  Proved: the statement TableAsks of herdsmanlaw12 (how far locals are from each other is what the document says) holds of the given program; no conditions beyond the row's own.
-/
import Derived.Test.YtgcfcemgeppkmaaRows
import Derived.Test.YtgcfcemgeppkmaaPx25
import Derived.Test.YtgcfcemgeppkmaaXRow8
import Derived.WalkKit
import Derived.ProofKit
import Derived.OpenShut
import Derived.ShutString
import Derived.ChangeOld
import Derived.Below
import Derived.SizedLaws
import Derived.Lib.SmallJoins
import Derived.Test.YtgcfcemgeppkmaaWSized
import Derived.Test.YtgcfcemgeppkmaaXTabF
import Derived.Test.YtgcfcemgeppkmaaXRefSpread
import Derived.Test.YtgcfcemgeppkmaaPx11
import Derived.Test.YtgcfcemgeppkmaaPx24
namespace Go.Proofs.Ytgcfcemgeppkmaa.Start
open Go
/-- The start-up word, in four parts. -/
def l1 : List Char := ([104, 97, 114, 110, 101, 115, 115] : List Nat).map Char.ofNat
def l2 : List Char := ([52, 55, 99, 100, 100, 51, 100, 98, 52, 49, 49, 57, 97, 51, 100, 53, 57, 55, 57, 57, 55, 56, 50, 99, 97, 99, 56, 101, 52, 52, 101, 52, 49, 54, 97, 51, 101, 49, 100, 98, 98, 99, 102, 52, 50, 102, 52, 97, 54, 102, 101, 51, 55, 52, 53, 56, 98, 98, 100, 57, 49, 101, 99, 49] : List Nat).map Char.ofNat
def l3 : List Char := ([99, 117, 116] : List Nat).map Char.ofNat
def l4 : List Char := ([97, 116, 32, 104, 101, 114, 100, 115, 109, 97, 110, 47, 104, 101, 114, 100, 115, 109, 97, 110, 108, 97, 119, 56, 46, 83, 101, 101, 100, 115, 83, 111, 114, 116, 115, 32, 104, 101, 114, 100, 115, 109, 97, 110, 47, 104, 101, 114, 100, 115, 109, 97, 110, 108, 97, 119, 56, 46, 83, 101, 101, 100, 115, 66, 101, 115, 116, 32, 104, 101, 114, 100, 115, 109, 97, 110, 47, 104, 101, 114, 100, 115, 109, 97, 110, 108, 97, 119, 56, 46, 83, 101, 101, 100, 115, 84, 119, 105, 99, 101, 32, 104, 101, 114, 100, 115, 109, 97, 110, 47, 104, 101, 114, 100, 115, 109, 97, 110, 108, 97, 119, 56, 46, 83, 101, 101, 100, 115, 83, 97, 109, 101, 32, 104, 101, 114, 100, 115, 109, 97, 110, 47, 104, 101, 114, 100, 115, 109, 97, 110, 108, 97, 119, 56, 46, 83, 101, 101, 100, 115, 65, 115, 107, 115, 32, 104, 101, 114, 100, 115, 109, 97, 110, 47, 104, 101, 114, 100, 115, 109, 97, 110, 108, 97, 119, 57, 46, 83, 112, 114, 101, 97, 100, 70, 105, 120, 101, 100, 32, 104, 101, 114, 100, 115, 109, 97, 110, 47, 104, 101, 114, 100, 115, 109, 97, 110, 108, 97, 119, 57, 46, 83, 112, 114, 101, 97, 100, 80, 97, 114, 116, 115, 32, 104, 101, 114, 100, 115, 109, 97, 110, 47, 104, 101, 114, 100, 115, 109, 97, 110, 108, 97, 119, 57, 46, 83, 112, 114, 101, 97, 100, 76, 97, 116, 101, 114, 32, 104, 101, 114, 100, 115, 109, 97, 110, 47, 104, 101, 114, 100, 115, 109, 97, 110, 108, 97, 119, 57, 46, 83, 112, 114, 101, 97, 100, 87, 97, 121, 115, 32, 104, 101, 114, 100, 115, 109, 97, 110, 47, 104, 101, 114, 100, 115, 109, 97, 110, 108, 97, 119, 49, 50, 46, 84, 97, 98, 108, 101, 65, 115, 107, 115, 32, 104, 101, 114, 100, 115, 109, 97, 110, 47, 104, 101, 114, 100, 115, 109, 97, 110, 108, 97, 119, 49, 50, 46, 84, 97, 98, 108, 101, 84, 111, 32, 104, 101, 114, 100, 115, 109, 97, 110, 47, 104, 101, 114, 100, 115, 109, 97, 110, 108, 97, 119, 49, 50, 46, 84, 97, 98, 108, 101, 79, 118, 101, 114, 32, 104, 101, 114, 100, 115, 109, 97, 110, 47, 104, 101, 114, 100, 115, 109, 97, 110, 108, 97, 119, 49, 50, 46, 84, 97, 98, 108, 101, 66, 97, 99, 107, 32, 104, 101, 114, 100, 115, 109, 97, 110, 47, 104, 101, 114, 100, 115, 109, 97, 110, 108, 97, 119, 49, 50, 46, 84, 97, 98, 108, 101, 67, 111, 108, 117, 109, 110, 115, 32, 104, 101, 114, 100, 115, 109, 97, 110, 47, 104, 101, 114, 100, 115, 109, 97, 110, 108, 97, 119, 49, 48, 46, 70, 105, 101, 108, 100, 65, 115, 107, 115, 32, 104, 101, 114, 100, 115, 109, 97, 110, 47, 104, 101, 114, 100, 115, 109, 97, 110, 108, 97, 119, 49, 48, 46, 70, 105, 101, 108, 100, 76, 101, 97, 100, 115, 32, 104, 101, 114, 100, 115, 109, 97, 110, 47, 104, 101, 114, 100, 115, 109, 97, 110, 108, 97, 119, 49, 48, 46, 70, 105, 101, 108, 100, 70, 105, 114, 115, 116, 32, 104, 101, 114, 100, 115, 109, 97, 110, 47, 104, 101, 114, 100, 115, 109, 97, 110, 108, 97, 119, 49, 48, 46, 87, 97, 108, 107, 65, 115, 107, 115, 32, 104, 101, 114, 100, 115, 109, 97, 110, 47, 104, 101, 114, 100, 115, 109, 97, 110, 108, 97, 119, 49, 48, 46, 87, 97, 108, 107, 69, 110, 100, 115, 32, 104, 101, 114, 100, 115, 109, 97, 110, 47, 104, 101, 114, 100, 115, 109, 97, 110, 108, 97, 119, 57, 46, 83, 112, 114, 101, 97, 100, 65, 115, 107, 115, 32, 104, 101, 114, 100, 115, 109, 97, 110, 47, 104, 101, 114, 100, 115, 109, 97, 110, 108, 97, 119, 49, 57, 46, 83, 104, 101, 108, 102, 82, 105, 103, 104, 116, 32, 104, 101, 114, 100, 115, 109, 97, 110, 47, 104, 101, 114, 100, 115, 109, 97, 110, 108, 97, 119, 49, 57, 46, 83, 104, 101, 108, 102, 79, 119, 110, 32, 104, 101, 114, 100, 115, 109, 97, 110, 47, 104, 101, 114, 100, 115, 109, 97, 110, 108, 97, 119, 49, 57, 46, 83, 104, 101, 108, 102, 80, 108, 97, 121, 115, 32, 104, 101, 114, 100, 115, 109, 97, 110, 47, 104, 101, 114, 100, 115, 109, 97, 110, 108, 97, 119, 49, 57, 46, 83, 104, 101, 108, 102, 67, 111, 117, 110, 116, 115, 32, 104, 101, 114, 100, 115, 109, 97, 110, 47, 104, 101, 114, 100, 115, 109, 97, 110, 108, 97, 119, 49, 57, 46, 83, 104, 101, 108, 102, 78, 111, 110, 101] : List Nat).map Char.ofNat
abbrev sp : Char := Char.ofNat 32
theorem ws_app (w r : List Char) (h : ∀ c ∈ w, c ≠ sp) : wordsSigns (w ++ sp :: r) = w :: wordsSigns r := by
  induction w with
  | nil => rfl
  | cons c w ih =>
    have hc : c ≠ sp := h c (by simp)
    have hw := ih (fun x hx => h x (by simp [hx]))
    rw [List.cons_append, wordsSigns.eq_3 c _ (fun h => hc h), hw]
theorem start : Try.prog.initOrder = String.ofList (l1 ++ sp :: (l2 ++ sp :: (l3 ++ sp :: l4))) := by kernel_rfl
theorem words : wordsSigns Try.prog.initOrder.toList = l1 :: l2 :: l3 :: wordsSigns l4 := by
  rw [start, String.toList_ofList, ws_app _ _ (by decide), ws_app _ _ (by decide), ws_app _ _ (by decide)]
theorem lifts_of (P : Program) (X : List (List Char)) (h : wordsSigns P.initOrder.toList = l1 :: l2 :: l3 :: X) : P.headLifts = [] := by
  unfold Program.headLifts
  rw [h]
  kernel_rfl
theorem final_of (P : Program) (X : List (List Char)) (h : wordsSigns P.initOrder.toList = l1 :: l2 :: l3 :: X) : P.liftsFinal = false := by
  unfold Program.liftsFinal
  rw [h, lifts_of P X h]
  kernel_rfl
theorem make_of (P : Program) (X : List (List Char)) (h : wordsSigns P.initOrder.toList = l1 :: l2 :: l3 :: X) : P.make = some .cut := by
  unfold Program.make
  rw [h, lifts_of P X h]
  kernel_rfl
theorem may_of (P : Program) (X : List (List Char)) (h : wordsSigns P.initOrder.toList = l1 :: l2 :: l3 :: X) (h1 : P.laysLater = false) (h2 : P.bearsReflect = false) (h3 : P.doorRows = []) : P.mayEnter = true := by
  unfold Program.mayEnter
  rw [h, h1, h2]
  unfold Program.doorFits
  rw [h3]
  kernel_rfl
theorem refl : Try.prog.bearsReflect = false := by kernel_rfl
theorem later : Try.prog.laysLater = false := by kernel_rfl
theorem door : Try.prog.doorRows = [] := by kernel_rfl
theorem keysNot : Try.prog.plainKeys = false := by
  unfold Program.plainKeys
  rw [List.all_eq_false]
  exact ⟨148, List.mem_range.2 (of_decide_eq_true (by kernel_rfl)), Bool.eq_false_iff.1 (by kernel_rfl)⟩
end Go.Proofs.Ytgcfcemgeppkmaa.Start
namespace Go.Proofs.Ytgcfcemgeppkmaa.Pure
open Go.RowKit Go.Proofs.Ytgcfcemgeppkmaa.P Go.Proofs.YtgcfcemgeppkmaaW.PrintWords Go.Proofs.YtgcfcemgeppkmaaW.PrintLast Go.Proofs.YtgcfcemgeppkmaaW.PrintMore
set_option linter.unusedVariables false

def StepA (C l : List Int) (i : Nat) : Prop := 0 ≤ rd l (i : Int) ∧ rd l (i : Int) < (C.length : Int) ∧ rd C (rd l (i : Int)) ≠ 255 ∧ (i = 0 ∨ rd l ((i : Int) - 1) < rd l (i : Int))
def AllA (C l : List Int) (i : Nat) : Prop := ∀ j, i ≤ j → j < l.length → StepA C l j
theorem allA_succ {C l : List Int} {i : Nat} (hi : i < l.length) : AllA C l i ↔ StepA C l i ∧ AllA C l (i + 1) := by
  constructor
  · exact fun h => ⟨h i (Nat.le_refl _) hi, fun j hj hl => h j (by omega) hl⟩
  · rintro ⟨h, r⟩ j hj hl
    by_cases e : j = i
    · rw [e]; exact h
    · exact r j (by omega) hl
theorem allA_end {C l : List Int} : AllA C l l.length := fun j hj hl => by omega
theorem locOk_all {C l : List Int} : LocOk C l ↔ AllA C l 0 := by
  constructor
  · intro h j _ hl
    obtain ⟨c, hc, hcl, hco⟩ := h.at hl
    refine ⟨by rw [hc]; omega, by rw [hc]; omega, by rw [hc]; exact hco, ?_⟩
    by_cases e : j = 0
    · exact .inl e
    · refine .inr ?_
      have := h.lt (i := j - 1) (j := j) (by omega) hl
      rw [show ((j - 1 : Nat) : Int) = (j : Int) - 1 by omega] at this
      exact this
  · intro h
    refine ⟨fun x hx => ?_, ?_⟩
    · obtain ⟨i, hi, rfl⟩ := List.mem_iff_getElem.1 hx
      obtain ⟨a, b, c, _⟩ := h i (by omega) hi
      rw [rd_get l hi] at a b c
      exact ⟨a, b, c⟩
    · have key : ∀ (e i : Nat), i + e + 1 < l.length → rd l (i : Int) < rd l ((i + e + 1 : Nat) : Int) := by
        intro e
        induction e with
        | zero =>
          intro i hi
          obtain ⟨_, _, _, hs⟩ := h (i + 1) (by omega) (by omega)
          rcases hs with hs | hs
          · omega
          · rw [show ((i + 1 : Nat) : Int) - 1 = (i : Int) by omega] at hs
            exact hs
        | succ e ih =>
          intro i hi
          have h1 := ih i (by omega)
          obtain ⟨_, _, _, hs⟩ := h (i + (e + 1) + 1) (by omega) (by omega)
          rcases hs with hs | hs
          · omega
          · rw [show ((i + (e + 1) + 1 : Nat) : Int) - 1 = ((i + e + 1 : Nat) : Int) by omega] at hs
            omega
      refine List.pairwise_iff_getElem.2 (fun i j hi hj hij => ?_)
      have := key (j - i - 1) i (by omega)
      rw [show i + (j - i - 1) + 1 = j by omega, rd_get l hi, rd_get l hj] at this
      exact this
open Classical in
theorem atA {W H : Int} {C : List Int} (hC : C.length ≤ 1000) (hb : ∀ x ∈ C, 0 ≤ x ∧ x ≤ 255) (x : Int) (k : Nat) (hk : 1001 ≤ k) : tile_At.f k W H C x = some (if TileOk W H C ∧ 0 ≤ x ∧ x < (C.length : Int) then rd C x else 0) := by
  unfold tile_At.f tile_is.f
  by_cases h0 : x ≥ 0
  · rw [if_pos h0]
    by_cases h1 : x < (C.length : Int)
    · rw [if_pos h1, tileMay_some W H C k (by omega), Option.bind_some, Option.bind_some]
      by_cases ht : TileOk W H C
      · obtain ⟨n, rfl⟩ : ∃ n : Nat, x = (n : Int) := ⟨x.toNat, by omega⟩
        have hn : n < C.length := by omega
        have hc := hb (C[n]'hn) (List.getElem_mem _)
        rw [← rd_get C hn] at hc
        rw [if_pos (decide_eq_true ht), if_pos h0, if_pos h1, if_pos ⟨ht, h0, h1⟩, w64 (by omega) (by omega)]
      · rw [if_neg (by simpa using ht), if_neg (fun h => ht h.1)]
    · rw [if_neg h1, Option.bind_some, if_neg (by simp), if_neg (fun h => h1 h.2.2)]
  · rw [if_neg h0, Option.bind_some, if_neg (by simp), if_neg (fun h => h0 h.2.1)]
open Classical in
theorem tmayA {W H : Int} {C : List Int} (hC : C.length ≤ 1000) (hb : ∀ x ∈ C, 0 ≤ x ∧ x ≤ 255) {l : List Int} (hl : l.length ≤ 1000) (k : Nat) (hk : 3000 ≤ k) : table_may.f k W H C l = some (decide (TileOk W H C ∧ AllA C l 0)) := by
  have key : ∀ (d i k : Nat), i + d = l.length → d + 1100 < k → table_may.l0 k l l (l.length : Int) (i : Int) W H C = some (decide (TileOk W H C ∧ AllA C l i)) := by
    intro d
    induction d with
    | zero =>
      intro i k hi hk
      obtain ⟨k, rfl⟩ : ∃ m, k = m + 1 := ⟨k - 1, by omega⟩
      obtain rfl : i = l.length := by omega
      rw [table_may.l0, if_neg (by omega), tileMay_some W H C k (by omega), Option.bind_some]
      exact congrArg some (decide_eq_decide.2 ⟨fun h => ⟨h, allA_end⟩, fun h => h.1⟩)
    | succ d ih =>
      intro i k hi hk
      obtain ⟨k, rfl⟩ : ∃ m, k = m + 1 := ⟨k - 1, by omega⟩
      have hil : i < l.length := by omega
      have hn := ih (i + 1) k (by omega) (by omega)
      have hno : ¬ (TileOk W H C ∧ StepA C l i) → some false = some (decide (TileOk W H C ∧ AllA C l i)) := fun h => congrArg some (decide_eq_false (fun h' => h ⟨h'.1, ((allA_succ hil).1 h'.2).1⟩)).symm
      have hyes : StepA C l i → table_may.l0 k l l (l.length : Int) ((i : Int) + 1) W H C = some (decide (TileOk W H C ∧ AllA C l i)) := fun h =>
        hn.trans (congrArg some (decide_eq_decide.2 ⟨fun h' => ⟨h'.1, (allA_succ hil).2 ⟨h, h'.2⟩⟩, fun h' => ⟨h'.1, ((allA_succ hil).1 h'.2).2⟩⟩))
      rw [table_may.l0, if_pos (by omega), if_pos (by omega), if_pos (by omega), atA hC hb _ k (by omega), Option.bind_some, w64 (n := (i : Int) + 1) (by omega) (by omega)]
      by_cases hT : TileOk W H C ∧ 0 ≤ rd l (i : Int) ∧ rd l (i : Int) < (C.length : Int)
      · rw [if_pos hT]
        obtain ⟨n, hx⟩ : ∃ n : Nat, rd l (i : Int) = (n : Int) := ⟨(rd l (i : Int)).toNat, by omega⟩
        have hnl : n < C.length := by omega
        have hj0 : rd C (rd l (i : Int)) ≠ 0 := by
          rw [hx, rd_get C hnl]
          exact fun e => hT.1.2.2.2.2.2 (e ▸ List.getElem_mem _)
        rw [if_neg hj0]
        by_cases h255 : rd C (rd l (i : Int)) = 255
        · rw [if_pos h255]
          exact hno (fun h => h.2.2.2.1 h255)
        · rw [if_neg h255]
          by_cases hi0 : (i : Int) > 0
          · rw [if_pos hi0, w64 (n := (i : Int) - 1) (by omega) (by omega), if_pos (by omega), if_pos (by omega)]
            by_cases hle : rd l (i : Int) ≤ rd l ((i : Int) - 1)
            · rw [if_pos hle]
              exact hno (fun h => by have := h.2.2.2.2; omega)
            · rw [if_neg hle]
              exact hyes ⟨hT.2.1, hT.2.2, h255, .inr (by omega)⟩
          · rw [if_neg hi0]
            exact hyes ⟨hT.2.1, hT.2.2, h255, .inl (by omega)⟩
      · rw [if_neg hT, if_pos rfl]
        exact hno (fun h => hT ⟨h.1, h.2.1, h.2.2.1⟩)
  exact key l.length 0 k (by omega) (by omega)
theorem rtab_l1 {W H : Int} {C : List Int} {l : List Int} (h : LocOk C l) (hl : l.length ≤ 12) {j : Nat} (hj : j < l.length) {D : List Int} (hD : D = dist1 W C (rd l j)) (hDl : D.length = C.length) (k : Nat) : ∀ (e i : Nat) (tab : List Int), i + e = l.length → TabOk W C l tab j i → ∃ tab', TabOk W C l tab' j l.length ∧ herdsmanref7_Table.l1 (k + e + 1) l tab (j : Int) D (i : Int) W H C = herdsmanref7_Table.l0 k l tab' (wrap64 ((j : Int) + 1)) W H C := by
  intro e
  induction e with
  | zero =>
    intro i tab hi ht
    obtain rfl : i = l.length := by omega
    refine ⟨tab, ht, ?_⟩
    rw [herdsmanref7_Table.l1, if_neg (by omega)]
  | succ e ih =>
    intro i tab hi ht
    have hil : i < l.length := by omega
    obtain ⟨c, hc, hcl, hco⟩ := h.at hil
    have hx := idx_wrap hl hil hj
    have hx2 := idx_lt hil hj
    obtain ⟨tab', ht', e'⟩ := ih (i + 1) (tab.set (i * l.length + j) (rd D (c : Int))) (by omega) ⟨by rw [List.length_set]; exact ht.1, fun a b ha hb hab => by
      rw [rd_set' _ _ _ _ (by rw [ht.1]; exact idx_lt ha hb)]
      by_cases hq : i * l.length + j = a * l.length + b
      · obtain ⟨rfl, rfl⟩ := idx_inj hj hb hq
        rw [if_pos rfl, hc, hD]
      · rw [if_neg hq]
        refine ht.2 a b ha hb ?_
        rcases hab with hab | ⟨hab, hai⟩
        · exact .inl hab
        · refine .inr ⟨hab, ?_⟩
          subst hab
          have : a ≠ i := fun e => hq (by rw [e])
          omega⟩
    refine ⟨tab', ht', ?_⟩
    rw [show k + (e + 1) + 1 = (k + e + 1) + 1 by omega, herdsmanref7_Table.l1, if_pos (by omega), if_pos (by omega), hc, if_pos (by omega), if_pos (by omega), hx, if_pos (by omega), if_pos (by rw [ht.1]; omega), w64 (n := (i : Int) + 1) (by omega) (by omega), show (((i * l.length + j : Nat) : Int)).toNat = i * l.length + j by omega]
    exact e'
theorem rtab_all {W H : Int} {C : List Int} (hb : ∀ x ∈ C, 0 ≤ x ∧ x ≤ 255) (ht : TileOk W H C) {l : List Int} (h : LocOk C l) : ∃ N, ∀ j, j < l.length → ∀ k, N ≤ k → herdsmanref7_Spread.f k W H C [⟨rd l (j : Int), 4, 0⟩] = some (dist1 W C (rd l (j : Int))) := by
  have key : ∀ n, n ≤ l.length → ∃ N, ∀ j, j < n → ∀ k, N ≤ k → herdsmanref7_Spread.f k W H C [⟨rd l (j : Int), 4, 0⟩] = some (dist1 W C (rd l (j : Int))) := by
    intro n
    induction n with
    | zero => exact fun _ => ⟨0, fun j hj => by omega⟩
    | succ n ih =>
      intro hn
      obtain ⟨N, hN⟩ := ih (by omega)
      obtain ⟨c, hc, hcl, hco⟩ := h.at (show n < l.length by omega)
      obtain ⟨M, hM⟩ := refSpread_some hb (one_ok ht (x := rd l (n : Int)) (by omega) (by omega) (by rw [hc]; exact hco)) (by simp)
      refine ⟨N + M, fun j hj k hk => ?_⟩
      by_cases e : j = n
      · rw [e]; exact hM k (by omega)
      · exact hN j (by omega) k (by omega)
  exact key l.length (Nat.le_refl _)
theorem rtab_some {W H : Int} {C : List Int} (hb : ∀ x ∈ C, 0 ≤ x ∧ x ≤ 255) (ht : TileOk W H C) {l : List Int} (h : LocOk C l) (hl : l.length ≤ 12) : ∃ N, ∀ k, N ≤ k → ∃ tab, herdsmanref7_Table.f k W H C l = some tab ∧ tab.length = l.length * l.length ∧ ∀ a b, a < l.length → b < l.length → rd tab ((a * l.length + b : Nat) : Int) = rd (dist1 W C (rd l b)) (rd l a) := by
  obtain ⟨N, hN⟩ := rtab_all (W := W) (H := H) hb ht h
  have key : ∀ (d j k : Nat) (tab : List Int), j + d = l.length → d * 20 + 20 + N < k → TabOk W C l tab j 0 → ∃ tab', TabOk W C l tab' l.length 0 ∧ herdsmanref7_Table.l0 k l tab (j : Int) W H C = some tab' := by
    intro d
    induction d with
    | zero =>
      intro j k tab hj hk hT
      obtain ⟨k, rfl⟩ : ∃ m, k = m + 1 := ⟨k - 1, by omega⟩
      obtain rfl : j = l.length := by omega
      refine ⟨tab, hT, ?_⟩
      rw [herdsmanref7_Table.l0, if_neg (by omega)]
    | succ d ih =>
      intro j k tab hj hk hT
      obtain ⟨k, rfl⟩ : ∃ m, k = (m + l.length + 1) + 1 := ⟨k - 2 - l.length, by omega⟩
      have hjl : j < l.length := by omega
      obtain ⟨c, hc, hcl, hco⟩ := h.at hjl
      obtain ⟨tab1, hT1, e1⟩ := rtab_l1 (W := W) (H := H) h hl hjl (D := dist1 W C (rd l j)) rfl (by rw [hc]; exact dist1_len hb ht hcl hco) k l.length 0 tab (by omega) hT
      obtain ⟨tab2, hT2, e2⟩ := ih (j + 1) k tab1 (by omega) (by omega) ⟨hT1.1, fun a b ha hb' hab => hT1.2 a b ha hb' (by omega)⟩
      refine ⟨tab2, hT2, ?_⟩
      rw [herdsmanref7_Table.l0, if_pos (by omega), if_pos (by omega), hN j hjl _ (by omega), Option.bind_some]
      rw [show ((0 : Nat) : Int) = 0 from rfl] at e1
      rw [e1, w64 (n := (j : Int) + 1) (by omega) (by omega)]
      exact e2
  have hn2 : l.length * l.length ≤ 12 * 12 := Nat.mul_le_mul hl hl
  have hw : wrap64 ((l.length : Int) * (l.length : Int)) = ((l.length * l.length : Nat) : Int) := by
    rw [show (l.length : Int) * (l.length : Int) = ((l.length * l.length : Nat) : Int) by rw [Int.natCast_mul], w64 (by omega) (by omega)]
  refine ⟨300 + N, fun k hk => ?_⟩
  obtain ⟨tab, hT, e⟩ := key l.length 0 k (List.replicate (l.length * l.length) 0) (by omega) (by omega) ⟨by simp, fun a b _ _ hab => by omega⟩
  refine ⟨tab, ?_, hT.1, fun a b ha hb' => hT.2 a b ha hb' (.inl hb')⟩
  unfold herdsmanref7_Table.f
  rw [hw, if_pos (by omega), if_pos (by omega), show (((l.length * l.length : Nat) : Int)).toNat = l.length * l.length by omega]
  exact e
theorem tab_ext {n : Nat} {t1 t2 : List Int} (h1 : t1.length = n * n) (h2 : t2.length = n * n) (h : ∀ a b, a < n → b < n → rd t1 ((a * n + b : Nat) : Int) = rd t2 ((a * n + b : Nat) : Int)) : t1 = t2 := by
  apply List.ext_getElem (by omega)
  intro q hq1 hq2
  have hn : 0 < n := by
    rcases Nat.eq_zero_or_pos n with e | e
    · subst e; omega
    · exact e
  have hdiv : q / n < n := Nat.div_lt_of_lt_mul (by omega)
  have hmod := Nat.mod_lt q hn
  have hq : q / n * n + q % n = q := by rw [Nat.mul_comm]; exact Nat.div_add_mod q n
  have := h (q / n) (q % n) hdiv hmod
  rw [hq, rd_get t1 hq1, rd_get t2 hq2] at this
  exact this
theorem asks_j0 {W H : Int} {C : List Int} (hC : C.length ≤ 1000) (hb : ∀ x ∈ C, 0 ≤ x ∧ x ≤ 255) {s : List Int} (hs : s.length ≤ 12) : ∃ n, ∀ k, n ≤ k → herdsmanlaw12_TableAsks.j0 k s W H C = some true := by
  classical
  obtain ⟨N, hN⟩ : ∃ N, TileOk W H C ∧ AllA C s 0 → ∀ k, N ≤ k → ∃ tab, herdsmanref7_Table.f k W H C s = some tab ∧ tab.length = s.length * s.length ∧ ∀ a b, a < s.length → b < s.length → rd tab ((a * s.length + b : Nat) : Int) = rd (dist1 W C (rd s b)) (rd s a) := by
    by_cases h : TileOk W H C ∧ AllA C s 0
    · obtain ⟨N, hN⟩ := rtab_some hb h.1 (locOk_all.2 h.2) hs
      exact ⟨N, fun _ => hN⟩
    · exact ⟨0, fun h' => absurd h' h⟩
  have key : ∀ (d i k : Nat) (b : Bool), i + d = s.length → d + 4000 + N < k → (b = true ∧ AllA C s i ↔ TileOk W H C ∧ AllA C s 0) → herdsmanlaw12_TableAsks.l0 k s b (i : Int) W H C = some true := by
    intro d
    induction d with
    | zero =>
      intro i k b hi hk hbi
      obtain ⟨k, rfl⟩ : ∃ m, k = m + 1 := ⟨k - 1, by omega⟩
      obtain rfl : i = s.length := by omega
      rw [herdsmanlaw12_TableAsks.l0, if_neg (by omega)]
      cases b with
      | true =>
        have hm := hbi.1 ⟨rfl, allA_end⟩
        obtain ⟨tab, e, h1, h2⟩ := make_some (W := W) (H := H) hb hm.1 (locOk_all.2 hm.2) hs k (by omega)
        obtain ⟨tab', e', h1', h2'⟩ := hN hm k (by omega)
        have : tab = tab' := tab_ext h1 h1' (fun a b ha hb => (h2 a b ha hb).trans (h2' a b ha hb).symm)
        subst this
        have hsq : s.length * s.length ≤ 12 * 12 := Nat.mul_le_mul hs hs
        rw [e, Option.bind_some, if_pos rfl, told12_some k (by omega), Option.bind_some, if_pos rfl, if_pos rfl, e', Option.bind_some, ints_self tab (by omega) k (by omega), Option.bind_some]
      | false =>
        have hm : ¬ (TileOk W H C ∧ AllA C s 0) := fun h => by have := (hbi.2 h).1; simp at this
        unfold table_Make.f
        rw [tmayA hC hb (by omega) k (by omega), Option.bind_some, if_neg (by simpa using hm), Option.bind_some, if_neg (by simp), told12_some k (by omega), Option.bind_some, if_pos rfl, if_pos rfl]
        rfl
    | succ d ih =>
      intro i k b hi hk hbi
      obtain ⟨k, rfl⟩ : ∃ m, k = m + 1 := ⟨k - 1, by omega⟩
      have hil : i < s.length := by omega
      rw [herdsmanlaw12_TableAsks.l0, if_pos (by omega), w64 (n := (i : Int) + 1) (by omega) (by omega)]
      have hno : (b = true → ¬ StepA C s i) → herdsmanlaw12_TableAsks.l0 k s false ((i : Int) + 1) W H C = some true := fun hn =>
        ih (i + 1) k false (by omega) (by omega) ⟨fun h => by have := h.1; simp at this, fun h => absurd ((allA_succ hil).1 (hbi.2 h).2).1 (hn (hbi.2 h).1)⟩
      by_cases hbt : b = true
      · rw [if_pos hbt, if_pos (by omega), refIn_some, Option.bind_some, w64 (n := (C.length : Int) - 1) (by omega) (by omega)]
        have hgo : ∀ b', (b' = true ↔ StepA C s i) → herdsmanlaw12_TableAsks.l0 k s b' ((i : Int) + 1) W H C = some true := fun b' hb' =>
          ih (i + 1) k b' (by omega) (by omega) ⟨fun h => hbi.1 ⟨hbt, (allA_succ hil).2 ⟨hb'.1 h.1, h.2⟩⟩, fun h => ⟨hb'.2 ((allA_succ hil).1 (hbi.2 h).2).1, ((allA_succ hil).1 (hbi.2 h).2).2⟩⟩
        by_cases hin : 0 ≤ rd s (i : Int) ∧ rd s (i : Int) ≤ (C.length : Int) - 1
        · rw [if_pos (decide_eq_true hin), if_pos hin.1, if_pos (by omega)]
          by_cases h255 : rd C (rd s (i : Int)) = 255
          · rw [if_pos h255]
            exact hno (fun _ h => h.2.2.1 h255)
          · rw [if_neg h255]
            by_cases hi0 : (i : Int) = 0
            · rw [if_pos hi0]
              exact hgo true ⟨fun _ => ⟨hin.1, by omega, h255, .inl (by omega)⟩, fun _ => rfl⟩
            · rw [if_neg hi0, w64 (n := (i : Int) - 1) (by omega) (by omega), if_pos (by omega), if_pos (by omega)]
              exact hgo _ ⟨fun h => ⟨hin.1, by omega, h255, .inr (of_decide_eq_true h)⟩, fun h => decide_eq_true (by rcases h.2.2.2 with h | h <;> omega)⟩
        · rw [if_neg (by simpa using hin)]
          exact hno (fun _ h => hin ⟨h.1, by have := h.2.1; omega⟩)
      · rw [if_neg hbt]
        exact hno (fun h => absurd h hbt)
  refine ⟨6000 + N, fun k hk => ?_⟩
  obtain ⟨k, rfl⟩ : ∃ m, k = m + 1 := ⟨k - 1, by omega⟩
  rw [herdsmanlaw12_TableAsks.j0, mayTileA W H C hC k (by omega), Option.bind_some]
  exact key s.length 0 k _ (by omega) (by omega) ⟨fun h => ⟨of_decide_eq_true h.1, h.2⟩, fun h => ⟨decide_eq_true h.1, h.2⟩⟩
theorem TableAsks (W H : Int) (C : List Int) (a1 a2 : Int) (l3 : List Int) (a4 : Bool) (hb : ∀ x ∈ C, (Lit.int .u8 x).wf = true) : ∃ k, herdsmanlaw12_TableAsks.f k W H C a1 a2 l3 a4 = some true := by
  by_cases h6 : C.length ≤ 600
  · have hown : herdsmanref1_OwnTile.f W H C = some (W, H, C) := by
      unfold herdsmanref1_OwnTile.f
      rw [Option.bind_some, if_pos (by simp only [List.length_nil]; omega), List.nil_append]
    have hml : mn (l3.length : Int) 12 = ((min l3.length 12 : Nat) : Int) := by unfold mn; split <;> omega
    have htl : (l3.take (min l3.length 12)).length ≤ 12 := by rw [List.length_take]; omega
    have hf : ∀ k, herdsmanlaw12_TableAsks.f k W H C a1 a2 l3 a4 = if a4 = true then herdsmanlaw12_TableAsks.j0 k (l3.take (min l3.length 12)) W H C else ((herdsmanref1_MadeTile.f k a1 a2 C).bind fun bt479 => ((herdsmanlaw12_some.f k bt479.1 bt479.2.1 bt479.2.2 l3).bind fun t484 => (herdsmanlaw12_TableAsks.j0 k t484 bt479.1 bt479.2.1 bt479.2.2))) := by
      intro k
      unfold herdsmanlaw12_TableAsks.f
      rw [if_neg (by omega), hown, Option.bind_some, Option.bind_some, hml, if_pos (by omega), if_pos (by omega), Int.toNat_natCast, if_pos (by simp only [List.length_nil]; omega), List.nil_append]
    by_cases h4 : a4 = true
    · obtain ⟨n, hn⟩ := asks_j0 (W := W) (H := H) (C := C) (by omega) (u8_wf hb) htl
      refine ⟨n, ?_⟩
      rw [hf, if_pos h4]
      exact hn n (by omega)
    · obtain ⟨V, G, D, hM, ht, hd⟩ := madeTile_some a1 a2 C (u8_wf hb) (by omega)
      obtain ⟨t1, t2, t3, t4, t5, t6⟩ := id ht
      have hm := mul_small ⟨t1, t2⟩ ⟨t3, t4⟩
      obtain ⟨s, es, _, hsl⟩ := some_some (W := V) (H := G) (C := D) (by omega) l3 12000 (by omega)
      obtain ⟨n, hn⟩ := asks_j0 (W := V) (H := G) (C := D) (by omega) hd hsl
      have es' : ∀ k, 12000 ≤ k → herdsmanlaw12_some.f k V G D l3 = some s := by
        intro k hk
        obtain ⟨j, rfl⟩ : ∃ j, k = 12000 + j := ⟨k - 12000, by omega⟩
        clear hk
        induction j with
        | zero => exact es
        | succ j ih => exact herdsmanlaw12_some.mono V G D l3 (12000 + j) _ ih
      refine ⟨n + 12000, ?_⟩
      rw [hf, if_neg h4, hM _ (by omega), Option.bind_some, es' _ (by omega), Option.bind_some]
      exact hn _ (by omega)
  · refine ⟨1400, ?_⟩
    unfold herdsmanlaw12_TableAsks.f
    rw [if_pos (by omega), told12_some 1400 (by omega), Option.bind_some]
end Go.Proofs.Ytgcfcemgeppkmaa.Pure
namespace Go.Proofs.Ytgcfcemgeppkmaa.tableAsks
open Go.ChangeShapes Go.WideShapes Go.ChangeAt Go.RowKit
open Go.ChangeMaps (open_string shut_string)
set_option linter.unusedVariables false
theorem own : ownKnob Try.prog.godebug = none := by kernel_rfl
theorem laidOut : laidOutB Try.prog = true := by kernel_rfl
set_option maxRecDepth 100000 in
theorem lifted (os : Os) (started : os.Started) (H : Type) (enc : TypeId × Value → H) :
    ReturnsInHanded {} Try.checked os 12 .any (Rows.tableAsksSpec.pre6 enc Try.prog Try.f12 Rows.tableAsksRow.domain false) (Rows.tableAsksSpec.post enc Try.prog Try.f12 false true false false) := by
  refine returnsInHanded_of_change_sized (C := Try.checked) own started (by kernel_rfl) Try.func12
    (ChangeSpec.witness6 (enc := enc) (C := Try.checked) false ⟨#[], #[.agg #[.int .i64 0, .int .i64 0, .slice none 0 0], .int .i64 0, .int .i64 0, .slice none 0 0, .bool false], []⟩ 8 (by kernel_rfl) (by kernel_rfl) (by kernel_rfl) (by kernel_rfl)) ?_
  intro W base args ds gs before hval0 hW hcnd hsz0 _
  have hsz : (DataW.weightsEach Try.prog (Try.f12.params.toList ++ Rows.tableAsksSpec.plain.varTypes Try.prog) (ds ++ gs)).all (· ≤ reachBytes) = true := hsz0
  have hval : ∀ (j : Nat) t v, Try.f12.params[j]? = some t → args[j]? = some v → Value.okWide Try.prog W .any base t v := hval0
  have hW' := hW
  obtain ⟨p, q, hA0, hV, rfl, hfz, hnd⟩ := hW
  have hA : DataW.TrodAll enc Try.prog W 0 (fun _ => true) true Try.f12.params.toList args.toList ds p := hA0
  rw [Try.params12] at hA hval hsz
  obtain ⟨v0, vs0, d0, ds0, p0, q0, hargs, rfl, rfl, h0, r0⟩ := trodAll_cons hA
  obtain ⟨v1, vs1, d1, ds1, p1, q1, rfl, rfl, rfl, h1, r1⟩ := trodAll_cons r0
  obtain ⟨v2, vs2, d2, ds2, p2, q2, rfl, rfl, rfl, h2, r2⟩ := trodAll_cons r1
  obtain ⟨v3, vs3, d3, ds3, p3, q3, rfl, rfl, rfl, h3, r3⟩ := trodAll_cons r2
  obtain ⟨v4, vs4, d4, ds4, p4, q4, rfl, rfl, rfl, h4, r4⟩ := trodAll_cons r3
  obtain ⟨rfl, rfl, rfl⟩ := trodAll_nil r4
  obtain rfl : args = #[v0, v1, v2, v3, v4] := by cases args; simp_all
  obtain ⟨rfl, rfl⟩ := trodVars_none hV
  have k0 := h0
  have lt0 : ∀ x ∈ p0, x.block < W.heap.size := by obtain ⟨m, hm⟩ := k0; exact DataW.trod_lt m _ _ _ hm
  obtain ⟨x0, y0, a0, cap0, l0, rfl, hr0, hc0, hb0, wx0, wy0⟩ := P.open_tile (hval 0 35 v0 rfl rfl) h0
  obtain ⟨a1, rfl, rfl, rfl, w1⟩ := open_int Try.underlying3 (hval 1 3 v1 rfl rfl) h1
  obtain ⟨a2, rfl, rfl, rfl, w2⟩ := open_int Try.underlying3 (hval 2 3 v2 rfl rfl) h2
  have k3 := h3
  have lt3 : ∀ x ∈ p3, x.block < W.heap.size := by obtain ⟨m, hm⟩ := k3; exact DataW.trod_lt m _ _ _ hm
  obtain ⟨a3, cap3, l3, rfl, hr3, hc3, hm3, hb3⟩ := P.open_slice_nums Try.underlying36 Try.underlying3 (by kernel_rfl) (hval 3 36 v3 rfl rfl) h3
  obtain ⟨a4, rfl, rfl, rfl⟩ := open_bool Try.underlying4 (hval 4 4 v4 rfl rfl) h4
  clear hA0 hval0 hsz0 hsz
  obtain ⟨k, hk⟩ := Pure.TableAsks x0 y0 l0 a1 a2 l3 a4 hb0
  refine (P.herdsmanlaw12_TableAsks.calls k x0 y0 a0 cap0 l0 a1 a2 a3 cap3 l3 a4 true W hr0 hc0 hr3 hc3 hk).mono fun e W' ⟨he, bel⟩ => ?_
  subst he
  exact ⟨_, rfl, _, _, _, [], _, [], hW', trodAll_mk1 (shut_bool Try.underlying4 _), (trodAll_cons_mk (Below.trod laidOut (by kernel_rfl) (of_decide_eq_true (by kernel_rfl)) k0 bel lt0) (trodAll_cons_mk (shut_int Try.underlying3 w1) (trodAll_cons_mk (shut_int Try.underlying3 w2) (trodAll_cons_mk (Below.trod laidOut (by kernel_rfl) (of_decide_eq_true (by kernel_rfl)) k3 bel lt3) (trodAll_cons_mk (shut_bool Try.underlying4 _) trodAll_mk0))))), rfl, bel.frame _, fun h => by cases h⟩
theorem joined : joinedFacts Try.prog 12 Try.f12 Rows.tableAsksSpec Rows.tableAsksRow = true := by
  unfold joinedFacts
  rw [Start.keysNot, Start.may_of _ _ Start.words Start.later Start.refl Start.door, Start.final_of _ _ Start.words, Start.make_of _ _ Start.words]
  kernel_rfl
theorem over : Rows.tableAsksRow.holds Try.pinned (OpenSpec.ofChange Rows.tableAsksSpec) :=
  OpenClaim.holds_of_wide 12 Try.f12 rfl rfl rfl rfl rfl rfl rfl ⟨rfl, rfl, rfl, rfl, rfl⟩ rfl rfl rfl rfl rfl (by kernel_rfl) Try.func12 joined
    (of_decide_eq_true (by kernel_rfl)) (by unfold Func.isWrapper; first | (rw [if_pos (by decide +kernel)]; kernel_rfl) | (rw [if_neg (by decide +kernel)]; exact ⟨rfl, rfl⟩))
    (fun os started H enc _ => lifted os started H enc)
theorem proved : Rows.TableAsksSaid := over
#print axioms proved
end Go.Proofs.Ytgcfcemgeppkmaa.tableAsks
namespace Go.Proofs.Ytgcfcemgeppkmaa
/-- The row, under a short name, for the claim. -/
theorem tableAsks_holds : Rows.TableAsksSaid := tableAsks.proved
end Go.Proofs.Ytgcfcemgeppkmaa
