/-
  Proved: the statement WalkAsks of herdsmanlaw10 (who goes by directions, whatever they are, goes as the document says) holds of the given program; no conditions beyond the row's own.
-/
import Derived.Test.YtgcfcemgeppkmaaRows
import Derived.Test.YtgcfcemgeppkmaaPx33
import Derived.Test.YtgcfcemgeppkmaaXRow8
import Derived.WalkKit
import Derived.ProofKit
import Derived.OpenShut
import Derived.ShutString
import Derived.ChangeOld
import Derived.Below
import Derived.SizedLaws
import Derived.Lib.SmallJoins
import Derived.Test.YtgcfcemgeppkmaaWSized
import Derived.Test.YtgcfcemgeppkmaaXLawF
import Derived.Test.YtgcfcemgeppkmaaPx11
import Derived.Test.YtgcfcemgeppkmaaPx32
namespace Go.Proofs.Ytgcfcemgeppkmaa.Start
open Go
/-- The start-up word, in four parts. -/
def l1 : List Char := ([104, 97, 114, 110, 101, 115, 115] : List Nat).map Char.ofNat
def l2 : List Char := ([52, 55, 99, 100, 100, 51, 100, 98, 52, 49, 49, 57, 97, 51, 100, 53, 57, 55, 57, 57, 55, 56, 50, 99, 97, 99, 56, 101, 52, 52, 101, 52, 49, 54, 97, 51, 101, 49, 100, 98, 98, 99, 102, 52, 50, 102, 52, 97, 54, 102, 101, 51, 55, 52, 53, 56, 98, 98, 100, 57, 49, 101, 99, 49] : List Nat).map Char.ofNat
def l3 : List Char := ([99, 117, 116] : List Nat).map Char.ofNat
def l4 : List Char := ([97, 116, 32, 104, 101, 114, 100, 115, 109, 97, 110, 47, 104, 101, 114, 100, 115, 109, 97, 110, 108, 97, 119, 56, 46, 83, 101, 101, 100, 115, 83, 111, 114, 116, 115, 32, 104, 101, 114, 100, 115, 109, 97, 110, 47, 104, 101, 114, 100, 115, 109, 97, 110, 108, 97, 119, 56, 46, 83, 101, 101, 100, 115, 66, 101, 115, 116, 32, 104, 101, 114, 100, 115, 109, 97, 110, 47, 104, 101, 114, 100, 115, 109, 97, 110, 108, 97, 119, 56, 46, 83, 101, 101, 100, 115, 84, 119, 105, 99, 101, 32, 104, 101, 114, 100, 115, 109, 97, 110, 47, 104, 101, 114, 100, 115, 109, 97, 110, 108, 97, 119, 56, 46, 83, 101, 101, 100, 115, 83, 97, 109, 101, 32, 104, 101, 114, 100, 115, 109, 97, 110, 47, 104, 101, 114, 100, 115, 109, 97, 110, 108, 97, 119, 56, 46, 83, 101, 101, 100, 115, 65, 115, 107, 115, 32, 104, 101, 114, 100, 115, 109, 97, 110, 47, 104, 101, 114, 100, 115, 109, 97, 110, 108, 97, 119, 57, 46, 83, 112, 114, 101, 97, 100, 70, 105, 120, 101, 100, 32, 104, 101, 114, 100, 115, 109, 97, 110, 47, 104, 101, 114, 100, 115, 109, 97, 110, 108, 97, 119, 57, 46, 83, 112, 114, 101, 97, 100, 80, 97, 114, 116, 115, 32, 104, 101, 114, 100, 115, 109, 97, 110, 47, 104, 101, 114, 100, 115, 109, 97, 110, 108, 97, 119, 57, 46, 83, 112, 114, 101, 97, 100, 76, 97, 116, 101, 114, 32, 104, 101, 114, 100, 115, 109, 97, 110, 47, 104, 101, 114, 100, 115, 109, 97, 110, 108, 97, 119, 57, 46, 83, 112, 114, 101, 97, 100, 87, 97, 121, 115, 32, 104, 101, 114, 100, 115, 109, 97, 110, 47, 104, 101, 114, 100, 115, 109, 97, 110, 108, 97, 119, 49, 50, 46, 84, 97, 98, 108, 101, 65, 115, 107, 115, 32, 104, 101, 114, 100, 115, 109, 97, 110, 47, 104, 101, 114, 100, 115, 109, 97, 110, 108, 97, 119, 49, 50, 46, 84, 97, 98, 108, 101, 84, 111, 32, 104, 101, 114, 100, 115, 109, 97, 110, 47, 104, 101, 114, 100, 115, 109, 97, 110, 108, 97, 119, 49, 50, 46, 84, 97, 98, 108, 101, 79, 118, 101, 114, 32, 104, 101, 114, 100, 115, 109, 97, 110, 47, 104, 101, 114, 100, 115, 109, 97, 110, 108, 97, 119, 49, 50, 46, 84, 97, 98, 108, 101, 66, 97, 99, 107, 32, 104, 101, 114, 100, 115, 109, 97, 110, 47, 104, 101, 114, 100, 115, 109, 97, 110, 108, 97, 119, 49, 50, 46, 84, 97, 98, 108, 101, 67, 111, 108, 117, 109, 110, 115, 32, 104, 101, 114, 100, 115, 109, 97, 110, 47, 104, 101, 114, 100, 115, 109, 97, 110, 108, 97, 119, 49, 48, 46, 70, 105, 101, 108, 100, 65, 115, 107, 115, 32, 104, 101, 114, 100, 115, 109, 97, 110, 47, 104, 101, 114, 100, 115, 109, 97, 110, 108, 97, 119, 49, 48, 46, 70, 105, 101, 108, 100, 76, 101, 97, 100, 115, 32, 104, 101, 114, 100, 115, 109, 97, 110, 47, 104, 101, 114, 100, 115, 109, 97, 110, 108, 97, 119, 49, 48, 46, 70, 105, 101, 108, 100, 70, 105, 114, 115, 116, 32, 104, 101, 114, 100, 115, 109, 97, 110, 47, 104, 101, 114, 100, 115, 109, 97, 110, 108, 97, 119, 49, 48, 46, 87, 97, 108, 107, 65, 115, 107, 115, 32, 104, 101, 114, 100, 115, 109, 97, 110, 47, 104, 101, 114, 100, 115, 109, 97, 110, 108, 97, 119, 49, 48, 46, 87, 97, 108, 107, 69, 110, 100, 115, 32, 104, 101, 114, 100, 115, 109, 97, 110, 47, 104, 101, 114, 100, 115, 109, 97, 110, 108, 97, 119, 57, 46, 83, 112, 114, 101, 97, 100, 65, 115, 107, 115, 32, 104, 101, 114, 100, 115, 109, 97, 110, 47, 104, 101, 114, 100, 115, 109, 97, 110, 108, 97, 119, 49, 57, 46, 83, 104, 101, 108, 102, 82, 105, 103, 104, 116, 32, 104, 101, 114, 100, 115, 109, 97, 110, 47, 104, 101, 114, 100, 115, 109, 97, 110, 108, 97, 119, 49, 57, 46, 83, 104, 101, 108, 102, 79, 119, 110, 32, 104, 101, 114, 100, 115, 109, 97, 110, 47, 104, 101, 114, 100, 115, 109, 97, 110, 108, 97, 119, 49, 57, 46, 83, 104, 101, 108, 102, 80, 108, 97, 121, 115, 32, 104, 101, 114, 100, 115, 109, 97, 110, 47, 104, 101, 114, 100, 115, 109, 97, 110, 108, 97, 119, 49, 57, 46, 83, 104, 101, 108, 102, 67, 111, 117, 110, 116, 115, 32, 104, 101, 114, 100, 115, 109, 97, 110, 47, 104, 101, 114, 100, 115, 109, 97, 110, 108, 97, 119, 49, 57, 46, 83, 104, 101, 108, 102, 78, 111, 110, 101] : List Nat).map Char.ofNat
abbrev sp : Char := Char.ofNat 32
theorem ws_app (w r : List Char) (h : ∀ c ∈ w, c ≠ sp) : wordsSigns (w ++ sp :: r) = w :: wordsSigns r := by
  induction w with
  | nil => rfl
  | cons c w ih =>
    have hc : c ≠ sp := h c (by simp)
    have hw := ih (fun x hx => h x (by simp [hx]))
    rw [List.cons_append, wordsSigns.eq_3 c _ (fun h => hc h), hw]
theorem start : Try.prog.initOrder = String.ofList (l1 ++ sp :: (l2 ++ sp :: (l3 ++ sp :: l4))) := by kernel_rfl
theorem words : wordsSigns Try.prog.initOrder.toList = l1 :: l2 :: l3 :: wordsSigns l4 := by
  rw [start, String.toList_ofList, ws_app _ _ (by decide), ws_app _ _ (by decide), ws_app _ _ (by decide)]
theorem lifts_of (P : Program) (X : List (List Char)) (h : wordsSigns P.initOrder.toList = l1 :: l2 :: l3 :: X) : P.headLifts = [] := by
  unfold Program.headLifts
  rw [h]
  kernel_rfl
theorem final_of (P : Program) (X : List (List Char)) (h : wordsSigns P.initOrder.toList = l1 :: l2 :: l3 :: X) : P.liftsFinal = false := by
  unfold Program.liftsFinal
  rw [h, lifts_of P X h]
  kernel_rfl
theorem make_of (P : Program) (X : List (List Char)) (h : wordsSigns P.initOrder.toList = l1 :: l2 :: l3 :: X) : P.make = some .cut := by
  unfold Program.make
  rw [h, lifts_of P X h]
  kernel_rfl
theorem may_of (P : Program) (X : List (List Char)) (h : wordsSigns P.initOrder.toList = l1 :: l2 :: l3 :: X) (h1 : P.laysLater = false) (h2 : P.bearsReflect = false) (h3 : P.doorRows = []) : P.mayEnter = true := by
  unfold Program.mayEnter
  rw [h, h1, h2]
  unfold Program.doorFits
  rw [h3]
  kernel_rfl
theorem refl : Try.prog.bearsReflect = false := by kernel_rfl
theorem later : Try.prog.laysLater = false := by kernel_rfl
theorem door : Try.prog.doorRows = [] := by kernel_rfl
theorem keysNot : Try.prog.plainKeys = false := by
  unfold Program.plainKeys
  rw [List.all_eq_false]
  exact ⟨148, List.mem_range.2 (of_decide_eq_true (by kernel_rfl)), Bool.eq_false_iff.1 (by kernel_rfl)⟩
end Go.Proofs.Ytgcfcemgeppkmaa.Start
namespace Go.Proofs.Ytgcfcemgeppkmaa.Pure
open Go.RowKit Go.Proofs.Ytgcfcemgeppkmaa.P Go.Proofs.YtgcfcemgeppkmaaW.PrintWords Go.Proofs.YtgcfcemgeppkmaaW.PrintLast Go.Proofs.YtgcfcemgeppkmaaW.PrintMore
set_option linter.unusedVariables false

theorem goS_len (W H : Int) (E : List Int) : ∀ (n : Nat) (c : Int), (goS W H E n c).length ≤ n + 1 := by
  intro n
  induction n with
  | zero => intro c; simp [goS]
  | succ n ih =>
    intro c
    unfold goS
    split
    · have := ih (nearS W H c (rd E c)); simp; omega
    · simp
theorem goS_ne (W H : Int) (E : List Int) (n : Nat) (c : Int) : goS W H E n c ≠ [] := by
  cases n with
  | zero => simp [goS]
  | succ n => unfold goS; split <;> simp
theorem lastS_pre (l : List Int) {r : List Int} (h : r ≠ []) : lastS (l ++ r) = lastS r := by
  have h2 : l ++ r ≠ [] := by simp [h]
  unfold lastS
  rw [List.getLastD_eq_getLast?, List.getLastD_eq_getLast?, List.getLast?_append]
  obtain ⟨a, ha⟩ : ∃ a, r.getLast? = some a := ⟨r.getLast h, List.getLast?_eq_some_getLast h⟩
  rw [ha]
  rfl
theorem rd_snoc (l : List Int) (c : Int) : rd (l ++ [c]) (l.length : Int) = c := by
  rw [rd_get (l ++ [c]) (by simp)]
  simp
theorem rwalk_l0 {W H : Int} {C D E : List Int} (ht : TileOk W H C) (hE : E.length = C.length) : ∀ (n : Nat) (pre : List Int) (c k : Nat), pre.length + 1 + n = C.length → c < C.length → n + 10 < k →
    herdsmanref7_Walk.l0 k (pre ++ [(c : Int)]) W H C D E = some (pre ++ goS W H E n (c : Int), rd E (lastS (goS W H E n (c : Int)))) := by
  obtain ⟨a1, a2, a3, a4, a5, a6⟩ := ht
  have hm := mul_small ⟨a1, a2⟩ ⟨a3, a4⟩
  have hlast : ∀ (pre : List Int) (c : Nat), rd (pre ++ [(c : Int)]) (((pre ++ [(c : Int)]).length : Int) - 1) = (c : Int) := fun pre c => by
    have := rd_snoc pre (c : Int)
    rw [show (((pre ++ [(c : Int)]).length : Int) - 1) = (pre.length : Int) by simp]
    exact this
  intro n
  induction n with
  | zero =>
    intro pre c k hp hc hk
    obtain ⟨k, rfl⟩ : ∃ m, k = m + 1 := ⟨k - 1, by omega⟩
    have hl : (pre ++ [(c : Int)]).length = C.length := by simp; omega
    rw [herdsmanref7_Walk.l0, if_neg (by omega), w64 (n := ((pre ++ [(c : Int)]).length : Int) - 1) (by omega) (by omega), hlast, if_pos (by omega), if_pos (by omega), if_pos (by omega), if_pos (by omega)]
    rfl
  | succ n ih =>
    intro pre c k hp hc hk
    obtain ⟨k, rfl⟩ : ∃ m, k = m + 1 := ⟨k - 1, by omega⟩
    have hl : (pre ++ [(c : Int)]).length + (n + 1) = C.length := by simp; omega
    have hstop : ¬ 0 ≤ nearS W H c (rd E (c : Int)) → some (pre ++ [(c : Int)], rd E (c : Int)) = some (pre ++ goS W H E (n + 1) (c : Int), rd E (lastS (goS W H E (n + 1) (c : Int)))) := fun h => by
      rw [goS_stop h]
      rfl
    rw [herdsmanref7_Walk.l0, if_pos (by omega), w64 (n := ((pre ++ [(c : Int)]).length : Int) - 1) (by omega) (by omega), hlast, if_pos (by omega), if_pos (by omega), if_pos (by omega), if_pos (by omega), refIn_some, Option.bind_some]
    by_cases hs : 0 ≤ rd E (c : Int) ∧ rd E (c : Int) ≤ 3
    · obtain ⟨j, hj⟩ : ∃ n, k = n + 5 := ⟨k - 5, by omega⟩
      have hstep : herdsmanref1_Step.f k W H (c : Int) (rd E (c : Int)) = some (if OutE W H c (rd E (c : Int)) then -1 else nbS W c (rd E (c : Int))) := by
        rw [hj]
        exact step_val ⟨a1, a2⟩ ⟨a3, a4⟩ (by omega) (by omega) (by omega) j
      rw [if_pos (decide_eq_true hs), hstep, Option.bind_some]
      by_cases ho : OutE W H c (rd E (c : Int))
      · rw [if_pos ho, if_pos (by omega)]
        exact hstop (by rw [nearS_out (.inl ho)]; omega)
      · obtain ⟨b0, b1, _⟩ := nb_in ⟨a1, a2⟩ ⟨a3, a4⟩ a5 (show (0 : Int) ≤ (c : Int) by omega) (by omega) hs ho
        have hn : nearS W H c (rd E (c : Int)) = nbS W c (rd E (c : Int)) := nearS_in hs ho
        rw [if_neg ho, if_neg (by omega), if_pos (by omega)]
        obtain ⟨q, hq⟩ : ∃ q : Nat, nbS W c (rd E (c : Int)) = (q : Int) := ⟨(nbS W c (rd E (c : Int))).toNat, by omega⟩
        rw [hq]
        rw [ih (pre ++ [(c : Int)]) q k (by simp; omega) (by omega) (by omega)]
        rw [goS_on (by rw [hn]; omega), hn, hq]
        rw [show (c : Int) :: goS W H E n (q : Int) = [(c : Int)] ++ goS W H E n (q : Int) from rfl, lastS_pre _ (goS_ne _ _ _ _ _), List.append_assoc]
    · rw [if_neg (by simpa using hs)]
      exact hstop (by rw [nearS_out (.inr (by omega))]; omega)
theorem rwalk_some (W H : Int) (C D E : List Int) (hC : C.length ≤ 1000) (i : Int) (k : Nat) (hk : 3000 ≤ k) : herdsmanref7_Walk.f k W H C D E i = walkF W H C D E i := by
  obtain ⟨k, rfl⟩ : ∃ m, k = m + 1 := ⟨k - 1, by omega⟩
  have hno : herdsmanref7_Walk.j0 (k + 1) i true W H C D E = some ([], 5) := by rw [herdsmanref7_Walk.j0, if_pos rfl]
  unfold herdsmanref7_Walk.f walkF
  rw [mayTileA W H C hC (k + 1) (by omega), Option.bind_some]
  by_cases ht : TileOk W H C
  · rw [if_pos (decide_eq_true ht)]
    by_cases h1 : (D.length : Int) = (C.length : Int)
    · rw [if_pos h1]
      by_cases h2 : (E.length : Int) = (C.length : Int)
      · rw [if_pos h2, refIn_some, Option.bind_some, w64 (n := (C.length : Int) - 1) (by omega) (by omega)]
        by_cases h3 : 0 ≤ i ∧ i ≤ (C.length : Int) - 1
        · obtain ⟨c, rfl⟩ : ∃ c : Nat, i = (c : Int) := ⟨i.toNat, by omega⟩
          rw [if_pos ⟨ht, by omega, by omega, by omega, by omega⟩, decide_eq_true h3, herdsmanref7_Walk.j0, if_neg (by simp)]
          have := rwalk_l0 (W := W) (H := H) (C := C) (D := D) (E := E) ht (by omega) (C.length - 1) [] c k (by simp; omega) (by omega) (by omega)
          exact this
        · rw [if_neg (by omega), decide_eq_false h3]
          exact hno
      · rw [if_neg h2, if_neg (by omega)]
        exact hno
    · rw [if_neg h1, if_neg (by omega)]
      exact hno
  · rw [if_neg (by simpa using ht), if_neg (fun h => ht h.1)]
    exact hno
theorem walk_j2 (W H : Int) (C D E : List Int) (hC : C.length ≤ 1000) (i : Int) (k : Nat) (hk : 4000 ≤ k) : herdsmanlaw10_WalkAsks.j2 k i W H C D E = some true := by
  obtain ⟨k, rfl⟩ : ∃ m, k = m + 1 := ⟨k - 1, by omega⟩
  have hw : steer_Walk.f W H C D E i = walkF W H C D E i := rfl
  obtain ⟨a, d, e, hl⟩ : ∃ a d, walkF W H C D E i = some (a, d) ∧ a.length ≤ 2000 := by
    unfold walkF
    split
    · exact ⟨_, _, rfl, by have := goS_len W H E (C.length - 1) i; omega⟩
    · exact ⟨_, _, rfl, by simp⟩
  rw [herdsmanlaw10_WalkAsks.j2, hw, rwalk_some W H C D E hC i k (by omega), e, Option.bind_some, Option.bind_some, told10_some, Option.bind_some, if_pos rfl]
  dsimp only
  rw [ints_self a (by omega) k (by omega), Option.bind_some, if_pos rfl]
  simp
theorem walk_l0 (W H : Int) (C D : List Int) (hC : C.length ≤ 1000) (i : Int) (l3 : List Int) (h3 : l3.length ≤ 1000) : ∀ (d q k : Nat) (E : List Int), q + d = C.length → E.length = C.length → d + 5000 < k → herdsmanlaw10_WalkAsks.l0 k l3 i (q : Int) W H C D E = some true := by
  intro d
  induction d with
  | zero =>
    intro q k E hq hE hk
    obtain ⟨k, rfl⟩ : ∃ m, k = m + 1 := ⟨k - 1, by omega⟩
    rw [herdsmanlaw10_WalkAsks.l0, if_neg (by omega)]
    exact walk_j2 W H C D E hC i k (by omega)
  | succ d ih =>
    intro q k E hq hE hk
    obtain ⟨k, rfl⟩ : ∃ m, k = m + 1 := ⟨k - 1, by omega⟩
    rw [herdsmanlaw10_WalkAsks.l0, if_pos (by omega)]
    by_cases h0 : (l3.length : Int) > 0
    · have e0 := Int.emod_nonneg (q : Int) (show (l3.length : Int) ≠ 0 by omega)
      have e1 := Int.emod_lt_of_pos (q : Int) h0
      rw [if_pos h0, if_neg (by omega), tmod_nn (by omega), if_pos e0, if_pos e1, within_some _ (lo := 0) (hi := 5) (by omega) (by omega) (by omega), Option.bind_some, if_pos (by omega), if_pos (by omega), w64 (n := (q : Int) + 1) (by omega) (by omega)]
      exact ih (q + 1) k _ (by omega) (by rw [List.length_set]; exact hE) (by omega)
    · rw [if_neg h0]
      exact walk_j2 W H C D E hC i k (by omega)
theorem WalkAsks (W H : Int) (C : List Int) (a1 a2 : Int) (l3 : List Int) (a4 : Int) (a5 : Bool) (hb : ∀ x ∈ C, (Lit.int .u8 x).wf = true) : ∃ k, herdsmanlaw10_WalkAsks.f k W H C a1 a2 l3 a4 a5 = some true := by
  refine ⟨8001, ?_⟩
  have hj : herdsmanlaw10_WalkAsks.j0 8001 a1 a2 l3 a4 a5 true W H C = some true := by
    rw [herdsmanlaw10_WalkAsks.j0, if_pos rfl, told10_some, Option.bind_some]
  unfold herdsmanlaw10_WalkAsks.f
  by_cases h : (C.length : Int) > 600
  · rw [if_pos h]; exact hj
  · rw [if_neg h]
    by_cases h3 : (l3.length : Int) > 600
    · rw [decide_eq_true h3]; exact hj
    · have hown : herdsmanref1_OwnTile.f W H C = some (W, H, C) := by
        unfold herdsmanref1_OwnTile.f
        rw [Option.bind_some, if_pos (by simp only [List.length_nil]; omega), List.nil_append]
      rw [decide_eq_false h3, herdsmanlaw10_WalkAsks.j0, if_neg (by simp), hown, Option.bind_some, Option.bind_some, if_pos (by simp only [List.length_nil]; omega), if_pos (by omega), if_pos (by omega), List.nil_append]
      by_cases h5 : a5 = true
      · rw [if_pos h5]
        exact walk_j2 W H C _ l3 (by omega) a4 8000 (by omega)
      · obtain ⟨V, G, D, hM, ht, hd⟩ := madeTile_some a1 a2 C (u8_wf hb) (by omega)
        obtain ⟨t1, t2, t3, t4, t5, t6⟩ := id ht
        have hm := mul_small ⟨t1, t2⟩ ⟨t3, t4⟩
        rw [if_neg h5, hM _ (by omega), Option.bind_some]
        dsimp only
        rw [within_some a4 (lo := -1) (hi := (D.length : Int)) (by omega) (by omega) (by omega), Option.bind_some, if_pos (by omega), if_pos (by omega)]
        exact walk_l0 V G D _ (by omega) _ l3 (by omega) D.length 0 8000 _ (by omega) (by simp) (by omega)
end Go.Proofs.Ytgcfcemgeppkmaa.Pure
namespace Go.Proofs.Ytgcfcemgeppkmaa.walkAsks
open Go.ChangeShapes Go.WideShapes Go.ChangeAt Go.RowKit
open Go.ChangeMaps (open_string shut_string)
set_option linter.unusedVariables false
theorem own : ownKnob Try.prog.godebug = none := by kernel_rfl
theorem laidOut : laidOutB Try.prog = true := by kernel_rfl
set_option maxRecDepth 100000 in
theorem lifted (os : Os) (started : os.Started) (H : Type) (enc : TypeId × Value → H) :
    ReturnsInHanded {} Try.checked os 20 .any (Rows.walkAsksSpec.pre6 enc Try.prog Try.f20 Rows.walkAsksRow.domain false) (Rows.walkAsksSpec.post enc Try.prog Try.f20 false true false false) := by
  refine returnsInHanded_of_change_sized (C := Try.checked) own started (by kernel_rfl) Try.func20
    (ChangeSpec.witness6 (enc := enc) (C := Try.checked) false ⟨#[], #[.agg #[.int .i64 0, .int .i64 0, .slice none 0 0], .int .i64 0, .int .i64 0, .slice none 0 0, .int .i64 0, .bool false], []⟩ 8 (by kernel_rfl) (by kernel_rfl) (by kernel_rfl) (by kernel_rfl)) ?_
  intro W base args ds gs before hval0 hW hcnd hsz0 _
  have hsz : (DataW.weightsEach Try.prog (Try.f20.params.toList ++ Rows.walkAsksSpec.plain.varTypes Try.prog) (ds ++ gs)).all (· ≤ reachBytes) = true := hsz0
  have hval : ∀ (j : Nat) t v, Try.f20.params[j]? = some t → args[j]? = some v → Value.okWide Try.prog W .any base t v := hval0
  have hW' := hW
  obtain ⟨p, q, hA0, hV, rfl, hfz, hnd⟩ := hW
  have hA : DataW.TrodAll enc Try.prog W 0 (fun _ => true) true Try.f20.params.toList args.toList ds p := hA0
  rw [Try.params20] at hA hval hsz
  obtain ⟨v0, vs0, d0, ds0, p0, q0, hargs, rfl, rfl, h0, r0⟩ := trodAll_cons hA
  obtain ⟨v1, vs1, d1, ds1, p1, q1, rfl, rfl, rfl, h1, r1⟩ := trodAll_cons r0
  obtain ⟨v2, vs2, d2, ds2, p2, q2, rfl, rfl, rfl, h2, r2⟩ := trodAll_cons r1
  obtain ⟨v3, vs3, d3, ds3, p3, q3, rfl, rfl, rfl, h3, r3⟩ := trodAll_cons r2
  obtain ⟨v4, vs4, d4, ds4, p4, q4, rfl, rfl, rfl, h4, r4⟩ := trodAll_cons r3
  obtain ⟨v5, vs5, d5, ds5, p5, q5, rfl, rfl, rfl, h5, r5⟩ := trodAll_cons r4
  obtain ⟨rfl, rfl, rfl⟩ := trodAll_nil r5
  obtain rfl : args = #[v0, v1, v2, v3, v4, v5] := by cases args; simp_all
  obtain ⟨rfl, rfl⟩ := trodVars_none hV
  have k0 := h0
  have lt0 : ∀ x ∈ p0, x.block < W.heap.size := by obtain ⟨m, hm⟩ := k0; exact DataW.trod_lt m _ _ _ hm
  obtain ⟨x0, y0, a0, cap0, l0, rfl, hr0, hc0, hb0, wx0, wy0⟩ := P.open_tile (hval 0 35 v0 rfl rfl) h0
  obtain ⟨a1, rfl, rfl, rfl, w1⟩ := open_int Try.underlying3 (hval 1 3 v1 rfl rfl) h1
  obtain ⟨a2, rfl, rfl, rfl, w2⟩ := open_int Try.underlying3 (hval 2 3 v2 rfl rfl) h2
  have k3 := h3
  have lt3 : ∀ x ∈ p3, x.block < W.heap.size := by obtain ⟨m, hm⟩ := k3; exact DataW.trod_lt m _ _ _ hm
  obtain ⟨a3, cap3, l3, rfl, hr3, hc3, hm3, hb3⟩ := P.open_slice_nums Try.underlying36 Try.underlying3 (by kernel_rfl) (hval 3 36 v3 rfl rfl) h3
  obtain ⟨a4, rfl, rfl, rfl, w4⟩ := open_int Try.underlying3 (hval 4 3 v4 rfl rfl) h4
  obtain ⟨a5, rfl, rfl, rfl⟩ := open_bool Try.underlying4 (hval 5 4 v5 rfl rfl) h5
  clear hA0 hval0 hsz0 hsz
  obtain ⟨k, hk⟩ := Pure.WalkAsks x0 y0 l0 a1 a2 l3 a4 a5 hb0
  refine (P.herdsmanlaw10_WalkAsks.calls k x0 y0 a0 cap0 l0 a1 a2 a3 cap3 l3 a4 a5 true W hr0 hc0 hr3 hc3 hk).mono fun e W' ⟨he, bel⟩ => ?_
  subst he
  exact ⟨_, rfl, _, _, _, [], _, [], hW', trodAll_mk1 (shut_bool Try.underlying4 _), (trodAll_cons_mk (Below.trod laidOut (by kernel_rfl) (of_decide_eq_true (by kernel_rfl)) k0 bel lt0) (trodAll_cons_mk (shut_int Try.underlying3 w1) (trodAll_cons_mk (shut_int Try.underlying3 w2) (trodAll_cons_mk (Below.trod laidOut (by kernel_rfl) (of_decide_eq_true (by kernel_rfl)) k3 bel lt3) (trodAll_cons_mk (shut_int Try.underlying3 w4) (trodAll_cons_mk (shut_bool Try.underlying4 _) trodAll_mk0)))))), rfl, bel.frame _, fun h => by cases h⟩
theorem joined : joinedFacts Try.prog 20 Try.f20 Rows.walkAsksSpec Rows.walkAsksRow = true := by
  unfold joinedFacts
  rw [Start.keysNot, Start.may_of _ _ Start.words Start.later Start.refl Start.door, Start.final_of _ _ Start.words, Start.make_of _ _ Start.words]
  kernel_rfl
theorem over : Rows.walkAsksRow.holds Try.pinned (OpenSpec.ofChange Rows.walkAsksSpec) :=
  OpenClaim.holds_of_wide 20 Try.f20 rfl rfl rfl rfl rfl rfl rfl ⟨rfl, rfl, rfl, rfl, rfl⟩ rfl rfl rfl rfl rfl (by kernel_rfl) Try.func20 joined
    (of_decide_eq_true (by kernel_rfl)) (by unfold Func.isWrapper; first | (rw [if_pos (by decide +kernel)]; kernel_rfl) | (rw [if_neg (by decide +kernel)]; exact ⟨rfl, rfl⟩))
    (fun os started H enc _ => lifted os started H enc)
theorem proved : Rows.WalkAsksSaid := over
#print axioms proved
end Go.Proofs.Ytgcfcemgeppkmaa.walkAsks
namespace Go.Proofs.Ytgcfcemgeppkmaa
/-- The row, under a short name, for the claim. -/
theorem walkAsks_holds : Rows.WalkAsksSaid := walkAsks.proved
end Go.Proofs.Ytgcfcemgeppkmaa
