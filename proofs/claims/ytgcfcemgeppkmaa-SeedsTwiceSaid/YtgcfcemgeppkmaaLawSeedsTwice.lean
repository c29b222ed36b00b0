/-
  Proved: the statement SeedsTwice of herdsmanlaw8 (sorted twice is as once, in whatever order they come; they rise, and are the same seeds) holds of the given program; no conditions beyond the row's own.
-/
import Derived.Test.YtgcfcemgeppkmaaRows
import Derived.Test.YtgcfcemgeppkmaaPx31
import Derived.Test.YtgcfcemgeppkmaaXRow8
import Derived.WalkKit
import Derived.ProofKit
import Derived.OpenShut
import Derived.ShutString
import Derived.ChangeOld
import Derived.Below
import Derived.SizedLaws
import Derived.Lib.SmallJoins
import Derived.Test.YtgcfcemgeppkmaaWSized
import Derived.Test.YtgcfcemgeppkmaaXLaw8
namespace Go.Proofs.Ytgcfcemgeppkmaa.Start
open Go
/-- The start-up word, in four parts. -/
def l1 : List Char := ([104, 97, 114, 110, 101, 115, 115] : List Nat).map Char.ofNat
def l2 : List Char := ([52, 55, 99, 100, 100, 51, 100, 98, 52, 49, 49, 57, 97, 51, 100, 53, 57, 55, 57, 57, 55, 56, 50, 99, 97, 99, 56, 101, 52, 52, 101, 52, 49, 54, 97, 51, 101, 49, 100, 98, 98, 99, 102, 52, 50, 102, 52, 97, 54, 102, 101, 51, 55, 52, 53, 56, 98, 98, 100, 57, 49, 101, 99, 49] : List Nat).map Char.ofNat
def l3 : List Char := ([99, 117, 116] : List Nat).map Char.ofNat
def l4 : List Char := ([97, 116, 32, 104, 101, 114, 100, 115, 109, 97, 110, 47, 104, 101, 114, 100, 115, 109, 97, 110, 108, 97, 119, 56, 46, 83, 101, 101, 100, 115, 83, 111, 114, 116, 115, 32, 104, 101, 114, 100, 115, 109, 97, 110, 47, 104, 101, 114, 100, 115, 109, 97, 110, 108, 97, 119, 56, 46, 83, 101, 101, 100, 115, 66, 101, 115, 116, 32, 104, 101, 114, 100, 115, 109, 97, 110, 47, 104, 101, 114, 100, 115, 109, 97, 110, 108, 97, 119, 56, 46, 83, 101, 101, 100, 115, 84, 119, 105, 99, 101, 32, 104, 101, 114, 100, 115, 109, 97, 110, 47, 104, 101, 114, 100, 115, 109, 97, 110, 108, 97, 119, 56, 46, 83, 101, 101, 100, 115, 83, 97, 109, 101, 32, 104, 101, 114, 100, 115, 109, 97, 110, 47, 104, 101, 114, 100, 115, 109, 97, 110, 108, 97, 119, 56, 46, 83, 101, 101, 100, 115, 65, 115, 107, 115, 32, 104, 101, 114, 100, 115, 109, 97, 110, 47, 104, 101, 114, 100, 115, 109, 97, 110, 108, 97, 119, 57, 46, 83, 112, 114, 101, 97, 100, 70, 105, 120, 101, 100, 32, 104, 101, 114, 100, 115, 109, 97, 110, 47, 104, 101, 114, 100, 115, 109, 97, 110, 108, 97, 119, 57, 46, 83, 112, 114, 101, 97, 100, 80, 97, 114, 116, 115, 32, 104, 101, 114, 100, 115, 109, 97, 110, 47, 104, 101, 114, 100, 115, 109, 97, 110, 108, 97, 119, 57, 46, 83, 112, 114, 101, 97, 100, 76, 97, 116, 101, 114, 32, 104, 101, 114, 100, 115, 109, 97, 110, 47, 104, 101, 114, 100, 115, 109, 97, 110, 108, 97, 119, 57, 46, 83, 112, 114, 101, 97, 100, 87, 97, 121, 115, 32, 104, 101, 114, 100, 115, 109, 97, 110, 47, 104, 101, 114, 100, 115, 109, 97, 110, 108, 97, 119, 49, 50, 46, 84, 97, 98, 108, 101, 65, 115, 107, 115, 32, 104, 101, 114, 100, 115, 109, 97, 110, 47, 104, 101, 114, 100, 115, 109, 97, 110, 108, 97, 119, 49, 50, 46, 84, 97, 98, 108, 101, 84, 111, 32, 104, 101, 114, 100, 115, 109, 97, 110, 47, 104, 101, 114, 100, 115, 109, 97, 110, 108, 97, 119, 49, 50, 46, 84, 97, 98, 108, 101, 79, 118, 101, 114, 32, 104, 101, 114, 100, 115, 109, 97, 110, 47, 104, 101, 114, 100, 115, 109, 97, 110, 108, 97, 119, 49, 50, 46, 84, 97, 98, 108, 101, 66, 97, 99, 107, 32, 104, 101, 114, 100, 115, 109, 97, 110, 47, 104, 101, 114, 100, 115, 109, 97, 110, 108, 97, 119, 49, 50, 46, 84, 97, 98, 108, 101, 67, 111, 108, 117, 109, 110, 115, 32, 104, 101, 114, 100, 115, 109, 97, 110, 47, 104, 101, 114, 100, 115, 109, 97, 110, 108, 97, 119, 49, 48, 46, 70, 105, 101, 108, 100, 65, 115, 107, 115, 32, 104, 101, 114, 100, 115, 109, 97, 110, 47, 104, 101, 114, 100, 115, 109, 97, 110, 108, 97, 119, 49, 48, 46, 70, 105, 101, 108, 100, 76, 101, 97, 100, 115, 32, 104, 101, 114, 100, 115, 109, 97, 110, 47, 104, 101, 114, 100, 115, 109, 97, 110, 108, 97, 119, 49, 48, 46, 70, 105, 101, 108, 100, 70, 105, 114, 115, 116, 32, 104, 101, 114, 100, 115, 109, 97, 110, 47, 104, 101, 114, 100, 115, 109, 97, 110, 108, 97, 119, 49, 48, 46, 87, 97, 108, 107, 65, 115, 107, 115, 32, 104, 101, 114, 100, 115, 109, 97, 110, 47, 104, 101, 114, 100, 115, 109, 97, 110, 108, 97, 119, 49, 48, 46, 87, 97, 108, 107, 69, 110, 100, 115, 32, 104, 101, 114, 100, 115, 109, 97, 110, 47, 104, 101, 114, 100, 115, 109, 97, 110, 108, 97, 119, 57, 46, 83, 112, 114, 101, 97, 100, 65, 115, 107, 115, 32, 104, 101, 114, 100, 115, 109, 97, 110, 47, 104, 101, 114, 100, 115, 109, 97, 110, 108, 97, 119, 49, 57, 46, 83, 104, 101, 108, 102, 82, 105, 103, 104, 116, 32, 104, 101, 114, 100, 115, 109, 97, 110, 47, 104, 101, 114, 100, 115, 109, 97, 110, 108, 97, 119, 49, 57, 46, 83, 104, 101, 108, 102, 79, 119, 110, 32, 104, 101, 114, 100, 115, 109, 97, 110, 47, 104, 101, 114, 100, 115, 109, 97, 110, 108, 97, 119, 49, 57, 46, 83, 104, 101, 108, 102, 80, 108, 97, 121, 115, 32, 104, 101, 114, 100, 115, 109, 97, 110, 47, 104, 101, 114, 100, 115, 109, 97, 110, 108, 97, 119, 49, 57, 46, 83, 104, 101, 108, 102, 67, 111, 117, 110, 116, 115, 32, 104, 101, 114, 100, 115, 109, 97, 110, 47, 104, 101, 114, 100, 115, 109, 97, 110, 108, 97, 119, 49, 57, 46, 83, 104, 101, 108, 102, 78, 111, 110, 101] : List Nat).map Char.ofNat
abbrev sp : Char := Char.ofNat 32
theorem ws_app (w r : List Char) (h : ∀ c ∈ w, c ≠ sp) : wordsSigns (w ++ sp :: r) = w :: wordsSigns r := by
  induction w with
  | nil => rfl
  | cons c w ih =>
    have hc : c ≠ sp := h c (by simp)
    have hw := ih (fun x hx => h x (by simp [hx]))
    rw [List.cons_append, wordsSigns.eq_3 c _ (fun h => hc h), hw]
theorem start : Try.prog.initOrder = String.ofList (l1 ++ sp :: (l2 ++ sp :: (l3 ++ sp :: l4))) := by kernel_rfl
theorem words : wordsSigns Try.prog.initOrder.toList = l1 :: l2 :: l3 :: wordsSigns l4 := by
  rw [start, String.toList_ofList, ws_app _ _ (by decide), ws_app _ _ (by decide), ws_app _ _ (by decide)]
theorem lifts_of (P : Program) (X : List (List Char)) (h : wordsSigns P.initOrder.toList = l1 :: l2 :: l3 :: X) : P.headLifts = [] := by
  unfold Program.headLifts
  rw [h]
  kernel_rfl
theorem final_of (P : Program) (X : List (List Char)) (h : wordsSigns P.initOrder.toList = l1 :: l2 :: l3 :: X) : P.liftsFinal = false := by
  unfold Program.liftsFinal
  rw [h, lifts_of P X h]
  kernel_rfl
theorem make_of (P : Program) (X : List (List Char)) (h : wordsSigns P.initOrder.toList = l1 :: l2 :: l3 :: X) : P.make = some .cut := by
  unfold Program.make
  rw [h, lifts_of P X h]
  kernel_rfl
theorem may_of (P : Program) (X : List (List Char)) (h : wordsSigns P.initOrder.toList = l1 :: l2 :: l3 :: X) (h1 : P.laysLater = false) (h2 : P.bearsReflect = false) (h3 : P.doorRows = []) : P.mayEnter = true := by
  unfold Program.mayEnter
  rw [h, h1, h2]
  unfold Program.doorFits
  rw [h3]
  kernel_rfl
theorem refl : Try.prog.bearsReflect = false := by kernel_rfl
theorem later : Try.prog.laysLater = false := by kernel_rfl
theorem door : Try.prog.doorRows = [] := by kernel_rfl
theorem keysNot : Try.prog.plainKeys = false := by
  unfold Program.plainKeys
  rw [List.all_eq_false]
  exact ⟨148, List.mem_range.2 (of_decide_eq_true (by kernel_rfl)), Bool.eq_false_iff.1 (by kernel_rfl)⟩
end Go.Proofs.Ytgcfcemgeppkmaa.Start
namespace Go.Proofs.Ytgcfcemgeppkmaa.Pure
open Go.RowKit Go.Proofs.Ytgcfcemgeppkmaa.P Go.Proofs.YtgcfcemgeppkmaaW.PrintWords Go.Proofs.YtgcfcemgeppkmaaW.PrintLast Go.Proofs.YtgcfcemgeppkmaaW.PrintMore

theorem within2 (x : Int) {n : Int} (h0 : 0 ≤ n) (h1 : n ≤ 1000000) : herdsmanref1_Within.f x 0 n = some (x % (n + 1)) := by
  unfold herdsmanref1_Within.f
  have e1 : wrap64 (n - 0) = n := by rw [w64 (by omega) (by omega)]; omega
  have e2 : wrap64 (n + 1) = n + 1 := w64 (by omega) (by omega)
  have hp := Int.emod_nonneg x (show n + 1 ≠ 0 by omega)
  have hq := Int.emod_lt_of_pos x (show 0 < n + 1 by omega)
  have ht := Int.tmod_eq_emod (a := x) (b := n + 1)
  have hna : ((n + 1).natAbs : Int) = n + 1 := by omega
  simp only [e1, e2]
  rw [if_neg (by omega)]
  by_cases hc : 0 ≤ x ∨ n + 1 ∣ x
  · rw [if_pos hc] at ht
    rw [show Int.tmod x (n + 1) = x % (n + 1) by omega, if_neg (by omega), w64 (by omega) (by omega)]
    congr 1; omega
  · rw [if_neg hc, hna] at ht
    have hne : x % (n + 1) ≠ 0 := fun h => hc (.inr (Int.dvd_of_emod_eq_zero h))
    rw [show Int.tmod x (n + 1) = x % (n + 1) - (n + 1) by omega, if_pos (by omega)]
    rw [w64 (n := x % (n + 1) - (n + 1) + n) (by omega) (by omega), w64 (n := x % (n + 1) - (n + 1) + n - 0) (by omega) (by omega), w64 (n := x % (n + 1) - (n + 1) + n - 0 + 1) (by omega) (by omega), w64 (by omega) (by omega)]
    congr 1; omega
theorem sortU_lenT (l : List Seed) : (sortU l).length ≤ l.length := by
  have hi : ∀ (x : Seed) (l : List Seed), (insS x l).length ≤ l.length + 1 := by
    intro x l
    induction l with
    | nil => simp [insS]
    | cons y r ih => unfold insS; split <;> (try split) <;> simp <;> omega
  have : ∀ (l acc : List Seed), (l.foldl (fun acc x => insS x acc) acc).length ≤ acc.length + l.length := by
    intro l
    induction l with
    | nil => intro acc; simp
    | cons x r ih => intro acc; have := ih (insS x acc); have := hi x acc; simp only [List.foldl_cons, List.length_cons]; omega
  simpa [sortU] using this l []
theorem SeedsTwice (l0 : List Seed) (a1 : Int) : ∃ k, herdsmanlaw8_SeedsTwice.f k l0 a1 = some true := by
  have hsl : (l0.take (min l0.length 60)).length ≤ 60 := by rw [List.length_take]; omega
  obtain ⟨s, es⟩ : ∃ s, s = l0.take (min l0.length 60) := ⟨_, rfl⟩
  rw [← es] at hsl
  have h1 := Int.emod_nonneg a1 (show (s.length : Int) + 1 ≠ 0 by omega)
  have h2 := Int.emod_lt_of_pos a1 (show 0 < (s.length : Int) + 1 by omega)
  obtain ⟨n, hn⟩ : ∃ n : Nat, a1 % ((s.length : Int) + 1) = (n : Int) := ⟨(a1 % ((s.length : Int) + 1)).toNat, by omega⟩
  rw [hn] at h1 h2
  have hy : sortU ([] ++ s.drop n ++ s.take n) = sortU s := by
    refine rises_unique (rises_sortU _) (rises_sortU _) (fun z => ?_)
    rw [mem_sortU, mem_sortU]
    simp only [List.nil_append, List.mem_append]
    have := List.take_append_drop n s
    constructor
    · rintro (h | h)
      · exact List.mem_of_mem_drop h
      · exact List.mem_of_mem_take h
    · intro h
      rw [← this, List.mem_append] at h
      exact h.symm
  have hx2 : sortU (sortU s) = sortU s := rises_unique (rises_sortU _) (rises_sortU _) (fun z => by rw [mem_sortU])
  have hxl := sortU_lenT s
  have hmem : ∀ z, z ∈ sortU s ↔ z ∈ s := mem_sortU s
  have hris := rises_sortU s
  generalize hxs : sortU s = x at hy hx2 hxl hmem hris
  have hsort : ∀ l, l.length ≤ 1000 → seeds_Sort.f l = some (sortU l) := fun l hl => sort_some8 l (by omega)
  have l3 : ∀ (k2 : Nat) (i : Nat), i < s.length → ∀ (d j k : Nat) (b : Bool), j + d = x.length → (b = true ∨ s[i]! ∈ x.drop j) → k = k2 + d + 1 → herdsmanlaw8_SeedsTwice.l3 k s x x (i : Int) b (j : Int) = herdsmanlaw8_SeedsTwice.l2 k2 s x x ((i : Int) + 1) := by
    intro k2 i hi d
    induction d with
    | zero =>
      intro j k b hj hb hk
      subst hk
      have hb' : b = true := by
        rcases hb with h | h
        · exact h
        · rw [List.drop_eq_nil_of_le (by omega)] at h; simp at h
      rw [herdsmanlaw8_SeedsTwice.l3, if_neg (by omega), if_pos hb', w64 (n := (i : Int) + 1) (by omega) (by omega)]
    | succ d ih =>
      intro j k b hj hb hk
      obtain ⟨k, rfl⟩ : ∃ m, k = m + 1 := ⟨k - 1, by omega⟩
      have hjl : j < x.length := by omega
      rw [herdsmanlaw8_SeedsTwice.l3, if_pos (by omega), w64 (n := (j : Int) + 1) (by omega) (by omega)]
      by_cases hb1 : b = true
      · rw [if_pos hb1]
        exact ih (j + 1) k true (by omega) (.inl rfl) (by omega)
      · rw [if_neg hb1, if_pos (by omega), if_pos (by omega), if_pos (by omega), rdT_get8 s hi, rdT_get8 x hjl, seed_beq]
        refine ih (j + 1) k _ (by omega) ?_ (by omega)
        rcases hb with h | h
        · exact absurd h hb1
        · rw [List.drop_eq_getElem_cons hjl, List.mem_cons, getElem!_pos s i hi] at h
          rcases h with h | h
          · exact .inl (decide_eq_true h)
          · exact .inr (by rw [getElem!_pos s i hi]; exact h)
  have l2 : ∀ (d i k : Nat), i + d = s.length → d * 100 + 300 < k → herdsmanlaw8_SeedsTwice.l2 k s x x (i : Int) = some true := by
    intro d
    induction d with
    | zero =>
      intro i k hi hk
      obtain ⟨k, rfl⟩ : ∃ m, k = m + 1 := ⟨k - 1, by omega⟩
      rw [herdsmanlaw8_SeedsTwice.l2, if_neg (by omega), told8_some k (by omega), Option.bind_some, if_pos rfl]
      unfold seeds_Same.f
      rw [eq_some8 x x (by omega) k (by omega), Option.bind_some, Option.bind_some, if_pos (by simp), hsort x (by omega), Option.bind_some, hx2, eq_some8 x x (by omega) k (by omega), Option.bind_some, Option.bind_some]
      simp
    | succ d ih =>
      intro i k hi hk
      have hil : i < s.length := by omega
      obtain ⟨k, rfl⟩ : ∃ m, k = (m + x.length + 1) + 1 := ⟨k - x.length - 2, by omega⟩
      rw [herdsmanlaw8_SeedsTwice.l2, if_pos (by omega)]
      have := l3 k i hil x.length 0 (k + x.length + 1) false (by omega) (.inr (by rw [List.drop_zero, getElem!_pos s i hil]; exact (hmem _).2 (List.getElem_mem _))) rfl
      rw [show ((0 : Nat) : Int) = 0 from rfl] at this
      rw [this]
      exact ih (i + 1) k (by omega) (by omega)
  have l1 : ∀ (k2 : Nat) (i : Nat), i < x.length → ∀ (d j k : Nat) (b : Bool), j + d = s.length → (b = true ∨ x[i]! ∈ s.drop j) → k = k2 + 1 + d + 1 → herdsmanlaw8_SeedsTwice.l1 k s x x (i : Int) b (j : Int) = herdsmanlaw8_SeedsTwice.l0 k2 s x x ((i : Int) + 1) := by
    intro k2 i hi d
    induction d with
    | zero =>
      intro j k b hj hb hk
      subst hk
      have hb' : b = true := by
        rcases hb with h | h
        · exact h
        · rw [List.drop_eq_nil_of_le (by omega)] at h; simp at h
      have hj2 : herdsmanlaw8_SeedsTwice.j2 (k2 + 1) s x x (i : Int) false = herdsmanlaw8_SeedsTwice.l0 k2 s x x ((i : Int) + 1) := by
        rw [herdsmanlaw8_SeedsTwice.j2, if_neg (by simp), w64 (n := (i : Int) + 1) (by omega) (by omega)]
      rw [herdsmanlaw8_SeedsTwice.l1, if_neg (by omega), if_pos hb']
      by_cases hi0 : (i : Int) > 0
      · have hlt := List.pairwise_iff_getElem.1 hris (i - 1) i (by omega) hi (by omega)
        have hne : x[i - 1] ≠ x[i] := fun e => by rw [e, ltS_irrefl] at hlt; simp at hlt
        simp only [ltS, decide_eq_true_eq] at hlt
        have e1 : wrap64 ((i : Int) - 1) = ((i - 1 : Nat) : Int) := by rw [w64 (by omega) (by omega)]; omega
        rw [if_pos hi0, e1, if_pos (by omega), if_pos (by omega), if_pos (by omega), if_pos (by omega), rdT_get8 x hi, rdT_get8 x (show i - 1 < x.length by omega), if_neg (by omega), seed_beq, decide_eq_false hne]
        exact hj2
      · rw [if_neg hi0]
        exact hj2
    | succ d ih =>
      intro j k b hj hb hk
      obtain ⟨k, rfl⟩ : ∃ m, k = m + 1 := ⟨k - 1, by omega⟩
      have hjl : j < s.length := by omega
      rw [herdsmanlaw8_SeedsTwice.l1, if_pos (by omega), w64 (n := (j : Int) + 1) (by omega) (by omega)]
      by_cases hb1 : b = true
      · rw [if_pos hb1]
        exact ih (j + 1) k true (by omega) (.inl rfl) (by omega)
      · rw [if_neg hb1, if_pos (by omega), if_pos (by omega), if_pos (by omega), rdT_get8 s hjl, rdT_get8 x hi, seed_beq]
        refine ih (j + 1) k _ (by omega) ?_ (by omega)
        rcases hb with h | h
        · exact absurd h hb1
        · rw [List.drop_eq_getElem_cons hjl, List.mem_cons, getElem!_pos x i hi] at h
          rcases h with h | h
          · exact .inl (decide_eq_true h.symm)
          · exact .inr (by rw [getElem!_pos x i hi]; exact h)
  have l0' : ∀ (d i k : Nat), i + d = x.length → d * 100 + 7000 < k → herdsmanlaw8_SeedsTwice.l0 k s x x (i : Int) = some true := by
    intro d
    induction d with
    | zero =>
      intro i k hi hk
      obtain ⟨k, rfl⟩ : ∃ m, k = m + 1 := ⟨k - 1, by omega⟩
      rw [herdsmanlaw8_SeedsTwice.l0, if_neg (by omega)]
      exact l2 s.length 0 k (by omega) (by omega)
    | succ d ih =>
      intro i k hi hk
      have hil : i < x.length := by omega
      obtain ⟨k, rfl⟩ : ∃ m, k = (m + 1 + s.length + 1) + 1 := ⟨k - s.length - 3, by omega⟩
      rw [herdsmanlaw8_SeedsTwice.l0, if_pos (by omega)]
      have := l1 k i hil s.length 0 (k + 1 + s.length + 1) false (by omega) (.inr (by rw [List.drop_zero, getElem!_pos x i hil]; exact (hmem _).1 (List.getElem_mem _))) rfl
      rw [show ((0 : Nat) : Int) = 0 from rfl] at this
      rw [this]
      exact ih (i + 1) k (by omega) (by omega)
  have hd1 : (s.drop n).length ≤ 60 := by rw [List.length_drop]; omega
  have ht1 : (s.take n).length ≤ 60 := by rw [List.length_take]; omega
  refine ⟨20000, ?_⟩
  unfold herdsmanlaw8_SeedsTwice.f
  rw [few8_some, Option.bind_some, ← es, hsort s (by omega), Option.bind_some, hxs, within2 a1 (by omega) (by omega), Option.bind_some, hn, Option.bind_some, if_pos (by omega), if_pos (by omega), Option.bind_some, show ((n : Int)).toNat = n by omega, if_pos (by simp only [List.length_nil]; omega), Option.bind_some, Option.bind_some, if_pos (by rw [List.nil_append]; omega), hsort _ (by rw [List.nil_append, List.length_append]; omega), Option.bind_some, hy]
  exact l0' x.length 0 20000 (by omega) (by omega)
end Go.Proofs.Ytgcfcemgeppkmaa.Pure
namespace Go.Proofs.Ytgcfcemgeppkmaa.seedsTwice
open Go.ChangeShapes Go.WideShapes Go.ChangeAt Go.RowKit
open Go.ChangeMaps (open_string shut_string)
set_option linter.unusedVariables false
theorem own : ownKnob Try.prog.godebug = none := by kernel_rfl
theorem laidOut : laidOutB Try.prog = true := by kernel_rfl
set_option maxRecDepth 100000 in
theorem lifted (os : Os) (started : os.Started) (H : Type) (enc : TypeId × Value → H) :
    ReturnsInHanded {} Try.checked os 5 .any (Rows.seedsTwiceSpec.pre6 enc Try.prog Try.f5 Rows.seedsTwiceRow.domain false) (Rows.seedsTwiceSpec.post enc Try.prog Try.f5 false true false false) := by
  refine returnsInHanded_of_change_sized (C := Try.checked) own started (by kernel_rfl) Try.func5
    (ChangeSpec.witness6 (enc := enc) (C := Try.checked) false ⟨#[], #[.slice none 0 0, .int .i64 0], []⟩ 8 (by kernel_rfl) (by kernel_rfl) (by kernel_rfl) (by kernel_rfl)) ?_
  intro W base args ds gs before hval0 hW hcnd hsz0 _
  have hsz : (DataW.weightsEach Try.prog (Try.f5.params.toList ++ Rows.seedsTwiceSpec.plain.varTypes Try.prog) (ds ++ gs)).all (· ≤ reachBytes) = true := hsz0
  have hval : ∀ (j : Nat) t v, Try.f5.params[j]? = some t → args[j]? = some v → Value.okWide Try.prog W .any base t v := hval0
  have hW' := hW
  obtain ⟨p, q, hA0, hV, rfl, hfz, hnd⟩ := hW
  have hA : DataW.TrodAll enc Try.prog W 0 (fun _ => true) true Try.f5.params.toList args.toList ds p := hA0
  rw [Try.params5] at hA hval hsz
  obtain ⟨v0, vs0, d0, ds0, p0, q0, hargs, rfl, rfl, h0, r0⟩ := trodAll_cons hA
  obtain ⟨v1, vs1, d1, ds1, p1, q1, rfl, rfl, rfl, h1, r1⟩ := trodAll_cons r0
  obtain ⟨rfl, rfl, rfl⟩ := trodAll_nil r1
  obtain rfl : args = #[v0, v1] := by cases args; simp_all
  obtain ⟨rfl, rfl⟩ := trodVars_none hV
  obtain ⟨a0, len0, cap0, rfl⟩ := okWide_slice Try.underlying22 (hval 0 22 v0 rfl rfl)
  have k0 := h0
  have lt0 : ∀ x ∈ p0, x.block < W.heap.size := by obtain ⟨m, hm⟩ := k0; exact DataW.trod_lt m _ _ _ hm
  obtain ⟨l0, rfl, hr0, hc0, y0, _⟩ := P.open_seeds hsz (j := 0) rfl rfl h0
  obtain ⟨a1, rfl, rfl, rfl, w1⟩ := open_int Try.underlying3 (hval 1 3 v1 rfl rfl) h1
  clear hA0 hval0 hsz0 hsz
  obtain ⟨k, hk⟩ := Pure.SeedsTwice l0 a1
  refine (P.herdsmanlaw8_SeedsTwice.calls k a0 cap0 l0 a1 true W hr0 hc0 hk).mono fun e W' ⟨he, bel⟩ => ?_
  subst he
  exact ⟨_, rfl, _, _, _, [], _, [], hW', trodAll_mk1 (shut_bool Try.underlying4 _), (trodAll_cons_mk (Below.trod laidOut (by kernel_rfl) (of_decide_eq_true (by kernel_rfl)) k0 bel lt0) (trodAll_cons_mk (shut_int Try.underlying3 w1) trodAll_mk0)), rfl, bel.frame _, fun h => by cases h⟩
theorem joined : joinedFacts Try.prog 5 Try.f5 Rows.seedsTwiceSpec Rows.seedsTwiceRow = true := by
  unfold joinedFacts
  rw [Start.keysNot, Start.may_of _ _ Start.words Start.later Start.refl Start.door, Start.final_of _ _ Start.words, Start.make_of _ _ Start.words]
  kernel_rfl
theorem over : Rows.seedsTwiceRow.holds Try.pinned (OpenSpec.ofChange Rows.seedsTwiceSpec) :=
  OpenClaim.holds_of_wide 5 Try.f5 rfl rfl rfl rfl rfl rfl rfl ⟨rfl, rfl, rfl, rfl, rfl⟩ rfl rfl rfl rfl rfl (by kernel_rfl) Try.func5 joined
    (of_decide_eq_true (by kernel_rfl)) (by unfold Func.isWrapper; first | (rw [if_pos (by decide +kernel)]; kernel_rfl) | (rw [if_neg (by decide +kernel)]; exact ⟨rfl, rfl⟩))
    (fun os started H enc _ => lifted os started H enc)
theorem proved : Rows.SeedsTwiceSaid := over
#print axioms proved
end Go.Proofs.Ytgcfcemgeppkmaa.seedsTwice
namespace Go.Proofs.Ytgcfcemgeppkmaa
/-- The row, under a short name, for the claim. -/
theorem seedsTwice_holds : Rows.SeedsTwiceSaid := seedsTwice.proved
end Go.Proofs.Ytgcfcemgeppkmaa
