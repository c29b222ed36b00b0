/-
  PLAIN: the document's field is the field; what may be is what may be.
-/
import Derived.Test.YtgcfcemgeppkmaaXLawF
import Derived.Test.YtgcfcemgeppkmaaXRefSpread
import Derived.Test.YtgcfcemgeppkmaaXMayA
import Derived.Test.YtgcfcemgeppkmaaPx11
import Derived.Test.YtgcfcemgeppkmaaPx30
import Derived.Test.YtgcfcemgeppkmaaPx28
namespace Go.Proofs.Ytgcfcemgeppkmaa.P
open Go.RowKit Go.Proofs.YtgcfcemgeppkmaaW.PrintWords Go.Proofs.YtgcfcemgeppkmaaW.PrintLast Go.Proofs.YtgcfcemgeppkmaaW.PrintMore
open Go.Proofs.Ytgcfcemgeppkmaa.Dist
set_option linter.unusedVariables false
theorem rdir_step {W H : Int} {C : List Int} (hb : ∀ x ∈ C, 0 ≤ x ∧ x ≤ 255) {l : List Seed} (h : SeedsOk W H C l) (hl : l.length ≤ 1000000) {D : List Int} (hD : D = distOf W C l) {c : Nat} (hc : c < C.length) {s : Int} (hs : 0 ≤ s ∧ s ≤ 3) (k : Nat) (hk : l.length + 10 ≤ k) :
    herdsmanref7_Dir.l0 (k + 2) l D (c : Int) s W H C = if ByS W H C l D c s then some s else herdsmanref7_Dir.l0 k l D (c : Int) (s + 1) W H C := by
  obtain ⟨a1, a2, a3, a4, a5, a6⟩ := h.1
  have hm := mul_small ⟨a1, a2⟩ ⟨a3, a4⟩
  have hlen : D.length = C.length := by rw [hD]; exact dist_len hb h
  have hstep : herdsmanref1_Step.f (k + 1) W H (c : Int) s = some (if OutE W H c s then -1 else nbS W c s) := by
    obtain ⟨j, hj⟩ : ∃ n, k + 1 = n + 5 := ⟨k - 4, by omega⟩
    rw [hj]
    exact step_val ⟨a1, a2⟩ ⟨a3, a4⟩ (by omega) (by omega) (by omega) j
  have hj1 : ∀ b : Bool, (b = true ↔ ByS W H C l D c s) → herdsmanref7_Dir.j1 (k + 1) l D (c : Int) s b W H C = if ByS W H C l D c s then some s else herdsmanref7_Dir.l0 k l D (c : Int) (s + 1) W H C := by
    intro b hb'
    rw [herdsmanref7_Dir.j1, w64 (n := s + 1) (by omega) (by omega)]
    by_cases hB : ByS W H C l D c s
    · rw [if_pos (hb'.2 hB), if_pos hB]
    · rw [if_neg (fun h => hB (hb'.1 h)), if_neg hB]
  rw [herdsmanref7_Dir.l0, if_pos (by omega), hstep, Option.bind_some]
  by_cases ho : OutE W H c s
  · rw [if_pos ho, if_pos (by omega), refBest_some l c s hl (k + 1) (by omega), Option.bind_some, if_pos (by omega), if_pos (by omega)]
    by_cases hq : bestS l c s = rd D (c : Int)
    · rw [if_pos hq]
      exact hj1 true ⟨fun _ => .inl ⟨ho, hq⟩, fun _ => rfl⟩
    · rw [if_neg hq, if_neg (by omega)]
      exact hj1 false ⟨fun h => by simp at h, fun h => by rcases h with h | h; exact absurd h.2 hq; exact absurd ho h.1⟩
  · obtain ⟨b0, b1, b2⟩ := nb_in ⟨a1, a2⟩ ⟨a3, a4⟩ a5 (show (0 : Int) ≤ (c : Int) by omega) (by omega) hs ho
    obtain ⟨j, hj⟩ : ∃ j : Nat, (j : Int) = nbS W c s := ⟨(nbS W c s).toNat, by omega⟩
    rw [if_neg ho, ← hj]
    rw [← hj] at b0 b1 b2
    have hjl : j < C.length := by omega
    rw [if_neg (by omega), if_pos (by omega), if_pos (by omega), if_pos (by omega)]
    by_cases h255 : rd C (j : Int) = 255
    · rw [if_pos h255]
      exact hj1 false ⟨fun h => by simp at h, fun h => by rcases h with h | h; exact absurd h.1 ho; exact absurd (hj ▸ h255) h.2.1⟩
    · have hcost : 1 ≤ rd C (j : Int) ∧ rd C (j : Int) ≤ 254 := costs_pos hb h.1 l j hjl h255
      have hdr := dist_range hb h hjl
      rw [← hD] at hdr
      have hINF : INF = 1099511627776 := rfl
      rw [if_neg h255, if_pos (by omega), if_pos (by omega), if_pos (by omega), w64 (n := rd C (j : Int)) (by omega) (by omega), w64 (n := rd D (j : Int) + rd C (j : Int)) (by omega) (by omega)]
      refine hj1 _ ⟨fun h => .inr ⟨ho, by rw [← hj]; exact h255, ?_⟩, fun h => ?_⟩
      · have := beq_iff_eq.1 h
        rw [← hj]; omega
      · rcases h with h | h
        · exact absurd h.1 ho
        · have := h.2.2
          rw [← hj] at this
          exact beq_iff_eq.2 (by omega)
theorem rdir_some {W H : Int} {C : List Int} (hb : ∀ x ∈ C, 0 ≤ x ∧ x ≤ 255) {l : List Seed} (h : SeedsOk W H C l) (hl : l.length ≤ 1000000) {D : List Int} (hD : D = distOf W C l) {c : Nat} (hc : c < C.length) (k : Nat) (hk : l.length + 30 ≤ k) : herdsmanref7_Dir.f k W H C l D (c : Int) = some (dirS W H C l D (c : Int)) := by
  have hlen : D.length = C.length := by rw [hD]; exact dist_len hb h
  have hdr := dist_range hb h hc
  rw [← hD] at hdr
  have hINF : INF = 1099511627776 := rfl
  obtain ⟨k, rfl⟩ : ∃ m, k = m + 1 + 2 + 2 + 2 + 2 := ⟨k - 9, by omega⟩
  unfold herdsmanref7_Dir.f dirS
  rw [if_pos (by omega), if_pos (by omega)]
  by_cases hi : rd D (c : Int) = INF
  · rw [if_pos (by omega), if_pos hi]
  · rw [if_neg (by omega), if_neg hi, refBest_some l c 4 hl _ (by omega), Option.bind_some]
    by_cases h4 : bestS l c 4 = rd D (c : Int)
    · rw [if_pos h4, if_pos h4]
    · have hend : herdsmanref7_Dir.l0 (k + 1) l D (c : Int) (3 + 1) W H C = some 5 := by
        rw [herdsmanref7_Dir.l0, if_neg (by omega)]
      have e0 := rdir_step hb h hl hD hc (s := 0) (by omega) (k + 1 + 2 + 2 + 2) (by omega)
      have e1 := rdir_step hb h hl hD hc (s := 1) (by omega) (k + 1 + 2 + 2) (by omega)
      have e2 := rdir_step hb h hl hD hc (s := 2) (by omega) (k + 1 + 2) (by omega)
      have e3 := rdir_step hb h hl hD hc (s := 3) (by omega) (k + 1) (by omega)
      rw [hend] at e3
      rw [show (2 : Int) + 1 = 3 from rfl, e3] at e2
      rw [show (1 : Int) + 1 = 2 from rfl, e2] at e1
      rw [show (0 : Int) + 1 = 1 from rfl, e1] at e0
      rw [if_neg h4, if_neg h4, e0]
      split
      · rfl
      · split
        · rfl
        · split
          · rfl
          · split <;> rfl
theorem rfield_some {W H : Int} {C : List Int} (hb : ∀ x ∈ C, 0 ≤ x ∧ x ≤ 255) {l : List Seed} (h : SeedsOk W H C l) (hl : l.length ≤ 1000000) : ∃ n, ∀ k, n ≤ k → herdsmanref7_Field.f k W H C l = some (distOf W C l, dirsOf W H C l) := by
  obtain ⟨n, hn⟩ := refSpread_some hb h hl
  obtain ⟨a1, a2, a3, a4, a5, a6⟩ := h.1
  have hm := mul_small ⟨a1, a2⟩ ⟨a3, a4⟩
  have key : ∀ (d i k : Nat), i + d = C.length → d + l.length + 40 < k → herdsmanref7_Field.l0 k l (i : Int) W H C (distOf W C l) ((List.range i).map fun j : Nat => dirS W H C l (distOf W C l) (j : Int)) = some (distOf W C l, dirsOf W H C l) := by
    intro d
    induction d with
    | zero =>
      intro i k hi hk
      obtain ⟨k, rfl⟩ : ∃ m, k = m + 1 := ⟨k - 1, by omega⟩
      obtain rfl : i = C.length := by omega
      rw [herdsmanref7_Field.l0, if_neg (by omega)]
      rfl
    | succ d ih =>
      intro i k hi hk
      obtain ⟨k, rfl⟩ : ∃ m, k = m + 1 := ⟨k - 1, by omega⟩
      have hil : i < C.length := by omega
      have := ih (i + 1) k (by omega) (by omega)
      rw [List.range_succ, List.map_append] at this
      rw [herdsmanref7_Field.l0, if_pos (by omega), rdir_some hb h hl rfl hil k (by omega), Option.bind_some, if_pos (by simp; omega), w64 (n := (i : Int) + 1) (by omega) (by omega)]
      exact this
  refine ⟨n + l.length + 1000, fun k hk => ?_⟩
  unfold herdsmanref7_Field.f
  rw [hn k (by omega), Option.bind_some]
  exact key C.length 0 k (by omega) (by omega)
theorem sameField_self (a b : List Int) (ha : a.length ≤ 100000) (hb : b.length ≤ 100000) (k : Nat) (hk : a.length + b.length + 10 < k) : herdsmanref7_SameField.f k a b a b = some true := by
  unfold herdsmanref7_SameField.f
  rw [ints_self _ (by omega) k (by omega), Option.bind_some, if_pos rfl, ints_self _ (by omega) k (by omega), Option.bind_some]
open Classical in
theorem field_any {W H : Int} {C : List Int} (hb : ∀ x ∈ C, 0 ≤ x ∧ x ≤ 255) {l : List Seed} (hl : l.length ≤ 1000) : fieldF W H C l = if SeedsOk W H C l then some (distOf W C l, dirsOf W H C l, 0) else some ([], [], 1) := by
  by_cases hs : SeedsOk W H C l
  · rw [if_pos hs]
    exact field_some hb hs (by omega)
  · rw [if_neg hs]
    unfold fieldF
    rw [if_neg hs]
end Go.Proofs.Ytgcfcemgeppkmaa.P
