/-
  PLAIN: what the laws of layer 10 begin with.
-/
import Derived.Test.YtgcfcemgeppkmaaXSteer
import Derived.Test.YtgcfcemgeppkmaaPx6
import Derived.Test.YtgcfcemgeppkmaaPx27
import Derived.Test.YtgcfcemgeppkmaaPx27
import Derived.Test.YtgcfcemgeppkmaaPx27
import Derived.Test.YtgcfcemgeppkmaaPx27
namespace Go.Proofs.Ytgcfcemgeppkmaa.P
open Go.RowKit Go.Proofs.YtgcfcemgeppkmaaW.PrintWords Go.Proofs.YtgcfcemgeppkmaaW.PrintLast Go.Proofs.YtgcfcemgeppkmaaW.PrintMore
open Go.Proofs.Ytgcfcemgeppkmaa.Dist
set_option linter.unusedVariables false
set_option linter.unusedSimpArgs false
theorem field_some {W H : Int} {C : List Int} {l : List Seed} (hb : ∀ x ∈ C, 0 ≤ x ∧ x ≤ 255) (hs : SeedsOk W H C l) (hl : l.length ≤ 1000000) : steer_Field.f W H C l = some (distOf W C l, dirsOf W H C l, 0) := by
  show fieldF W H C l = _
  unfold fieldF
  rw [if_pos hs, if_pos ⟨hb, hl⟩]
theorem refBest_l0 (l : List Seed) (i s : Int) (hl : l.length ≤ 1000000) : ∀ (d j k : Nat) (b : Int × Bool), j + d = l.length → d < k → herdsmanref7_Best.l0 k l i s b.1 b.2 (j : Int) = some ((l.drop j).foldl (bestStep i s) b).1 := by
  intro d
  induction d with
  | zero =>
    intro j k b hj hk
    obtain ⟨k, rfl⟩ : ∃ m, k = m + 1 := ⟨k - 1, by omega⟩
    rw [herdsmanref7_Best.l0, if_neg (by omega), List.drop_eq_nil_of_le (by omega)]
    rfl
  | succ d ih =>
    intro j k b hj hk
    obtain ⟨k, rfl⟩ : ∃ m, k = m + 1 := ⟨k - 1, by omega⟩
    have hjl : j < l.length := by omega
    have hn := fun b => ih (j + 1) k b (by omega) (by omega)
    rw [herdsmanref7_Best.l0, if_pos (by omega), if_pos (by omega), rdT_get l hjl, w64 (n := (j : Int) + 1) (by omega) (by omega), List.drop_eq_getElem_cons hjl, List.foldl_cons]
    generalize l[j] = x
    by_cases h0 : x.f0 = i
    · rw [if_pos h0]
      by_cases h1 : x.f1 = s
      · rw [if_pos h1]
        by_cases hb : b.2 = true
        · rw [if_pos hb]
          by_cases h2 : x.f2 < b.1
          · rw [if_pos h2, show bestStep i s b x = (x.f2, true) by unfold bestStep; rw [if_pos ⟨h0, h1, .inr h2⟩]]
            exact hn (x.f2, true)
          · rw [if_neg h2, show bestStep i s b x = b by unfold bestStep; rw [if_neg (by rintro ⟨_, _, h | h⟩; rw [hb] at h; simp at h; exact h2 h)]]
            exact hn b
        · rw [if_neg hb, show bestStep i s b x = (x.f2, true) by unfold bestStep; rw [if_pos ⟨h0, h1, .inl (by simpa using hb)⟩]]
          exact hn (x.f2, true)
      · rw [if_neg h1, show bestStep i s b x = b by unfold bestStep; rw [if_neg (by rintro ⟨_, h, _⟩; exact h1 h)]]
        exact hn b
    · rw [if_neg h0, show bestStep i s b x = b by unfold bestStep; rw [if_neg (by rintro ⟨h, _⟩; exact h0 h)]]
      exact hn b
theorem refBest_some (l : List Seed) (i s : Int) (hl : l.length ≤ 1000000) (k : Nat) (hk : l.length < k) : herdsmanref7_Best.f k l i s = some (bestS l i s) := by
  have := refBest_l0 l i s hl l.length 0 k (INF, false) (by omega) hk
  exact this
theorem few10_some (l : List Int) : herdsmanlaw10_few.f l = some (l.take (min l.length 24)) := by
  unfold herdsmanlaw10_few.f mn
  split
  · rw [if_pos (by omega), if_pos (by omega)]
    congr 2; omega
  · rw [if_pos (by omega), if_pos (by omega)]
    congr 2; omega
end Go.Proofs.Ytgcfcemgeppkmaa.P
