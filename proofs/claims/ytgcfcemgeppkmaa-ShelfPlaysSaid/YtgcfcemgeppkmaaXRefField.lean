/-
  PLAIN: the document's field is the field; what may be is what may be.
-/
import Derived.Test.YtgcfcemgeppkmaaXLawS
import Derived.Test.YtgcfcemgeppkmaaXRefDirW
import Derived.Test.YtgcfcemgeppkmaaXRefSpW
import Derived.Test.YtgcfcemgeppkmaaXMayA
import Derived.Test.YtgcfcemgeppkmaaPx21
import Derived.Test.YtgcfcemgeppkmaaPx19
import Derived.Test.YtgcfcemgeppkmaaPx6
namespace Go.Proofs.Ytgcfcemgeppkmaa.P
open Go.RowKit Go.Proofs.YtgcfcemgeppkmaaW.PrintWords Go.Proofs.YtgcfcemgeppkmaaW.PrintLast Go.Proofs.YtgcfcemgeppkmaaW.PrintMore
open Go.Proofs.Ytgcfcemgeppkmaa.Dist
set_option linter.unusedVariables false
theorem rfield_some {W H : Int} {C : List Int} (hb : ∀ x ∈ C, 0 ≤ x ∧ x ≤ 255) {l : List Seed} (h : SeedsOk W H C l) (hl : l.length ≤ 1000000) : ∃ n, ∀ k, n ≤ k → herdsmanref7_Field.f k W H C l = some (distOf W C l, dirsOf W H C l) := by
  obtain ⟨a1, a2, a3, a4, a5, a6⟩ := h.1
  have hm := mul_small ⟨a1, a2⟩ ⟨a3, a4⟩
  have key : ∀ (d i k : Nat), i + d = C.length → d < k → herdsmanref7_Field.l0 k l (i : Int) W H C (distOf W C l) ((List.range i).map fun j : Nat => dirS W H C l (distOf W C l) (j : Int)) = some (distOf W C l, dirsOf W H C l) := by
    intro d
    induction d with
    | zero =>
      intro i k hi hk
      obtain ⟨k, rfl⟩ : ∃ m, k = m + 1 := ⟨k - 1, by omega⟩
      obtain rfl : i = C.length := by omega
      rw [herdsmanref7_Field.l0, if_neg (by omega)]
      rfl
    | succ d ih =>
      intro i k hi hk
      obtain ⟨k, rfl⟩ : ∃ m, k = m + 1 := ⟨k - 1, by omega⟩
      have hil : i < C.length := by omega
      have := ih (i + 1) k (by omega) (by omega)
      rw [List.range_succ, List.map_append] at this
      rw [herdsmanref7_Field.l0, if_pos (by omega), show herdsmanref7_Dir.f W H C l (distOf W C l) (i : Int) = some (dirS W H C l (distOf W C l) (i : Int)) from refDir_some hb h hl rfl (by omega) (by omega), Option.bind_some, if_pos (by simp; omega), w64 (n := (i : Int) + 1) (by omega) (by omega)]
      exact this
  refine ⟨1000, fun k hk => ?_⟩
  unfold herdsmanref7_Field.f
  rw [show herdsmanref7_Spread.f W H C l = some (distOf W C l) from refSp_some hb h hl, Option.bind_some]
  exact key C.length 0 k (by omega) (by omega)
end Go.Proofs.Ytgcfcemgeppkmaa.P
