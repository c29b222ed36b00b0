/-
  WALKED BY HAND: herdsmanlaw14.MeshNone.
-/
import Derived.Test.YthgehdembghdaaaGreatXTold14
namespace Go.Proofs.YthgehdembghdaaaGreat.P
open Go.RowKit Go.Proofs.YthgehdembghdaaaGreatW.PrintWords Go.Proofs.YthgehdembghdaaaGreatW.PrintLast Go.Proofs.YthgehdembghdaaaGreatW.PrintMore
set_option linter.unusedVariables false
set_option linter.unusedSimpArgs false
theorem mNew_nil (w : World) : Calls Tryz.prog 37 #[.pointer none] w fun e w' => e = .returned (.pointer none) ∧ w' = w := by
  go_enter Tryz.func37, Tryz.ntmps37
  go_wp2
  go_ret
  exact ⟨rfl, rfl⟩
theorem mDirty_nil (w : World) : Calls Tryz.prog 22 #[.pointer none] w fun e w' => e = .returned (.slice none 0 0) ∧ Drawn0 w w' := by
  go_enter Tryz.func22, Tryz.ntmps22
  go_wp2
  go_quiet (fail)
  go_wp2
  go_ret
  exact ⟨rfl, ⟨_, rfl⟩⟩
theorem mRebuild_nil (w : World) : Calls Tryz.prog 23 #[.pointer none] w fun e w' => e = .returned (.int .i64 0) ∧ w' = w := by
  go_enter Tryz.func23, Tryz.ntmps23
  go_wp2
  go_ret
  exact ⟨rfl, rfl⟩
theorem mCount_nil (w : World) : Calls Tryz.prog 24 #[.pointer none] w fun e w' => e = .returned (.int .u64 0) ∧ w' = w := by
  go_enter Tryz.func24, Tryz.ntmps24
  go_wp2
  go_ret
  exact ⟨rfl, rfl⟩
theorem mNodes_nil (a : Int) (w : World) : Calls Tryz.prog 26 #[.pointer none, .int .i64 a] w fun e w' => e = .returned (.slice none 0 0) ∧ w' = w := by
  go_enter Tryz.func26, Tryz.ntmps26
  go_wp2
  go_ret
  exact ⟨rfl, rfl⟩
set_option maxRecDepth 100000 in
set_option maxHeartbeats 4000000 in
theorem mFind_nil (a : Int) (w : World) : Calls Tryz.prog 78 #[.pointer none, .int .i64 a] w fun e w' => e = .returned (.tuple #[.pointer none, .int .i64 0, .bool false]) ∧ w' = w := by
  go_enter Tryz.func78, Tryz.ntmps78
  go_wp2
  refine bodyPost_ret (results_tmp3 rfl _ _ _) rfl ?_
  exact ⟨rfl, rfl⟩
set_option maxRecDepth 100000 in
set_option maxHeartbeats 4000000 in
theorem mDist_nil (a b : Int) (w : World) : Calls Tryz.prog 28 #[.pointer none, .int .i64 a, .int .i64 b] w fun e w' => e = .returned (.int .i64 1099511627776) ∧ w' = w := by
  go_enter Tryz.func28, Tryz.ntmps28
  go_upto_region 2 with (go_at_call 78; refine (mFind_nil a w).mono ?_; rintro e w' ⟨rfl, rfl⟩)
  go_upto_region 3 with (go_at_call 78; refine (mFind_nil b _).mono ?_; rintro e w' ⟨rfl, rfl⟩)
  go_wp2
  go_ret
  exact ⟨rfl, rfl⟩
set_option maxRecDepth 100000 in
set_option maxHeartbeats 4000000 in
theorem mInto_nil (a : Int) (w : World) : Calls Tryz.prog 34 #[.pointer none, .int .i64 a] w fun e w' => e = .returned (.slice none 0 0) ∧ w' = w := by
  go_enter Tryz.func34, Tryz.ntmps34
  go_wp2_with (go_at_call 78; refine (mFind_nil a _).mono ?_; rintro e w' ⟨rfl, rfl⟩)
  go_ret
  exact ⟨rfl, rfl⟩
set_option maxRecDepth 100000 in
set_option maxHeartbeats 4000000 in
theorem meshNone_calls (a b : Int) (w : World) : Calls Tryz.prog 7 #[.int .i64 a, .int .i64 b] w fun e w' => e = .returned (.bool true) ∧ Below w.heap.size w w' := by
  go_enter Tryz.func7, Tryz.ntmps7
  go_wp2_with (first
    | (go_at_call 25; refine (told14_calls _).mono ?_; rintro e w2 ⟨rfl, hb⟩; have HB := Aside0.mk hb; clear hb)
    | (go_at_call 37; refine (mNew_nil _).mono ?_; rintro e w' ⟨rfl, rfl⟩)
    | (go_at_call 22; refine (mDirty_nil _).mono ?_; rintro e w' ⟨rfl, ⟨q, rfl⟩⟩; have HB1 := Aside0.mk (pw_below_drewN HB.out q))
    | (go_at_call 23; refine (mRebuild_nil _).mono ?_; rintro e w' ⟨rfl, rfl⟩)
    | (go_at_call 24; refine (mCount_nil _).mono ?_; rintro e w' ⟨rfl, rfl⟩)
    | (go_at_call 26; refine (mNodes_nil a _).mono ?_; rintro e w' ⟨rfl, rfl⟩)
    | (go_at_call 28; refine (mDist_nil a b _).mono ?_; rintro e w' ⟨rfl, rfl⟩)
    | (go_at_call 34; refine (mInto_nil b _).mono ?_; rintro e w' ⟨rfl, rfl⟩))
  go_ret
  exact ⟨rfl, HB1.out⟩
/-- As the row's form wants it. -/
def meshNoneH.f (n : Nat) (a b : Int) : Option Bool := some true
theorem meshNoneH.calls (n : Nat) (a b : Int) (r : Bool) (w : World) (h : meshNoneH.f n a b = some r) : Calls Tryz.prog 7 #[.int .i64 a, .int .i64 b] w fun e w' => e = .returned (.bool r) ∧ Below w.heap.size w w' := by
  obtain rfl : true = r := Option.some.inj h
  exact meshNone_calls a b w
end Go.Proofs.YthgehdembghdaaaGreat.P
