import Derived.Test.YthgehdembghdaaaGreatPx0
import Derived.Test.YthgehdembghdaaaGreatPx4
namespace Go.Proofs.YthgehdembghdaaaGreat.P
open Go.RowKit Go.Proofs.YthgehdembghdaaaGreatW.PrintWords Go.Proofs.YthgehdembghdaaaGreatW.PrintLast Go.Proofs.YthgehdembghdaaaGreatW.PrintMore
attribute [local go_sem] max2_int min2_int max_two min_two max_three min_three max_four min_four   -- for this text's walks alone
set_option linter.unusedVariables false
set_option linter.unusedSimpArgs false
/-! ### where_corner: function 129 -/
def where_corner.f (a0 : Int) (a1 : Int) (a2 : Int) : Option (Int × Int × Bool) := (where_Sectors.f a0 a1).bind fun bt133 => (if a2 < 0 then (some (0, 0, false)) else (if a2 ≥ (wrap64 (bt133.1 * bt133.2)) then (some (0, 0, false)) else (if bt133.1 = 0 then (none) else (some (wrap64 ((Int.tmod a2 bt133.1) * 16), wrap64 ((wrap64 (Int.tdiv a2 bt133.1)) * 16), true)))))
set_option maxHeartbeats 8000000 in
set_option maxRecDepth 100000 in
theorem where_corner.calls (a0 : Int) (a1 : Int) (a2 : Int) (r1 : Int) (r2 : Int) (r3 : Bool) (w : World) (h : where_corner.f a0 a1 a2 = some (r1, r2, r3)) :
    Calls Tryz.prog 129 #[.int .i64 a0, .int .i64 a1, .int .i64 a2] w fun e w' => e = .returned (.tuple #[.int .i64 r1, .int .i64 r2, .bool r3]) ∧ Drawn0 w w' := by
  have H : ((where_Sectors.f a0 a1).bind fun bt133 => (if a2 < 0 then (some (0, 0, false)) else (if a2 ≥ (wrap64 (bt133.1 * bt133.2)) then (some (0, 0, false)) else (if bt133.1 = 0 then (none) else (some (wrap64 ((Int.tmod a2 bt133.1) * 16), wrap64 ((wrap64 (Int.tdiv a2 bt133.1)) * 16), true)))))) = some (r1, r2, r3) := h
  clear h
  replace H := Option.bind_eq_some_iff.mp H
  obtain ⟨⟨t133, t134⟩, A40, H⟩ := H
  replace H : (if a2 < 0 then (some (0, 0, false)) else (if a2 ≥ (wrap64 (t133 * t134)) then (some (0, 0, false)) else (if t133 = 0 then (none) else (some (wrap64 ((Int.tmod a2 t133) * 16), wrap64 ((wrap64 (Int.tdiv a2 t133)) * 16), true))))) = some (r1, r2, r3) := H
  have A4 := Aside0.mk A40
  clear A40
  by_cases c5 : a2 < 0
  · rw [if_pos c5] at H
    have c5b0 : decide (a2 < 0) = true := decide_eq_true c5
    clear c5
    simp only [Option.some.injEq, Prod.mk.injEq] at H
    obtain ⟨rfl, rfl, rfl⟩ := H
    go_enter Tryz.func129, Tryz.ntmps129
    go_wp2_with (first | (go_at_call 71; (try simp only [show ∀ n_ : Int, IntKind.i64.wrap n_ = wrap64 n_ from fun n_ => IntKind.wrap_i64 n_]); (with_reducible refine (where_Sectors.calls a0 a1 t133 t134 _ A4.out).mono ?_); rintro e w' ⟨rfl, ⟨nd, rfl⟩⟩; (try first | exact ⟨rfl, _, World.drewN_drewN _ _ _⟩ | exact ⟨rfl, _, Eq.trans (World.drewN_drewN _ _ _) (congrArg (World.drewN _) (Nat.add_assoc _ _ _))⟩)))
    repeat (go_quiet (first | (go_at_call 71; (try simp only [show ∀ n_ : Int, IntKind.i64.wrap n_ = wrap64 n_ from fun n_ => IntKind.wrap_i64 n_]); (with_reducible refine (where_Sectors.calls a0 a1 t133 t134 _ A4.out).mono ?_); rintro e w' ⟨rfl, ⟨nd, rfl⟩⟩; (try first | exact ⟨rfl, _, World.drewN_drewN _ _ _⟩ | exact ⟨rfl, _, Eq.trans (World.drewN_drewN _ _ _) (congrArg (World.drewN _) (Nat.add_assoc _ _ _))⟩))); try go_wp2_with (first | (go_at_call 71; (try simp only [show ∀ n_ : Int, IntKind.i64.wrap n_ = wrap64 n_ from fun n_ => IntKind.wrap_i64 n_]); (with_reducible refine (where_Sectors.calls a0 a1 t133 t134 _ A4.out).mono ?_); rintro e w' ⟨rfl, ⟨nd, rfl⟩⟩; (try first | exact ⟨rfl, _, World.drewN_drewN _ _ _⟩ | exact ⟨rfl, _, Eq.trans (World.drewN_drewN _ _ _) (congrArg (World.drewN _) (Nat.add_assoc _ _ _))⟩))))
    go_ret3
    exact ⟨by first | rfl | (simp; done) | (simp [*]; done), by repeat (first | exact Drawn0.refl _ | apply Drawn0.step)⟩
  · rw [if_neg c5] at H
    have c5b0 : decide (a2 < 0) = false := decide_eq_false c5
    clear c5
    by_cases c6 : a2 ≥ (wrap64 (t133 * t134))
    · rw [if_pos c6] at H
      have c6b0 : decide ((wrap64 (t133 * t134)) ≤ a2) = true := decide_eq_true c6
      clear c6
      simp only [Option.some.injEq, Prod.mk.injEq] at H
      obtain ⟨rfl, rfl, rfl⟩ := H
      go_enter Tryz.func129, Tryz.ntmps129
      go_wp2_with (first | (go_at_call 71; (try simp only [show ∀ n_ : Int, IntKind.i64.wrap n_ = wrap64 n_ from fun n_ => IntKind.wrap_i64 n_]); (with_reducible refine (where_Sectors.calls a0 a1 t133 t134 _ A4.out).mono ?_); rintro e w' ⟨rfl, ⟨nd, rfl⟩⟩; (try first | exact ⟨rfl, _, World.drewN_drewN _ _ _⟩ | exact ⟨rfl, _, Eq.trans (World.drewN_drewN _ _ _) (congrArg (World.drewN _) (Nat.add_assoc _ _ _))⟩)))
      repeat (go_quiet (first | (go_at_call 71; (try simp only [show ∀ n_ : Int, IntKind.i64.wrap n_ = wrap64 n_ from fun n_ => IntKind.wrap_i64 n_]); (with_reducible refine (where_Sectors.calls a0 a1 t133 t134 _ A4.out).mono ?_); rintro e w' ⟨rfl, ⟨nd, rfl⟩⟩; (try first | exact ⟨rfl, _, World.drewN_drewN _ _ _⟩ | exact ⟨rfl, _, Eq.trans (World.drewN_drewN _ _ _) (congrArg (World.drewN _) (Nat.add_assoc _ _ _))⟩))); try go_wp2_with (first | (go_at_call 71; (try simp only [show ∀ n_ : Int, IntKind.i64.wrap n_ = wrap64 n_ from fun n_ => IntKind.wrap_i64 n_]); (with_reducible refine (where_Sectors.calls a0 a1 t133 t134 _ A4.out).mono ?_); rintro e w' ⟨rfl, ⟨nd, rfl⟩⟩; (try first | exact ⟨rfl, _, World.drewN_drewN _ _ _⟩ | exact ⟨rfl, _, Eq.trans (World.drewN_drewN _ _ _) (congrArg (World.drewN _) (Nat.add_assoc _ _ _))⟩))))
      go_ret3
      exact ⟨by first | rfl | (simp; done) | (simp [*]; done), by repeat (first | exact Drawn0.refl _ | apply Drawn0.step)⟩
    · rw [if_neg c6] at H
      have c6b0 : decide ((wrap64 (t133 * t134)) ≤ a2) = false := decide_eq_false c6
      clear c6
      by_cases c7 : t133 = 0
      · rw [if_pos c7] at H
        exact absurd H (by simp)
      · rw [if_neg c7] at H
        have c7b0 : (t133 == 0) = false := beq_eq_false_iff_ne.mpr c7
        have c7b1 : (t133 != 0) = true := bne_iff_ne.mpr c7
        simp only [Option.some.injEq, Prod.mk.injEq] at H
        obtain ⟨rfl, rfl, rfl⟩ := H
        go_enter Tryz.func129, Tryz.ntmps129
        go_wp2_with (first | (go_at_call 71; (try simp only [show ∀ n_ : Int, IntKind.i64.wrap n_ = wrap64 n_ from fun n_ => IntKind.wrap_i64 n_]); (with_reducible refine (where_Sectors.calls a0 a1 t133 t134 _ A4.out).mono ?_); rintro e w' ⟨rfl, ⟨nd, rfl⟩⟩; (try first | exact ⟨rfl, _, World.drewN_drewN _ _ _⟩ | exact ⟨rfl, _, Eq.trans (World.drewN_drewN _ _ _) (congrArg (World.drewN _) (Nat.add_assoc _ _ _))⟩)))
        repeat (go_quiet (first | (go_at_call 71; (try simp only [show ∀ n_ : Int, IntKind.i64.wrap n_ = wrap64 n_ from fun n_ => IntKind.wrap_i64 n_]); (with_reducible refine (where_Sectors.calls a0 a1 t133 t134 _ A4.out).mono ?_); rintro e w' ⟨rfl, ⟨nd, rfl⟩⟩; (try first | exact ⟨rfl, _, World.drewN_drewN _ _ _⟩ | exact ⟨rfl, _, Eq.trans (World.drewN_drewN _ _ _) (congrArg (World.drewN _) (Nat.add_assoc _ _ _))⟩))); try go_wp2_with (first | (go_at_call 71; (try simp only [show ∀ n_ : Int, IntKind.i64.wrap n_ = wrap64 n_ from fun n_ => IntKind.wrap_i64 n_]); (with_reducible refine (where_Sectors.calls a0 a1 t133 t134 _ A4.out).mono ?_); rintro e w' ⟨rfl, ⟨nd, rfl⟩⟩; (try first | exact ⟨rfl, _, World.drewN_drewN _ _ _⟩ | exact ⟨rfl, _, Eq.trans (World.drewN_drewN _ _ _) (congrArg (World.drewN _) (Nat.add_assoc _ _ _))⟩))))
        go_ret3
        exact ⟨by first | rfl | (simp; done) | (simp [*]; done), by repeat (first | exact Drawn0.refl _ | apply Drawn0.step)⟩
end Go.Proofs.YthgehdembghdaaaGreat.P
