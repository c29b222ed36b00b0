import Derived.Test.YthgehdembghdaaaGreatPx0
import Derived.Test.YthgehdembghdaaaGreatPx4
import Derived.Test.YthgehdembghdaaaGreatPx9
namespace Go.Proofs.YthgehdembghdaaaGreat.P
open Go.RowKit Go.Proofs.YthgehdembghdaaaGreatW.PrintWords Go.Proofs.YthgehdembghdaaaGreatW.PrintLast Go.Proofs.YthgehdembghdaaaGreatW.PrintMore
attribute [local go_sem] max2_int min2_int max_two min_two max_three min_three max_four min_four   -- for this text's walks alone
set_option linter.unusedVariables false
set_option linter.unusedSimpArgs false
/-! ### where_Sector: function 21 -/
def where_Sector.f (a0 : Int) (a1 : Int) (a2 : Int) : Option (Int) := (where_Place.f a0 a1 a2).bind fun bt129 => (if bt129.1 < 0 then (some (-1)) else ((where_Sectors.f a0 a1).bind fun bt131 => (some (wrap64 ((wrap64 ((wrap64 (Int.tdiv bt129.2 16)) * bt131.1)) + (wrap64 (Int.tdiv bt129.1 16)))))))
set_option maxHeartbeats 8000000 in
set_option maxRecDepth 100000 in
theorem where_Sector.calls (a0 : Int) (a1 : Int) (a2 : Int) (r : Int) (w : World) (h : where_Sector.f a0 a1 a2 = some r) :
    Calls Tryz.prog 21 #[.int .i64 a0, .int .i64 a1, .int .i64 a2] w fun e w' => e = .returned (.int .i64 r) ∧ Drawn0 w w' := by
  have H : ((where_Place.f a0 a1 a2).bind fun bt129 => (if bt129.1 < 0 then (some (-1)) else ((where_Sectors.f a0 a1).bind fun bt131 => (some (wrap64 ((wrap64 ((wrap64 (Int.tdiv bt129.2 16)) * bt131.1)) + (wrap64 (Int.tdiv bt129.1 16)))))))) = some r := h
  clear h
  replace H := Option.bind_eq_some_iff.mp H
  obtain ⟨⟨t129, t130⟩, A40, H⟩ := H
  replace H : (if t129 < 0 then (some (-1)) else ((where_Sectors.f a0 a1).bind fun bt131 => (some (wrap64 ((wrap64 ((wrap64 (Int.tdiv t130 16)) * bt131.1)) + (wrap64 (Int.tdiv t129 16))))))) = some r := H
  have A4 := Aside0.mk A40
  clear A40
  by_cases c5 : t129 < 0
  · rw [if_pos c5] at H
    have c5b0 : decide (t129 < 0) = true := decide_eq_true c5
    clear c5
    obtain rfl := Option.some.inj H
    go_enter Tryz.func21, Tryz.ntmps21
    go_wp2_with (first | ((with_reducible refine gate_callee (f := 70) rfl ?_); refine goesL_ (some 15) rfl rfl Tryz.func70 (by kernel_rfl) rfl #[.int .i64 a0, .int .i64 a1, .int .i64 a2] rfl (by (try simp only [List.map_toArray, List.map_cons, List.map_nil]); first | done | rfl | (simp only [List.length_drop, List.length_take]; rfl)) ?_; (with_reducible refine (where_Place.calls a0 a1 a2 t129 t130 _ A4.out).mono ?_); rintro e w' ⟨rfl, ⟨nd, rfl⟩⟩; refine ⟨_, rfl, ?_⟩))
    go_ret
    exact ⟨by first | rfl | (simp; done) | (simp [*]; done), by repeat (first | exact Drawn0.refl _ | apply Drawn0.step)⟩
  · rw [if_neg c5] at H
    have c5b0 : decide (t129 < 0) = false := decide_eq_false c5
    clear c5
    replace H := Option.bind_eq_some_iff.mp H
    obtain ⟨⟨t131, t132⟩, A60, H⟩ := H
    replace H : (some (wrap64 ((wrap64 ((wrap64 (Int.tdiv t130 16)) * t131)) + (wrap64 (Int.tdiv t129 16))))) = some r := H
    have A6 := Aside0.mk A60
    clear A60
    obtain rfl := Option.some.inj H
    go_enter Tryz.func21, Tryz.ntmps21
    go_wp2_with (first | ((with_reducible refine gate_callee (f := 70) rfl ?_); refine goesL_ (some 15) rfl rfl Tryz.func70 (by kernel_rfl) rfl #[.int .i64 a0, .int .i64 a1, .int .i64 a2] rfl (by (try simp only [List.map_toArray, List.map_cons, List.map_nil]); first | done | rfl | (simp only [List.length_drop, List.length_take]; rfl)) ?_; (with_reducible refine (where_Place.calls a0 a1 a2 t129 t130 _ A4.out).mono ?_); rintro e w' ⟨rfl, ⟨nd, rfl⟩⟩; refine ⟨_, rfl, ?_⟩) | ((with_reducible refine gate_callee (f := 71) rfl ?_); refine goesL_ (some 23) rfl rfl Tryz.func71 (by kernel_rfl) rfl #[.int .i64 a0, .int .i64 a1] rfl (by (try simp only [List.map_toArray, List.map_cons, List.map_nil]); first | done | rfl | (simp only [List.length_drop, List.length_take]; rfl)) ?_; (with_reducible refine (where_Sectors.calls a0 a1 t131 t132 _ A6.out).mono ?_); rintro e w' ⟨rfl, ⟨nd, rfl⟩⟩; refine ⟨_, rfl, ?_⟩))
    go_ret
    exact ⟨by first | rfl | (simp; done) | (simp [*]; done), by repeat (first | exact Drawn0.refl _ | apply Drawn0.step)⟩
end Go.Proofs.YthgehdembghdaaaGreat.P
