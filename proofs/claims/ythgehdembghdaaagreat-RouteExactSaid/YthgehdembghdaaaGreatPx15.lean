import Derived.Test.YthgehdembghdaaaGreatPx0
import Derived.Test.YthgehdembghdaaaGreatJ11
namespace Go.Proofs.YthgehdembghdaaaGreat.P
open Go.RowKit Go.Proofs.YthgehdembghdaaaGreatW.PrintWords Go.Proofs.YthgehdembghdaaaGreatW.PrintLast Go.Proofs.YthgehdembghdaaaGreatW.PrintMore
attribute [local go_sem] max2_int min2_int max_two min_two max_three min_three max_four min_four   -- for this text's walks alone
set_option linter.unusedVariables false
set_option linter.unusedSimpArgs false
def where_Step.f (a0 : Int) (a1 : Int) (a2 : Int) (a3 : Int) : Option (Int) := (where_Place.f a0 a1 a2).bind fun bt146 => (if bt146.1 < 0 then (some (-1)) else (if a3 = 0 then ((where_Cell.f a0 a1 bt146.1 (wrap64 (bt146.2 + (-1)))).bind fun t148 => (some t148)) else (if a3 = 2 then ((where_Cell.f a0 a1 bt146.1 (wrap64 (bt146.2 + 1))).bind fun t149 => (some t149)) else (if a3 = 3 then ((where_Cell.f a0 a1 (wrap64 (bt146.1 + (-1))) bt146.2).bind fun t150 => (some t150)) else (if a3 = 1 then ((where_Cell.f a0 a1 (wrap64 (bt146.1 + 1)) bt146.2).bind fun t151 => (some t151)) else (if a3 = 4 then ((where_Cell.f a0 a1 bt146.1 bt146.2).bind fun t152 => (some t152)) else (some (-1))))))))
set_option maxHeartbeats 8000000 in
set_option maxRecDepth 100000 in
theorem where_Step.calls (a0 : Int) (a1 : Int) (a2 : Int) (a3 : Int) (r : Int) (w : World) (h : where_Step.f a0 a1 a2 a3 = some r) :
  Calls Tryz.prog 88 #[.int .i64 a0, .int .i64 a1, .int .i64 a2, .int .i64 a3] w fun e w' => e = .returned (.int .i64 r) ∧ Drawn0 w w' := by
 have H : ((where_Place.f a0 a1 a2).bind fun bt146 => (if bt146.1 < 0 then (some (-1)) else (if a3 = 0 then ((where_Cell.f a0 a1 bt146.1 (wrap64 (bt146.2 + (-1)))).bind fun t148 => (some t148)) else (if a3 = 2 then ((where_Cell.f a0 a1 bt146.1 (wrap64 (bt146.2 + 1))).bind fun t149 => (some t149)) else (if a3 = 3 then ((where_Cell.f a0 a1 (wrap64 (bt146.1 + (-1))) bt146.2).bind fun t150 => (some t150)) else (if a3 = 1 then ((where_Cell.f a0 a1 (wrap64 (bt146.1 + 1)) bt146.2).bind fun t151 => (some t151)) else (if a3 = 4 then ((where_Cell.f a0 a1 bt146.1 bt146.2).bind fun t152 => (some t152)) else (some (-1))))))))) = some r := h
 clear h
 replace H := Option.bind_eq_some_iff.mp H
 obtain ⟨⟨t146, t147⟩, A50, H⟩ := H
 replace H : (if t146 < 0 then (some (-1)) else (if a3 = 0 then ((where_Cell.f a0 a1 t146 (wrap64 (t147 + (-1)))).bind fun t148 => (some t148)) else (if a3 = 2 then ((where_Cell.f a0 a1 t146 (wrap64 (t147 + 1))).bind fun t149 => (some t149)) else (if a3 = 3 then ((where_Cell.f a0 a1 (wrap64 (t146 + (-1))) t147).bind fun t150 => (some t150)) else (if a3 = 1 then ((where_Cell.f a0 a1 (wrap64 (t146 + 1)) t147).bind fun t151 => (some t151)) else (if a3 = 4 then ((where_Cell.f a0 a1 t146 t147).bind fun t152 => (some t152)) else (some (-1)))))))) = some r := H
 have A5 := Aside0.mk A50
 clear A50
 by_cases c6 : t146 < 0
 ·rw [if_pos c6] at H
  have c6b0 : decide (t146 < 0) = true := decide_eq_true c6
  clear c6
  obtain rfl := Option.some.inj H
  go_enter Tryz.func88, Tryz.ntmps88
  go_wp2_with (first | ((with_reducible refine gate_callee (f := 70) rfl ?_); refine goesL_ (some 16) rfl rfl Tryz.func70 (by kernel_rfl) rfl #[.int .i64 a0, .int .i64 a1, .int .i64 a2] rfl (by (try simp only [List.map_toArray, List.map_cons, List.map_nil]); first | done | rfl | (simp only [List.length_drop, List.length_take]; rfl)) ?_; (with_reducible refine (where_Place.calls a0 a1 a2 t146 t147 _ A5.out).mono ?_); rintro e w' ⟨rfl, ⟨nd, rfl⟩⟩; refine ⟨_, rfl, ?_⟩))
  go_ret
  exact ⟨by first | rfl | (simp; done) | (simp [*]; done), by repeat (first | exact Drawn0.refl _ | apply Drawn0.step)⟩
 ·rw [if_neg c6] at H
  have c6b0 : decide (t146 < 0) = false := decide_eq_false c6
  clear c6
  by_cases c7 : a3 = 0
  ·rw [if_pos c7] at H
   have c7b0 : (a3 == 0) = true := beq_iff_eq.mpr c7
   have c7b1 : (a3 != 0) = false := bne_eq_false_iff_eq.mpr c7
   clear c7
   replace H := Option.bind_eq_some_iff.mp H
   obtain ⟨t148, A80, H⟩ := H
   replace H : (some t148) = some r := H
   have A8 := Aside0.mk A80
   clear A80
   obtain rfl := Option.some.inj H
   go_enter Tryz.func88, Tryz.ntmps88
   go_wp2_with (first | ((with_reducible refine gate_callee (f := 70) rfl ?_); refine goesL_ (some 16) rfl rfl Tryz.func70 (by kernel_rfl) rfl #[.int .i64 a0, .int .i64 a1, .int .i64 a2] rfl (by (try simp only [List.map_toArray, List.map_cons, List.map_nil]); first | done | rfl | (simp only [List.length_drop, List.length_take]; rfl)) ?_; (with_reducible refine (where_Place.calls a0 a1 a2 t146 t147 _ A5.out).mono ?_); rintro e w' ⟨rfl, ⟨nd, rfl⟩⟩; refine ⟨_, rfl, ?_⟩) | ((with_reducible refine gate_callee (f := 112) rfl ?_); refine goesL_ (some 42) rfl rfl Tryz.func112 (by kernel_rfl) rfl #[.int .i64 a0, .int .i64 a1, .int .i64 t146, .int .i64 (wrap64 (t147 + (-1)))] rfl (by (try simp only [List.map_toArray, List.map_cons, List.map_nil]); first | done | rfl | (simp only [List.length_drop, List.length_take]; rfl)) ?_; (with_reducible refine (where_Cell.calls a0 a1 t146 (wrap64 (t147 + (-1))) t148 _ A8.out).mono ?_); rintro e w' ⟨rfl, ⟨nd, rfl⟩⟩; refine ⟨_, rfl, ?_⟩))
   go_ret
   exact ⟨by first | rfl | (simp; done) | (simp [*]; done), by repeat (first | exact Drawn0.refl _ | apply Drawn0.step)⟩
  ·rw [if_neg c7] at H
   have c7b0 : (a3 == 0) = false := beq_eq_false_iff_ne.mpr c7
   have c7b1 : (a3 != 0) = true := bne_iff_ne.mpr c7
   by_cases c9 : a3 = 2
   ·rw [if_pos c9] at H
    have c9b0 : (a3 == 2) = true := beq_iff_eq.mpr c9
    have c9b1 : (a3 != 2) = false := bne_eq_false_iff_eq.mpr c9
    clear c9
    replace H := Option.bind_eq_some_iff.mp H
    obtain ⟨t149, A100, H⟩ := H
    replace H : (some t149) = some r := H
    have A10 := Aside0.mk A100
    clear A100
    obtain rfl := Option.some.inj H
    go_enter Tryz.func88, Tryz.ntmps88
    go_wp2_with (first | ((with_reducible refine gate_callee (f := 70) rfl ?_); refine goesL_ (some 16) rfl rfl Tryz.func70 (by kernel_rfl) rfl #[.int .i64 a0, .int .i64 a1, .int .i64 a2] rfl (by (try simp only [List.map_toArray, List.map_cons, List.map_nil]); first | done | rfl | (simp only [List.length_drop, List.length_take]; rfl)) ?_; (with_reducible refine (where_Place.calls a0 a1 a2 t146 t147 _ A5.out).mono ?_); rintro e w' ⟨rfl, ⟨nd, rfl⟩⟩; refine ⟨_, rfl, ?_⟩) | ((with_reducible refine gate_callee (f := 112) rfl ?_); refine goesL_ (some 42) rfl rfl Tryz.func112 (by kernel_rfl) rfl #[.int .i64 a0, .int .i64 a1, .int .i64 t146, .int .i64 (wrap64 (t147 + 1))] rfl (by (try simp only [List.map_toArray, List.map_cons, List.map_nil]); first | done | rfl | (simp only [List.length_drop, List.length_take]; rfl)) ?_; (with_reducible refine (where_Cell.calls a0 a1 t146 (wrap64 (t147 + 1)) t149 _ A10.out).mono ?_); rintro e w' ⟨rfl, ⟨nd, rfl⟩⟩; refine ⟨_, rfl, ?_⟩))
    go_ret
    exact ⟨by first | rfl | (simp; done) | (simp [*]; done), by repeat (first | exact Drawn0.refl _ | apply Drawn0.step)⟩
   ·rw [if_neg c9] at H
    have c9b0 : (a3 == 2) = false := beq_eq_false_iff_ne.mpr c9
    have c9b1 : (a3 != 2) = true := bne_iff_ne.mpr c9
    by_cases c11 : a3 = 3
    ·rw [if_pos c11] at H
     have c11b0 : (a3 == 3) = true := beq_iff_eq.mpr c11
     have c11b1 : (a3 != 3) = false := bne_eq_false_iff_eq.mpr c11
     clear c11
     replace H := Option.bind_eq_some_iff.mp H
     obtain ⟨t150, A120, H⟩ := H
     replace H : (some t150) = some r := H
     have A12 := Aside0.mk A120
     clear A120
     obtain rfl := Option.some.inj H
     go_enter Tryz.func88, Tryz.ntmps88
     go_wp2_with (first | ((with_reducible refine gate_callee (f := 70) rfl ?_); refine goesL_ (some 16) rfl rfl Tryz.func70 (by kernel_rfl) rfl #[.int .i64 a0, .int .i64 a1, .int .i64 a2] rfl (by (try simp only [List.map_toArray, List.map_cons, List.map_nil]); first | done | rfl | (simp only [List.length_drop, List.length_take]; rfl)) ?_; (with_reducible refine (where_Place.calls a0 a1 a2 t146 t147 _ A5.out).mono ?_); rintro e w' ⟨rfl, ⟨nd, rfl⟩⟩; refine ⟨_, rfl, ?_⟩) | ((with_reducible refine gate_callee (f := 112) rfl ?_); refine goesL_ (some 42) rfl rfl Tryz.func112 (by kernel_rfl) rfl #[.int .i64 a0, .int .i64 a1, .int .i64 (wrap64 (t146 + (-1))), .int .i64 t147] rfl (by (try simp only [List.map_toArray, List.map_cons, List.map_nil]); first | done | rfl | (simp only [List.length_drop, List.length_take]; rfl)) ?_; (with_reducible refine (where_Cell.calls a0 a1 (wrap64 (t146 + (-1))) t147 t150 _ A12.out).mono ?_); rintro e w' ⟨rfl, ⟨nd, rfl⟩⟩; refine ⟨_, rfl, ?_⟩))
     go_ret
     exact ⟨by first | rfl | (simp; done) | (simp [*]; done), by repeat (first | exact Drawn0.refl _ | apply Drawn0.step)⟩
    ·rw [if_neg c11] at H
     have c11b0 : (a3 == 3) = false := beq_eq_false_iff_ne.mpr c11
     have c11b1 : (a3 != 3) = true := bne_iff_ne.mpr c11
     by_cases c13 : a3 = 1
     ·rw [if_pos c13] at H
      have c13b0 : (a3 == 1) = true := beq_iff_eq.mpr c13
      have c13b1 : (a3 != 1) = false := bne_eq_false_iff_eq.mpr c13
      clear c13
      replace H := Option.bind_eq_some_iff.mp H
      obtain ⟨t151, A140, H⟩ := H
      replace H : (some t151) = some r := H
      have A14 := Aside0.mk A140
      clear A140
      obtain rfl := Option.some.inj H
      go_enter Tryz.func88, Tryz.ntmps88
      go_wp2_with (first | ((with_reducible refine gate_callee (f := 70) rfl ?_); refine goesL_ (some 16) rfl rfl Tryz.func70 (by kernel_rfl) rfl #[.int .i64 a0, .int .i64 a1, .int .i64 a2] rfl (by (try simp only [List.map_toArray, List.map_cons, List.map_nil]); first | done | rfl | (simp only [List.length_drop, List.length_take]; rfl)) ?_; (with_reducible refine (where_Place.calls a0 a1 a2 t146 t147 _ A5.out).mono ?_); rintro e w' ⟨rfl, ⟨nd, rfl⟩⟩; refine ⟨_, rfl, ?_⟩) | ((with_reducible refine gate_callee (f := 112) rfl ?_); refine goesL_ (some 42) rfl rfl Tryz.func112 (by kernel_rfl) rfl #[.int .i64 a0, .int .i64 a1, .int .i64 (wrap64 (t146 + 1)), .int .i64 t147] rfl (by (try simp only [List.map_toArray, List.map_cons, List.map_nil]); first | done | rfl | (simp only [List.length_drop, List.length_take]; rfl)) ?_; (with_reducible refine (where_Cell.calls a0 a1 (wrap64 (t146 + 1)) t147 t151 _ A14.out).mono ?_); rintro e w' ⟨rfl, ⟨nd, rfl⟩⟩; refine ⟨_, rfl, ?_⟩))
      go_ret
      exact ⟨by first | rfl | (simp; done) | (simp [*]; done), by repeat (first | exact Drawn0.refl _ | apply Drawn0.step)⟩
     ·rw [if_neg c13] at H
      have c13b0 : (a3 == 1) = false := beq_eq_false_iff_ne.mpr c13
      have c13b1 : (a3 != 1) = true := bne_iff_ne.mpr c13
      by_cases c15 : a3 = 4
      ·rw [if_pos c15] at H
       have c15b0 : (a3 == 4) = true := beq_iff_eq.mpr c15
       have c15b1 : (a3 != 4) = false := bne_eq_false_iff_eq.mpr c15
       clear c15
       replace H := Option.bind_eq_some_iff.mp H
       obtain ⟨t152, A160, H⟩ := H
       replace H : (some t152) = some r := H
       have A16 := Aside0.mk A160
       clear A160
       obtain rfl := Option.some.inj H
       go_enter Tryz.func88, Tryz.ntmps88
       go_wp2_with (first | ((with_reducible refine gate_callee (f := 70) rfl ?_); refine goesL_ (some 16) rfl rfl Tryz.func70 (by kernel_rfl) rfl #[.int .i64 a0, .int .i64 a1, .int .i64 a2] rfl (by (try simp only [List.map_toArray, List.map_cons, List.map_nil]); first | done | rfl | (simp only [List.length_drop, List.length_take]; rfl)) ?_; (with_reducible refine (where_Place.calls a0 a1 a2 t146 t147 _ A5.out).mono ?_); rintro e w' ⟨rfl, ⟨nd, rfl⟩⟩; refine ⟨_, rfl, ?_⟩) | ((with_reducible refine gate_callee (f := 112) rfl ?_); refine goesL_ (some 42) rfl rfl Tryz.func112 (by kernel_rfl) rfl #[.int .i64 a0, .int .i64 a1, .int .i64 t146, .int .i64 t147] rfl (by (try simp only [List.map_toArray, List.map_cons, List.map_nil]); first | done | rfl | (simp only [List.length_drop, List.length_take]; rfl)) ?_; (with_reducible refine (where_Cell.calls a0 a1 t146 t147 t152 _ A16.out).mono ?_); rintro e w' ⟨rfl, ⟨nd, rfl⟩⟩; refine ⟨_, rfl, ?_⟩))
       go_ret
       exact ⟨by first | rfl | (simp; done) | (simp [*]; done), by repeat (first | exact Drawn0.refl _ | apply Drawn0.step)⟩
      ·rw [if_neg c15] at H
       have c15b0 : (a3 == 4) = false := beq_eq_false_iff_ne.mpr c15
       have c15b1 : (a3 != 4) = true := bne_iff_ne.mpr c15
       obtain rfl := Option.some.inj H
       go_enter Tryz.func88, Tryz.ntmps88
       go_wp2_with (first | ((with_reducible refine gate_callee (f := 70) rfl ?_); refine goesL_ (some 16) rfl rfl Tryz.func70 (by kernel_rfl) rfl #[.int .i64 a0, .int .i64 a1, .int .i64 a2] rfl (by (try simp only [List.map_toArray, List.map_cons, List.map_nil]); first | done | rfl | (simp only [List.length_drop, List.length_take]; rfl)) ?_; (with_reducible refine (where_Place.calls a0 a1 a2 t146 t147 _ A5.out).mono ?_); rintro e w' ⟨rfl, ⟨nd, rfl⟩⟩; refine ⟨_, rfl, ?_⟩))
       go_ret
       exact ⟨by first | rfl | (simp; done) | (simp [*]; done), by repeat (first | exact Drawn0.refl _ | apply Drawn0.step)⟩
end Go.Proofs.YthgehdembghdaaaGreat.P
