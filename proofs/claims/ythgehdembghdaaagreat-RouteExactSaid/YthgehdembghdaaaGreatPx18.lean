import Derived.Test.YthgehdembghdaaaGreatPx0
import Derived.Test.YthgehdembghdaaaGreatJ11
namespace Go.Proofs.YthgehdembghdaaaGreat.P
open Go.RowKit Go.Proofs.YthgehdembghdaaaGreatW.PrintWords Go.Proofs.YthgehdembghdaaaGreatW.PrintLast Go.Proofs.YthgehdembghdaaaGreatW.PrintMore
attribute [local go_sem] max2_int min2_int max_two min_two max_three min_three max_four min_four   -- for this text's walks alone
set_option linter.unusedVariables false
set_option linter.unusedSimpArgs false
def where_Local.f (a0 : Int) (a1 : Int) (a2 : Int) : Option (Int) := (where_Place.f a0 a1 a2).bind fun bt167 => (if bt167.1 < 0 then (some (-1)) else ((where_Sector.f a0 a1 a2).bind fun t169 => ((where_Size.f a0 a1 t169).bind fun bt170 => (some (wrap64 ((wrap64 ((Int.tmod bt167.2 16) * bt170.1)) + (Int.tmod bt167.1 16)))))))
set_option maxHeartbeats 8000000 in
set_option maxRecDepth 100000 in
theorem where_Local.calls (a0 : Int) (a1 : Int) (a2 : Int) (r : Int) (w : World) (h : where_Local.f a0 a1 a2 = some r) :
  Calls Tryz.prog 97 #[.int .i64 a0, .int .i64 a1, .int .i64 a2] w fun e w' => e = .returned (.int .i64 r) ∧ Below w.heap.size w w' := by
 have HB := Aside0.mk (Below.refl w.heap.size w)
 have H : ((where_Place.f a0 a1 a2).bind fun bt167 => (if bt167.1 < 0 then (some (-1)) else ((where_Sector.f a0 a1 a2).bind fun t169 => ((where_Size.f a0 a1 t169).bind fun bt170 => (some (wrap64 ((wrap64 ((Int.tmod bt167.2 16) * bt170.1)) + (Int.tmod bt167.1 16)))))))) = some r := h
 clear h
 replace H := Option.bind_eq_some_iff.mp H
 obtain ⟨⟨t167, t168⟩, A40, H⟩ := H
 replace H : (if t167 < 0 then (some (-1)) else ((where_Sector.f a0 a1 a2).bind fun t169 => ((where_Size.f a0 a1 t169).bind fun bt170 => (some (wrap64 ((wrap64 ((Int.tmod t168 16) * bt170.1)) + (Int.tmod t167 16))))))) = some r := H
 have A4 := Aside0.mk A40
 clear A40
 by_cases c5 : t167 < 0
 ·rw [if_pos c5] at H
  have c5b0 : decide (t167 < 0) = true := decide_eq_true c5
  clear c5
  obtain rfl := Option.some.inj H
  go_enter Tryz.func97, Tryz.ntmps97
  go_wp2_with (first | ((with_reducible refine gate_callee (f := 70) rfl ?_); refine goesL_ (some 15) rfl rfl Tryz.func70 (by kernel_rfl) rfl #[.int .i64 a0, .int .i64 a1, .int .i64 a2] rfl (by (try simp only [List.map_toArray, List.map_cons, List.map_nil]); first | done | rfl | (simp only [List.length_drop, List.length_take]; rfl)) ?_; (with_reducible refine (where_Place.calls a0 a1 a2 t167 t168 _ A4.out).mono ?_); rintro e w' ⟨rfl, ⟨nd, rfl⟩⟩; refine ⟨_, rfl, ?_⟩))
  go_ret
  exact ⟨by first | rfl | (simp [errW_none, errW_some] <;> rfl) | (simp [*, errW_none, errW_some] <;> rfl), by repeat (first | (with_reducible first | exact HB.out | apply below_alloc | apply pw_below_drewN | apply below_drew1) | exact HB.out)⟩
 ·rw [if_neg c5] at H
  have c5b0 : decide (t167 < 0) = false := decide_eq_false c5
  clear c5
  replace H := Option.bind_eq_some_iff.mp H
  obtain ⟨t169, A60, H⟩ := H
  replace H : ((where_Size.f a0 a1 t169).bind fun bt170 => (some (wrap64 ((wrap64 ((Int.tmod t168 16) * bt170.1)) + (Int.tmod t167 16))))) = some r := H
  have A6 := Aside0.mk A60
  clear A60
  replace H := Option.bind_eq_some_iff.mp H
  obtain ⟨⟨t170, t171⟩, A70, H⟩ := H
  replace H : (some (wrap64 ((wrap64 ((Int.tmod t168 16) * t170)) + (Int.tmod t167 16)))) = some r := H
  have A7 := Aside0.mk A70
  clear A70
  obtain rfl := Option.some.inj H
  go_enter Tryz.func97, Tryz.ntmps97
  go_wp2_with (first | ((with_reducible refine gate_callee (f := 70) rfl ?_); refine goesL_ (some 15) rfl rfl Tryz.func70 (by kernel_rfl) rfl #[.int .i64 a0, .int .i64 a1, .int .i64 a2] rfl (by (try simp only [List.map_toArray, List.map_cons, List.map_nil]); first | done | rfl | (simp only [List.length_drop, List.length_take]; rfl)) ?_; (with_reducible refine (where_Place.calls a0 a1 a2 t167 t168 _ A4.out).mono ?_); rintro e w' ⟨rfl, ⟨nd, rfl⟩⟩; refine ⟨_, rfl, ?_⟩) | ((with_reducible refine gate_callee (f := 21) rfl ?_); refine goesL_ (some 26) rfl rfl Tryz.func21 (by kernel_rfl) rfl #[.int .i64 a0, .int .i64 a1, .int .i64 a2] rfl (by (try simp only [List.map_toArray, List.map_cons, List.map_nil]); first | done | rfl | (simp only [List.length_drop, List.length_take]; rfl)) ?_; (with_reducible refine (where_Sector.calls a0 a1 a2 t169 _ A6.out).mono ?_); rintro e w' ⟨rfl, ⟨nd, rfl⟩⟩; refine ⟨_, rfl, ?_⟩) | ((with_reducible refine gate_callee (f := 100) rfl ?_); refine goesL_ (some 27) rfl rfl Tryz.func100 (by kernel_rfl) rfl #[.int .i64 a0, .int .i64 a1, .int .i64 t169] rfl (by (try simp only [List.map_toArray, List.map_cons, List.map_nil]); first | done | rfl | (simp only [List.length_drop, List.length_take]; rfl)) ?_; (with_reducible refine (where_Size.calls a0 a1 t169 t170 t171 _ A7.out).mono ?_); rintro e w8 ⟨rfl, hb⟩; refine ⟨_, rfl, ?_⟩; have n0_ := Aside0.mk (below_step (by repeat (first | (with_reducible first | exact HB.out | apply below_alloc | apply pw_below_drewN | apply below_drew1) | exact HB.out)) hb); clear HB; have HB := n0_; clear n0_; (try clear hb); (try clear hb2); (try clear hk); (try clear hi)))
  go_ret
  exact ⟨by first | rfl | (simp [errW_none, errW_some] <;> rfl) | (simp [*, errW_none, errW_some] <;> rfl), by repeat (first | (with_reducible first | exact HB.out | apply below_alloc | apply pw_below_drewN | apply below_drew1) | exact HB.out)⟩
end Go.Proofs.YthgehdembghdaaaGreat.P
