import Derived.Test.YthgehdembghdaaaGreatPx0
namespace Go.Proofs.YthgehdembghdaaaGreat.P
open Go.RowKit Go.Proofs.YthgehdembghdaaaGreatW.PrintWords Go.Proofs.YthgehdembghdaaaGreatW.PrintLast Go.Proofs.YthgehdembghdaaaGreatW.PrintMore
attribute [local go_sem] max2_int min2_int max_two min_two max_three min_three max_four min_four   -- for this text's walks alone
set_option linter.unusedVariables false
set_option linter.unusedSimpArgs false
mutual
def border_along.j2 : Nat → Int → Int → List Int → Int → Option (List Int)
 | 0, _, _, _, _ => none
 | k + 1, x0, x1, x7, x8 => border_along.l1 k x0 x7 x8 x1 0
def border_along.l1 : Nat → Int → List Int → Int → Int → Int → Option (List Int)
 | 0, _, _, _, _, _ => none
 | k + 1, x0, x7, x8, x37, x38 => if x38 < x37 then (if x7.length < 17592186044416 then (border_along.l1 k x0 (x7 ++ [wrap64 (x8 + (wrap64 (x38 * x0)))]) x8 x37 (wrap64 (x38 + 1))) else (none)) else (some x7)
def border_along.j0 : Nat → Int → List Int → Int → Option (List Int)
 | 0, _, _, _ => none
 | k + 1, x0, x7, x8 => border_along.l0 k x7 x8 x0 0
def border_along.l0 : Nat → List Int → Int → Int → Int → Option (List Int)
 | 0, _, _, _, _ => none
 | k + 1, x7, x8, x24, x25 => if x25 < x24 then (if x7.length < 17592186044416 then (border_along.l0 k (x7 ++ [wrap64 (x8 + x25)]) x8 x24 (wrap64 (x25 + 1))) else (none)) else (some x7)
end
def border_along.f (k : Nat) (a0 : Int) (a1 : Int) (a2 : Int) : Option (List Int) := if a2 = 2 then (border_along.j0 k a0 ([] : List Int) (wrap64 ((wrap64 (a1 - 1)) * a0))) else (if a2 = 0 then (border_along.j0 k a0 ([] : List Int) 0) else (if a2 = 1 then (border_along.j2 k a0 a1 ([] : List Int) (wrap64 (a0 - 1))) else (if a2 = 3 then (border_along.j2 k a0 a1 ([] : List Int) 0) else (some ([] : List Int)))))
set_option maxHeartbeats 8000000 in
set_option maxRecDepth 100000 in
theorem border_along.calls (k : Nat) (a0 : Int) (a1 : Int) (a2 : Int) (r : List Int) (w : World) (h : border_along.f k a0 a1 a2 = some r) :
  Calls Tryz.prog 145 #[.int .i64 a0, .int .i64 a1, .int .i64 a2] w fun e w' => ∃ v0_ : Value, e = .returned (v0_) ∧ Kd.R (Kd.int .i64) 3 w' w.heap.size (fun _ => True) v0_ r ∧ Below w.heap.size w w' := by
 have HB := Aside0.mk (Below.refl w.heap.size w)
 have H : (if a2 = 2 then (border_along.j0 k a0 ([] : List Int) (wrap64 ((wrap64 (a1 - 1)) * a0))) else (if a2 = 0 then (border_along.j0 k a0 ([] : List Int) 0) else (if a2 = 1 then (border_along.j2 k a0 a1 ([] : List Int) (wrap64 (a0 - 1))) else (if a2 = 3 then (border_along.j2 k a0 a1 ([] : List Int) 0) else (some ([] : List Int)))))) = some r := h
 clear h
 have HC4 := Aside0.mk H
 clear H
 go_enter Tryz.func145, Tryz.ntmps145
 go_upto_block 4 with (fail)
 go_cut [7, 8] (fun v7 v8 wc => ∃ (kq : Nat) (x7_3 : List Int) (x8_3 : Int), v8 = .int .i64 x8_3 ∧ Aside0 (border_along.j2 kq a0 a1 x7_3 x8_3 = some r) ∧ Aside0 (kq ≤ k) ∧ Aside0 (Kd.R (Kd.int .i64) 3 wc w.heap.size (fun _ => True) v7 x7_3) ∧ Aside0 (Below w.heap.size w wc))
 case first =>
  have H := HC4.out
  clear HC4
  have HC5 := Aside0.mk H
  clear H
  go_upto_block 2 with (fail)
  go_cut [8] (fun v8 wc => ∃ (kq : Nat) (x8_4 : Int), v8 = .int .i64 x8_4 ∧ Aside0 (border_along.j0 kq a0 ([] : List Int) x8_4 = some r) ∧ Aside0 (kq ≤ k) ∧ Aside0 (Kd.R (Kd.int .i64) 3 wc w.heap.size (fun _ => True) (.slice none 0 0) ([] : List Int)) ∧ Aside0 (Below w.heap.size w wc))
  case first =>
   have H := HC5.out
   clear HC5
   by_cases c6 : a2 = 2
   ·rw [if_pos c6] at H
    have c6b0 : (a2 == 2) = true := beq_iff_eq.mpr c6
    have c6b1 : (a2 != 2) = false := bne_eq_false_iff_eq.mpr c6
    clear c6
    (first | rw [c6b0] | (simp only [i64_w, i32_w]; rw [c6b0]) | skip)
    have H' := Aside0.mk H
    clear H
    go_wp2
    go_meet
    case rel => exact ⟨_, (wrap64 ((wrap64 (a1 - 1)) * a0)), (by first | rfl | (simp; done) | (simp [*]; done)), H', ⟨by first | omega | exact Nat.le_refl _⟩, ⟨by first | exact Kd.R_nil _ _ _ _ _ | exact Kd.N_nil _ _ _ _ _ | exact Kd.V_nil _ _ _ _ _ | exact Kd.Q_nil _ _ _ _ _ | exact Kd.S_nil _ _ _ _ _⟩, ⟨by repeat (first | (with_reducible first | exact HB.out | apply below_alloc | apply pw_below_drewN | apply below_drew1) | exact HB.out)⟩⟩
   ·rw [if_neg c6] at H
    have c6b0 : (a2 == 2) = false := beq_eq_false_iff_ne.mpr c6
    have c6b1 : (a2 != 2) = true := bne_iff_ne.mpr c6
    (first | rw [c6b0] | (simp only [i64_w, i32_w]; rw [c6b0]) | skip)
    by_cases c7 : a2 = 0
    ·rw [if_pos c7] at H
     have c7b0 : (a2 == 0) = true := beq_iff_eq.mpr c7
     have c7b1 : (a2 != 0) = false := bne_eq_false_iff_eq.mpr c7
     clear c7
     have H' := Aside0.mk H
     clear H
     go_wp2
     go_meet
     case rel => exact ⟨_, (0), (by first | rfl | (simp; done) | (simp [*]; done)), H', ⟨by first | omega | exact Nat.le_refl _⟩, ⟨by first | exact Kd.R_nil _ _ _ _ _ | exact Kd.N_nil _ _ _ _ _ | exact Kd.V_nil _ _ _ _ _ | exact Kd.Q_nil _ _ _ _ _ | exact Kd.S_nil _ _ _ _ _⟩, ⟨by repeat (first | (with_reducible first | exact HB.out | apply below_alloc | apply pw_below_drewN | apply below_drew1) | exact HB.out)⟩⟩
    ·rw [if_neg c7] at H
     have c7b0 : (a2 == 0) = false := beq_eq_false_iff_ne.mpr c7
     have c7b1 : (a2 != 0) = true := bne_iff_ne.mpr c7
     by_cases c8 : a2 = 1
     ·rw [if_pos c8] at H
      have c8b0 : (a2 == 1) = true := beq_iff_eq.mpr c8
      have c8b1 : (a2 != 1) = false := bne_eq_false_iff_eq.mpr c8
      clear c8
      have H' := Aside0.mk H
      clear H
      go_wp2
      go_meet
      case rel => exact ⟨_, (([] : List Int)), (wrap64 (a0 - 1)), (by first | rfl | (simp; done) | (simp [*]; done)), H', ⟨by first | omega | exact Nat.le_refl _⟩, ⟨by first | exact Kd.R_nil _ _ _ _ _ | exact Kd.N_nil _ _ _ _ _ | exact Kd.V_nil _ _ _ _ _ | exact Kd.Q_nil _ _ _ _ _ | exact Kd.S_nil _ _ _ _ _⟩, ⟨by repeat (first | (with_reducible first | exact HB.out | apply below_alloc | apply pw_below_drewN | apply below_drew1) | exact HB.out)⟩⟩
     ·rw [if_neg c8] at H
      have c8b0 : (a2 == 1) = false := beq_eq_false_iff_ne.mpr c8
      have c8b1 : (a2 != 1) = true := bne_iff_ne.mpr c8
      by_cases c9 : a2 = 3
      ·rw [if_pos c9] at H
       have c9b0 : (a2 == 3) = true := beq_iff_eq.mpr c9
       have c9b1 : (a2 != 3) = false := bne_eq_false_iff_eq.mpr c9
       clear c9
       have H' := Aside0.mk H
       clear H
       go_wp2
       go_meet
       case rel => exact ⟨_, (([] : List Int)), (0), (by first | rfl | (simp; done) | (simp [*]; done)), H', ⟨by first | omega | exact Nat.le_refl _⟩, ⟨by first | exact Kd.R_nil _ _ _ _ _ | exact Kd.N_nil _ _ _ _ _ | exact Kd.V_nil _ _ _ _ _ | exact Kd.Q_nil _ _ _ _ _ | exact Kd.S_nil _ _ _ _ _⟩, ⟨by repeat (first | (with_reducible first | exact HB.out | apply below_alloc | apply pw_below_drewN | apply below_drew1) | exact HB.out)⟩⟩
      ·rw [if_neg c9] at H
       have c9b0 : (a2 == 3) = false := beq_eq_false_iff_ne.mpr c9
       have c9b1 : (a2 != 3) = true := bne_iff_ne.mpr c9
       obtain rfl := Option.some.inj H
       go_wp2
       go_ret
       exact ⟨_, by first | rfl | (simp [errW_none, errW_some] <;> rfl) | (simp [*, errW_none, errW_some] <;> rfl), by first | exact Kd.R_nil _ _ _ _ _ | exact Kd.N_nil _ _ _ _ _ | exact Kd.V_nil _ _ _ _ _ | exact Kd.Q_nil _ _ _ _ _ | exact Kd.S_nil _ _ _ _ _, by repeat (first | (with_reducible first | exact HB.out | apply below_alloc | apply pw_below_drewN | apply below_drew1) | exact HB.out)⟩
  case rest =>
   clear HC5
   try clear c1
   try clear p2
   try clear c6
   try clear c6b0
   try clear c6b1
   try clear p6
   try clear c7
   try clear c7b0
   try clear c7b1
   try clear c8
   try clear c8b0
   try clear c8b1
   try clear c9
   try clear c9b0
   try clear c9b1
   obtain ⟨kq, x8_4, rfl, HA, HJ4, HO_7, HB⟩ := hcut
   cases kq with
   | zero => exact absurd HA.out (by simp [border_along.j0])
   | succ kj4 =>
    have H := HA.out
    clear HA
    simp only [border_along.j0] at H
    have H' := Aside0.mk H
    clear H
    go_wp2
    go_loopg [7, 25] kj4 (fun kq v7 v25 w' => ∃ (x7_2 : List Int) (x25_2 : Int), v25 = .int .i64 x25_2 ∧ Aside0 (border_along.l0 kq x7_2 x8_4 a0 x25_2 = some r) ∧ Aside0 (kq ≤ kj4) ∧ Aside0 (Kd.R (Kd.int .i64) 3 w' w.heap.size (fun _ => True) v7 x7_2) ∧ Aside0 (Below w.heap.size w w'))
    case atStart => exact ⟨(([] : List Int)), (0), (by first | rfl | (simp; done) | (simp [*]; done)), H', ⟨Nat.le_refl _⟩, ⟨by (with_reducible repeat (first | apply Kd.R_alloc | apply Kd.R_drewN | apply Kd.R_drew)); exact HO_7.out⟩, ⟨by repeat (first | (with_reducible first | exact HB.out | apply below_alloc | apply pw_below_drewN | apply below_drew1) | exact HB.out)⟩⟩
    case round =>
     clear H'
     try clear c1
     try clear p2
     try clear c6
     try clear c6b0
     try clear c6b1
     try clear p6
     try clear c7
     try clear c7b0
     try clear c7b1
     try clear c8
     try clear c8b0
     try clear c8b1
     try clear c9
     try clear c9b0
     try clear c9b1
     try clear p2
     try clear p6
     obtain ⟨x7_2, x25_2, rfl, HA, HK2, HO_7, HB⟩ := hrel
     cases gk with
     | zero => exact absurd HA.out (by simp [border_along.l0])
     | succ k2 =>
      have H := HA.out
      clear HA
      simp only [border_along.l0] at H
      by_cases c10 : x25_2 < a0
      ·rw [if_pos c10] at H
       have c10b0 : decide (x25_2 < a0) = true := decide_eq_true c10
       clear c10
       by_cases c11 : x7_2.length < 17592186044416
       ·rw [if_pos c11] at H
        have LMc11 := Aside0.mk c11
        clear c11
        obtain ⟨y156, hy156⟩ : ∃ y_ : List Int, y_ = (x7_2 ++ [wrap64 (x8_4 + x25_2)]) := ⟨_, rfl⟩
        replace H : (border_along.l0 k2 y156 x8_4 a0 (wrap64 (x25_2 + 1))) = some r := by first | (rw [hy156]; with_reducible exact H) | (have H2_ := (Option.bind_some _ _).symm.trans H; rw [hy156]; with_reducible exact H2_) | (have H2_ := (Option.bind_some _ _).symm.trans H; with_reducible exact H2_) | with_reducible exact H | (rw [hy156]; exact H) | exact H
        have Ny156 := Aside0.mk hy156
        clear hy156
        have H' := Aside0.mk H
        clear H
        go_wp2_with (first | ((with_reducible refine gate_builtin (b := .append) (xs := #[.tmp 28, .tmp 32]) rfl ?_); at_builtin; refine Kd.R_append (Kd.int .i64) (w0 := w) w.heap.size rfl (.tmp 28) (.tmp 32) 36 3 (.int .i64 0) 8 rfl Tryz.underlying36 info3 rfl (by decide) (by omega) u7 x7_2 (wrap64 (x8_4 + x25_2)) [.int .i64 (wrap64 (x8_4 + x25_2))] (fun _ => True) (fun _ => False) rfl rfl ?aP (fun _ hk => hk.elim) ?aF ?aO ?aB ?aS ?aL ?_; (case aP => exact rfl); (case aB => exact (by repeat (first | (with_reducible first | exact HB.out | apply below_alloc | apply pw_below_drewN | apply below_drew1) | exact HB.out))); (case aF => exact (fun _ _ => trivial)); (case aO => exact (by (with_reducible repeat (first | apply Kd.R_alloc | apply Kd.R_drewN | apply Kd.R_drew)); exact HO_7.out)); (case aS => exact (below_size (by repeat (first | (with_reducible first | exact HB.out | apply below_alloc | apply pw_below_drewN | apply below_drew1) | exact HB.out)))); (case aL => have := LMc11.out; omega); intro v157 w12 ho hb hg hat; rw [← Ny156.out] at ho; have n0_ := Aside0.mk (hb); have n1_ := Aside0.mk (ho); clear HB; clear HO_7; have HB := n0_; have HO158 := n1_; clear n0_ n1_; clear ho hb hg hat))
        go_roundg k2
        case measure => have := HJ4.out; have := HK2.out; omega
        case rel => exact ⟨(y156), (wrap64 (x25_2 + 1)), (by first | rfl | (simp; done) | (simp [*]; done)), H', ⟨by have := HJ4.out; have := HK2.out; omega⟩, ⟨by (with_reducible repeat (first | apply Kd.R_alloc | apply Kd.R_drewN | apply Kd.R_drew)); exact HO158.out⟩, ⟨by repeat (first | (with_reducible first | exact HB.out | apply below_alloc | apply pw_below_drewN | apply below_drew1) | exact HB.out)⟩⟩
       ·rw [if_neg c11] at H
        exact absurd H (by simp)
      ·rw [if_neg c10] at H
       have c10b0 : decide (x25_2 < a0) = false := decide_eq_false c10
       clear c10
       obtain rfl := Option.some.inj H
       go_wp2
       go_ret
       exact ⟨_, by first | rfl | (simp [errW_none, errW_some] <;> rfl) | (simp [*, errW_none, errW_some] <;> rfl), by (with_reducible repeat (first | apply Kd.R_alloc | apply Kd.R_drewN | apply Kd.R_drew)); exact HO_7.out, by repeat (first | (with_reducible first | exact HB.out | apply below_alloc | apply pw_below_drewN | apply below_drew1) | exact HB.out)⟩
 case rest =>
  clear HC4
  try clear c1
  try clear p2
  try clear c6
  try clear c6b0
  try clear c6b1
  try clear p6
  try clear c7
  try clear c7b0
  try clear c7b1
  try clear c8
  try clear c8b0
  try clear c8b1
  try clear c9
  try clear c9b0
  try clear c9b1
  try clear c10
  try clear c10b0
  try clear c11
  try clear p2
  try clear p6
  obtain ⟨kq, x7_3, x8_3, rfl, HA, HJ3, HO_7, HB⟩ := hcut
  cases kq with
  | zero => exact absurd HA.out (by simp [border_along.j2])
  | succ kj3 =>
   have H := HA.out
   clear HA
   simp only [border_along.j2] at H
   have H' := Aside0.mk H
   clear H
   go_wp2
   go_loopg [7, 38] kj3 (fun kq v7 v38 w' => ∃ (x7_2 : List Int) (x38_2 : Int), v38 = .int .i64 x38_2 ∧ Aside0 (border_along.l1 kq a0 x7_2 x8_3 a1 x38_2 = some r) ∧ Aside0 (kq ≤ kj3) ∧ Aside0 (Kd.R (Kd.int .i64) 3 w' w.heap.size (fun _ => True) v7 x7_2) ∧ Aside0 (Below w.heap.size w w'))
   case atStart => exact ⟨(x7_3), (0), (by first | rfl | (simp; done) | (simp [*]; done)), H', ⟨Nat.le_refl _⟩, ⟨by (with_reducible repeat (first | apply Kd.R_alloc | apply Kd.R_drewN | apply Kd.R_drew)); exact HO_7.out⟩, ⟨by repeat (first | (with_reducible first | exact HB.out | apply below_alloc | apply pw_below_drewN | apply below_drew1) | exact HB.out)⟩⟩
   case round =>
    clear H'
    try clear c1
    try clear p2
    try clear c6
    try clear c6b0
    try clear c6b1
    try clear p6
    try clear c7
    try clear c7b0
    try clear c7b1
    try clear c8
    try clear c8b0
    try clear c8b1
    try clear c9
    try clear c9b0
    try clear c9b1
    try clear c10
    try clear c10b0
    try clear c11
    try clear p2
    try clear p6
    obtain ⟨x7_2, x38_2, rfl, HA, HK2, HO_7, HB⟩ := hrel
    cases gk with
    | zero => exact absurd HA.out (by simp [border_along.l1])
    | succ k2 =>
     have H := HA.out
     clear HA
     simp only [border_along.l1] at H
     by_cases c13 : x38_2 < a1
     ·rw [if_pos c13] at H
      have c13b0 : decide (x38_2 < a1) = true := decide_eq_true c13
      clear c13
      by_cases c14 : x7_2.length < 17592186044416
      ·rw [if_pos c14] at H
       have LMc14 := Aside0.mk c14
       clear c14
       obtain ⟨y159, hy159⟩ : ∃ y_ : List Int, y_ = (x7_2 ++ [wrap64 (x8_3 + (wrap64 (x38_2 * a0)))]) := ⟨_, rfl⟩
       replace H : (border_along.l1 k2 a0 y159 x8_3 a1 (wrap64 (x38_2 + 1))) = some r := by first | (rw [hy159]; with_reducible exact H) | (have H2_ := (Option.bind_some _ _).symm.trans H; rw [hy159]; with_reducible exact H2_) | (have H2_ := (Option.bind_some _ _).symm.trans H; with_reducible exact H2_) | with_reducible exact H | (rw [hy159]; exact H) | exact H
       have Ny159 := Aside0.mk hy159
       clear hy159
       have H' := Aside0.mk H
       clear H
       go_wp2_with (first | ((with_reducible refine gate_builtin (b := .append) (xs := #[.tmp 41, .tmp 47]) rfl ?_); at_builtin; refine Kd.R_append (Kd.int .i64) (w0 := w) w.heap.size rfl (.tmp 41) (.tmp 47) 36 3 (.int .i64 0) 8 rfl Tryz.underlying36 info3 rfl (by decide) (by omega) u7 x7_2 (wrap64 (x8_3 + (wrap64 (x38_2 * a0)))) [.int .i64 (wrap64 (x8_3 + (wrap64 (x38_2 * a0))))] (fun _ => True) (fun _ => False) rfl rfl ?aP (fun _ hk => hk.elim) ?aF ?aO ?aB ?aS ?aL ?_; (case aP => exact rfl); (case aB => exact (by repeat (first | (with_reducible first | exact HB.out | apply below_alloc | apply pw_below_drewN | apply below_drew1) | exact HB.out))); (case aF => exact (fun _ _ => trivial)); (case aO => exact (by (with_reducible repeat (first | apply Kd.R_alloc | apply Kd.R_drewN | apply Kd.R_drew)); exact HO_7.out)); (case aS => exact (below_size (by repeat (first | (with_reducible first | exact HB.out | apply below_alloc | apply pw_below_drewN | apply below_drew1) | exact HB.out)))); (case aL => have := LMc14.out; omega); intro v160 w15 ho hb hg hat; rw [← Ny159.out] at ho; have n0_ := Aside0.mk (hb); have n1_ := Aside0.mk (ho); clear HB; clear HO_7; have HB := n0_; have HO161 := n1_; clear n0_ n1_; clear ho hb hg hat))
       go_roundg k2
       case measure => have := HJ3.out; have := HK2.out; omega
       case rel => exact ⟨(y159), (wrap64 (x38_2 + 1)), (by first | rfl | (simp; done) | (simp [*]; done)), H', ⟨by have := HJ3.out; have := HK2.out; omega⟩, ⟨by (with_reducible repeat (first | apply Kd.R_alloc | apply Kd.R_drewN | apply Kd.R_drew)); exact HO161.out⟩, ⟨by repeat (first | (with_reducible first | exact HB.out | apply below_alloc | apply pw_below_drewN | apply below_drew1) | exact HB.out)⟩⟩
      ·rw [if_neg c14] at H
       exact absurd H (by simp)
     ·rw [if_neg c13] at H
      have c13b0 : decide (x38_2 < a1) = false := decide_eq_false c13
      clear c13
      obtain rfl := Option.some.inj H
      go_wp2
      go_ret
      exact ⟨_, by first | rfl | (simp [errW_none, errW_some] <;> rfl) | (simp [*, errW_none, errW_some] <;> rfl), by (with_reducible repeat (first | apply Kd.R_alloc | apply Kd.R_drewN | apply Kd.R_drew)); exact HO_7.out, by repeat (first | (with_reducible first | exact HB.out | apply below_alloc | apply pw_below_drewN | apply below_drew1) | exact HB.out)⟩
end Go.Proofs.YthgehdembghdaaaGreat.P
