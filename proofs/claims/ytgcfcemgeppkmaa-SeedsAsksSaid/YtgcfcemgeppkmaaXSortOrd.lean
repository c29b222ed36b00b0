/-
  seeds.order, as the sort asks it: its answer, and the world behind it to the block.
-/
import Derived.Test.YtgcfcemgeppkmaaPx3
import Derived.Test.YtgcfcemgeppkmaaXBase
import Derived.Shelf.SlSortCmp.InsertionK
import Derived.StillTailTactics
namespace Go.Proofs.Ytgcfcemgeppkmaa.P
open Go.RowKit Go.Proofs.YtgcfcemgeppkmaaW.PrintWords Go.Proofs.YtgcfcemgeppkmaaW.PrintLast Go.Proofs.YtgcfcemgeppkmaaW.PrintMore
open Go.Sort (grow)
set_option linter.unusedVariables false
set_option linter.unusedSimpArgs false


def encS (x : Seed) : List Value := [.int .i64 x.f0, .int .i64 x.f1, .int .i64 x.f2]
def cmpI (a b : Int) : Int := if a < b then -1 else if b < a then 1 else 0
def orI (a b c : Int) : Int := if a ≠ 0 then a else if b ≠ 0 then b else c
def ordS (a b : Seed) : Int := orI (cmpI a.f2 b.f2) (cmpI a.f0 b.f0) (cmpI a.f1 b.f1)

theorem compare_some (a b : Int) : cmp_Compare_int.f a b = some (cmpI a b) := by
  unfold cmp_Compare_int.f cmp_isNaN_int.f cmpI
  simp only [Option.bind_some, bne_self_eq_false, Bool.false_eq_true, if_false]
  split
  · rfl
  · rename_i h
    by_cases h2 : b < a
    · rw [if_pos (show a > b from h2), if_pos h2]
    · rw [if_neg (show ¬ a > b from h2), if_neg h2]
theorem or_some (a b c : Int) : cmp_Or_int.f 4 [a, b, c] = some (orI a b c) := by
  unfold cmp_Or_int.f orI
  have e0 : rd [a, b, c] 0 = a := rfl
  have e1 : rd [a, b, c] 1 = b := rfl
  have e2 : rd [a, b, c] 2 = c := rfl
  have w1 : wrap64 (0 + 1) = 1 := w64 (by decide) (by decide)
  have w2 : wrap64 (1 + 1) = 2 := w64 (by decide) (by decide)
  have w3 : wrap64 (2 + 1) = 3 := w64 (by decide) (by decide)
  have l : (([a, b, c] : List Int).length : Int) = 3 := rfl
  rw [l, cmp_Or_int.l0, if_pos (by decide), if_pos (by decide), l, if_pos (by decide), e0, w1]
  by_cases ha : a = 0
  · rw [if_pos ha, if_neg (show ¬ a ≠ 0 by simpa using ha), cmp_Or_int.l0, if_pos (by decide), if_pos (by decide), l, if_pos (by decide), e1, w2]
    by_cases hb : b = 0
    · rw [if_pos hb, if_neg (show ¬ b ≠ 0 by simpa using hb), cmp_Or_int.l0, if_pos (by decide), if_pos (by decide), l, if_pos (by decide), e2, w3]
      by_cases hc : c = 0
      · rw [if_pos hc, cmp_Or_int.l0, if_neg (by decide), hc]
      · rw [if_neg hc]
    · rw [if_neg hb, if_pos hb]
  · rw [if_neg ha, if_pos ha]

theorem isNaN_calls (a : Int) (w : World) : Calls Try.prog 118 #[.int .i64 a] w fun e w' => e = .returned (.bool false) ∧ w' = w := by
  go_enter Try.func118, Try.ntmps118
  go_wp2
  go_ret
  exact ⟨by simp, rfl⟩
theorem compare_calls (a b : Int) (w : World) : Calls Try.prog 96 #[.int .i64 a, .int .i64 b] w fun e w' => e = .returned (.int .i64 (cmpI a b)) ∧ w' = w := by
  by_cases h1 : a < b
  · have e : cmpI a b = -1 := by simp [cmpI, h1]
    rw [e]
    clear e
    go_enter Try.func96, Try.ntmps96
    go_wp2_with (go_at_call 118; refine (isNaN_calls _ _).mono ?_; rintro e w' ⟨rfl, rfl⟩)
    go_ret
    exact ⟨rfl, rfl⟩
  · by_cases h2 : b < a
    · have e : cmpI a b = 1 := by simp [cmpI, h1, h2]
      rw [e]
      clear e
      go_enter Try.func96, Try.ntmps96
      go_wp2_with (go_at_call 118; refine (isNaN_calls _ _).mono ?_; rintro e w' ⟨rfl, rfl⟩)
      go_ret
      exact ⟨rfl, rfl⟩
    · have e : cmpI a b = 0 := by simp [cmpI, h1, h2]
      rw [e]
      clear e
      go_enter Try.func96, Try.ntmps96
      go_wp2_with (go_at_call 118; refine (isNaN_calls _ _).mono ?_; rintro e w' ⟨rfl, rfl⟩)
      go_ret
      exact ⟨rfl, rfl⟩

theorem alloc_grow (w : World) (o : Obj) : w.alloc o = grow w #[o] := Go.Sort.alloc_eq_grow w o

set_option maxHeartbeats 1000000 in
set_option maxRecDepth 100000 in
theorem order_calls (x y : Seed) (w : World) : Calls Try.prog 75 #[.agg #[.int .i64 x.f0, .int .i64 x.f1, .int .i64 x.f2], .agg #[.int .i64 y.f0, .int .i64 y.f1, .int .i64 y.f2]] w fun e w' => e = .returned (.int .i64 (ordS x y)) ∧ ∃ q os', w' = grow (w.drewN q) os' := by
  have hu25 := Try.underlying25
  have hor : ∀ (v : Value) (n c : Nat) (A : Option Addr) (W : World), (Kd.int .i64).C W A 3 [cmpI x.f2 y.f2, cmpI x.f0 y.f0, cmpI x.f1 y.f1] → v = .slice A 3 c → 3 ≤ c → Calls Try.prog 106 #[v] W fun e w' => e = .returned (.int .i64 (ordS x y)) ∧ ∃ n, w' = W.drewN n := by
    intro v n c A W hC hv hc
    subst hv
    exact (cmp_Or_int.calls 4 A c [cmpI x.f2 y.f2, cmpI x.f0 y.f0, cmpI x.f1 y.f1] (ordS x y) W hC hc (or_some _ _ _)).mono fun _ _ ⟨he, hd⟩ => ⟨he, hd.out⟩
  generalize ordS x y = r at *
  go_enter Try.func75, Try.ntmps75
  go_wp2
  generalize hW : (w.alloc (Obj.cells #[Value.int .i64 x.f0, Value.int .i64 x.f1, Value.int .i64 x.f2] 25)).alloc (Obj.cells #[Value.int .i64 y.f0, Value.int .i64 y.f1, Value.int .i64 y.f2] 25) = W
  have c0 : W.drew.cell? ⟨w.heap.size, 0, none⟩ = some (.int .i64 x.f0) := by subst hW; go_simp
  have c1 : W.drew.cell? ⟨w.heap.size, 1, none⟩ = some (.int .i64 x.f1) := by subst hW; go_simp
  have c2 : W.drew.cell? ⟨w.heap.size, 2, none⟩ = some (.int .i64 x.f2) := by subst hW; go_simp
  have d0 : W.drew.cell? ⟨w.heap.size + 1, 0, none⟩ = some (.int .i64 y.f0) := by subst hW; go_simp
  have d1 : W.drew.cell? ⟨w.heap.size + 1, 1, none⟩ = some (.int .i64 y.f1) := by subst hW; go_simp
  have d2 : W.drew.cell? ⟨w.heap.size + 1, 2, none⟩ = some (.int .i64 y.f2) := by subst hW; go_simp
  have HW : Aside0 (∃ os, W = grow w os) := ⟨_, by rw [← hW, alloc_grow, alloc_grow, Go.Sort.grow_grow]⟩
  clear hW
  generalize w.heap.size = g at *
  refine wp_region_still_tail 15 (by kernel_rfl) (by kernel_rfl) ?_
  simp only [List.take_succ_cons, List.take_zero, List.drop_succ_cons, List.drop_zero]
  change wpStill _ _ W.drew _ _ _
  repeat (first | still_step | still_call (compare_calls _ _ _))
  refine wpStill_nil ?_
  change wpList _ _ _ _ _ W.drew
  have HV : Aside0 (∃ q os, W.drew = grow (w.drewN q) os) := by
    obtain ⟨os, e⟩ := HW.out
    exact ⟨1, os, by rw [e]; rfl⟩
  clear c0 c1 c2 d0 d1 d2 HW
  generalize W.drew = V at *
  have hC : ∀ o : Obj, o = .cells #[.int .i64 (cmpI x.f2 y.f2), .int .i64 (cmpI x.f0 y.f0), .int .i64 (cmpI x.f1 y.f1)] 3 → (Kd.int .i64).C (V.alloc o) (some ⟨V.heap.size, 0, none⟩) 3 [cmpI x.f2 y.f2, cmpI x.f0 y.f0, cmpI x.f1 y.f1] := by
    rintro _ rfl
    refine ⟨rfl, by decide, fun _ => ⟨_, rfl, fun j p hj => ⟨[.int .i64 p], rfl, rfl, fun i u hu => ?_⟩⟩⟩
    match j, i, hj, hu with
    | 0, 0, hj, hu => simp at hj hu; subst hj hu; go_simp
    | 1, 0, hj, hu => simp at hj hu; subst hj hu; go_simp; rfl
    | 2, 0, hj, hu => simp at hj hu; subst hj hu; go_simp; rfl
    | j, i + 1, hj, hu => simp at hu
    | j + 3, 0, hj, hu => simp at hj
  have HC := Aside0.mk hC
  have HO := Aside0.mk hor
  clear hC hor
  go_wp2_with (go_at_call 106; refine (HO.out _ 3 3 _ _ (HC.out _ rfl) rfl (Nat.le_refl _)).mono ?_; rintro e w' ⟨rfl, n, rfl⟩)
  go_ret
  obtain ⟨q, os, hV⟩ := HV.out
  exact ⟨rfl, q + n, os ++ #[.cells #[.int .i64 (cmpI x.f2 y.f2), .int .i64 (cmpI x.f0 y.f0), .int .i64 (cmpI x.f1 y.f1)] 3], by rw [hV, alloc_grow, Go.Sort.grow_grow, ← World.drewN_drewN]; rfl⟩
end Go.Proofs.Ytgcfcemgeppkmaa.P
