/-
  PLAIN: the seeds that herdsmanref7.Seeds makes of numbers. herdsmanref7.Seeds.
-/
import Derived.Test.YtgcfcemgeppkmaaXMay
import Derived.Test.YtgcfcemgeppkmaaPx2
import Derived.Test.YtgcfcemgeppkmaaPx2
import Derived.Deep.QuietTactic
import Derived.BigQuiet
import Derived.Deep.DeepCutAuto
import Derived.Deep.LoopGhost
import Derived.Deep.CutBlock
namespace Go.Proofs.Ytgcfcemgeppkmaa.P
open Go.RowKit Go.Proofs.YtgcfcemgeppkmaaW.PrintWords Go.Proofs.YtgcfcemgeppkmaaW.PrintLast Go.Proofs.YtgcfcemgeppkmaaW.PrintMore
set_option linter.unusedVariables false
set_option linter.unusedSimpArgs false
theorem within0 (x : Int) {n : Int} (h0 : 0 ≤ n) (h1 : n ≤ 1099511627776) : herdsmanref1_Within.f x 0 n = some (x % (n + 1)) := by
  unfold herdsmanref1_Within.f
  have e1 : wrap64 (n - 0) = n := by rw [w64 (by omega) (by omega)]; omega
  have e2 : wrap64 (n + 1) = n + 1 := w64 (by omega) (by omega)
  have hp := Int.emod_nonneg x (show n + 1 ≠ 0 by omega)
  have hq := Int.emod_lt_of_pos x (show 0 < n + 1 by omega)
  have ht := Int.tmod_eq_emod (a := x) (b := n + 1)
  have hna : ((n + 1).natAbs : Int) = n + 1 := by omega
  simp only [e1, e2]
  rw [if_neg (by omega)]
  by_cases hc : 0 ≤ x ∨ n + 1 ∣ x
  · rw [if_pos hc] at ht
    rw [show Int.tmod x (n + 1) = x % (n + 1) by omega, if_neg (by omega), w64 (by omega) (by omega)]
    congr 1; omega
  · rw [if_neg hc, hna] at ht
    have hne : x % (n + 1) ≠ 0 := fun h => hc (.inr (Int.dvd_of_emod_eq_zero h))
    rw [show Int.tmod x (n + 1) = x % (n + 1) - (n + 1) by omega, if_pos (by omega)]
    rw [w64 (n := x % (n + 1) - (n + 1) + n) (by omega) (by omega), w64 (n := x % (n + 1) - (n + 1) + n - 0) (by omega) (by omega), w64 (n := x % (n + 1) - (n + 1) + n - 0 + 1) (by omega) (by omega), w64 (by omega) (by omega)]
    congr 1; omega
/-- There is no cell beside, over that side. -/
def OutE (W H c s : Int) : Prop := s = 0 ∧ c / W = 0 ∨ s = 1 ∧ c % W = W - 1 ∨ s = 2 ∧ c / W = H - 1 ∨ s = 3 ∧ c % W = 0
instance (W H c s : Int) : Decidable (OutE W H c s) := inferInstanceAs (Decidable (_ ∨ _))
theorem refIn_some (n lo hi : Int) : herdsmanref1_In.f n lo hi = some (decide (lo ≤ n ∧ n ≤ hi)) := by
  unfold herdsmanref1_In.f
  by_cases h : n ≥ lo
  · rw [if_pos h]; exact congrArg some (decide_eq_decide.2 ⟨fun h2 => ⟨h, h2⟩, fun h2 => h2.2⟩)
  · rw [if_neg h]; exact congrArg some (decide_eq_false (fun h2 => h h2.1)).symm
theorem refMay_some (W H : Int) : herdsmanref1_May.f W H = some (decide ((1 ≤ W ∧ W ≤ 1024) ∧ 1 ≤ H ∧ H ≤ 1024)) := by
  unfold herdsmanref1_May.f
  simp only [refIn_some, Option.bind_some, decide_eq_true_eq]
  by_cases h : 1 ≤ W ∧ W ≤ 1024
  · rw [if_pos h]; exact congrArg some (decide_eq_decide.2 ⟨fun h2 => ⟨h, h2⟩, fun h2 => h2.2⟩)
  · rw [if_neg h]; exact congrArg some (decide_eq_false (fun h2 => h h2.1)).symm
theorem refIsCell_some {W H c : Int} (hW : 1 ≤ W ∧ W ≤ 16) (hH : 1 ≤ H ∧ H ≤ 16) (h0 : 0 ≤ c) (h1 : c < W * H) : herdsmanref1_IsCell.f W H c = some true := by
  have hm := mul_small hW hH
  unfold herdsmanref1_IsCell.f
  rw [refMay_some, Option.bind_some, if_pos (by rw [decide_eq_true_eq]; omega), refIn_some, Option.bind_some, w64 (n := W * H) (by omega) (by omega), w64 (by omega) (by omega)]
  exact congrArg some (decide_eq_true (by omega))
theorem step_some {W H c s : Int} (hW : 1 ≤ W ∧ W ≤ 16) (hH : 1 ≤ H ∧ H ≤ 16) (h0 : 0 ≤ c) (h1 : c < W * H) (hs : 0 ≤ s ∧ s ≤ 4) (k : Nat) : ∃ r, herdsmanref1_Step.f (k + 5) W H c s = some r ∧ (r < 0 ↔ OutE W H c s) := by
  have hm := mul_small hW hH
  have hd0 : 0 ≤ c / W := Int.ediv_nonneg h0 (by omega)
  have hdm := Int.mul_ediv_add_emod c W
  have hr0 : 0 ≤ c % W := Int.emod_nonneg _ (by omega)
  have hrW : c % W < W := Int.emod_lt_of_pos _ (by omega)
  have hdH : c / W < H := by
    rcases Int.lt_or_le (c / W) H with h | h
    · exact h
    · have := Int.mul_le_mul_of_nonneg_left (c := W) h (by omega)
      omega
  have hq : ∀ x y : Int, 0 ≤ x → 0 ≤ y → 0 ≤ y * W + x := fun x y hx hy => by have := Int.mul_nonneg hy (show 0 ≤ W by omega); omega
  have hq2 : ∀ x y : Int, x ≤ 16 → y ≤ 16 → y * W + x ≤ 1000 := fun x y hx hy => by
    have := Int.mul_le_mul_of_nonneg_right (c := W) hy (by omega)
    omega
  unfold herdsmanref1_Step.f
  rw [refIsCell_some hW hH h0 h1, Option.bind_some, if_pos rfl, refIn_some, Option.bind_some, decide_eq_true hs]
  rw [herdsmanref1_Step.j0, tdiv_nn h0, tmod_nn h0, w64 (n := c / W) (by omega) (by omega), w64 (n := c / W - 1) (by omega) (by omega)]
  rw [if_neg (by simp), if_neg (by omega)]
  have hj4 : ∀ x y : Int, -1 ≤ x → x ≤ W → -1 ≤ y → y ≤ H → ∃ r, herdsmanref1_Step.j4 (k + 1) W H x y = some r ∧ (r < 0 ↔ (x < 0 ∨ W ≤ x ∨ y < 0 ∨ H ≤ y)) := by
    intro x y hx1 hx2 hy1 hy2
    rw [herdsmanref1_Step.j4, refIn_some, refIn_some, Option.bind_some, Option.bind_some, w64 (n := W - 1) (by omega) (by omega), w64 (n := H - 1) (by omega) (by omega)]
    by_cases hx : 0 ≤ x ∧ x ≤ W - 1
    · rw [decide_eq_true hx, if_pos rfl]
      by_cases hy : 0 ≤ y ∧ y ≤ H - 1
      · rw [decide_eq_true hy, if_pos rfl]
        have e1 := hq x y hx.1 hy.1
        have e2 := hq2 x y (by omega) (by omega)
        have e3 := hq 0 y (by omega) hy.1
        have e4 := hq2 0 y (by omega) (by omega)
        refine ⟨_, rfl, ?_⟩
        rw [w64 (n := y * W) (by omega) (by omega), w64 (by omega) (by omega)]
        omega
      · rw [decide_eq_false hy, if_neg (by simp)]
        exact ⟨-1, rfl, by omega⟩
    · rw [decide_eq_false hx, if_neg (by simp)]
      exact ⟨-1, rfl, by omega⟩
  have fin : ∀ x y : Int, -1 ≤ x → x ≤ W → -1 ≤ y → y ≤ H → ((x < 0 ∨ W ≤ x ∨ y < 0 ∨ H ≤ y) ↔ OutE W H c s) → ∃ r, herdsmanref1_Step.j4 (k + 1) W H x y = some r ∧ (r < 0 ↔ OutE W H c s) := by
    intro x y a1 a2 a3 a4 he
    obtain ⟨r, e, h⟩ := hj4 x y a1 a2 a3 a4
    exact ⟨r, e, h.trans he⟩
  have hs5 : s = 0 ∨ s = 1 ∨ s = 2 ∨ s = 3 ∨ s = 4 := by omega
  rcases hs5 with rfl | rfl | rfl | rfl | rfl
  · rw [if_pos rfl]
    rw [herdsmanref1_Step.j1, if_neg (by decide), herdsmanref1_Step.j2, if_neg (by decide), herdsmanref1_Step.j3, if_neg (by decide)]
    exact fin _ _ (by omega) (by omega) (by omega) (by omega) (by unfold OutE; omega)
  · rw [if_neg (by decide)]
    rw [herdsmanref1_Step.j1, if_pos rfl, herdsmanref1_Step.j2, if_neg (by decide), herdsmanref1_Step.j3, if_neg (by decide), w64 (by omega) (by omega)]
    exact fin _ _ (by omega) (by omega) (by omega) (by omega) (by unfold OutE; omega)
  · rw [if_neg (by decide)]
    rw [herdsmanref1_Step.j1, if_neg (by decide), herdsmanref1_Step.j2, if_pos rfl, herdsmanref1_Step.j3, if_neg (by decide), w64 (by omega) (by omega)]
    exact fin _ _ (by omega) (by omega) (by omega) (by omega) (by unfold OutE; omega)
  · rw [if_neg (by decide)]
    rw [herdsmanref1_Step.j1, if_neg (by decide), herdsmanref1_Step.j2, if_neg (by decide), herdsmanref1_Step.j3, if_pos rfl, w64 (by omega) (by omega)]
    exact fin _ _ (by omega) (by omega) (by omega) (by omega) (by unfold OutE; omega)
  · rw [if_neg (by decide)]
    rw [herdsmanref1_Step.j1, if_neg (by decide), herdsmanref1_Step.j2, if_neg (by decide), herdsmanref1_Step.j3, if_neg (by decide)]
    exact fin _ _ (by omega) (by omega) (by omega) (by omega) (by unfold OutE; omega)
/-- The seed of a number. -/
def seedRaw (W H : Int) (C : List Int) (x : Int) : Seed := ⟨x % C.length, if OutE W H (x % C.length) (wrap64 (Int.tdiv x 3) % 5) then wrap64 (Int.tdiv x 3) % 5 else 4, if Int.tmod x 11 = 0 then x % 1073741825 else wrap64 (Int.tdiv x 7) % 901⟩
def seedOf (W H : Int) (C : List Int) (x : Int) : Option Seed := if rd C (x % C.length) = 255 then none else some (seedRaw W H C x)
def seedsOf (W H : Int) (C l : List Int) : List Seed := l.filterMap (seedOf W H C)
theorem seedsOf_len (W H : Int) (C l : List Int) : (seedsOf W H C l).length ≤ l.length := List.length_filterMap_le _ _
theorem seedsOf_snoc (W H : Int) (C l : List Int) (i : Nat) (hi : i < l.length) : seedsOf W H C (l.take (i + 1)) = seedsOf W H C (l.take i) ++ (seedOf W H C (rd l i)).toList := by
  rw [List.take_succ_eq_append_getElem hi, seedsOf, List.filterMap_append, rd_get l hi]
  cases h : seedOf W H C l[i] <;> simp [seedsOf, h]
/-- As the printed functions take it. -/
def refSeedsF (W H : Int) (C l : List Int) : Option (List Seed) := if TileOk W H C ∧ l.length ≤ 1000000 then some (seedsOf W H C l) else none
end Go.Proofs.Ytgcfcemgeppkmaa.P
namespace Go.Proofs.Ytgcfcemgeppkmaa.P
open Go.RowKit Go.Proofs.YtgcfcemgeppkmaaW.PrintWords Go.Proofs.YtgcfcemgeppkmaaW.PrintLast Go.Proofs.YtgcfcemgeppkmaaW.PrintMore
set_option linter.unusedVariables false
set_option linter.unusedSimpArgs false
set_option maxRecDepth 100000 in
set_option maxHeartbeats 1000000 in
theorem refSeeds_calls (a0_0 : Int) (a0_1 : Int) (A0_2 : Option Addr) (c0_2 : Nat) (l0_2 : List Int) (A1 : Option Addr) (c1 : Nat) (l1 : List Int) (r : List Seed) (w : World) (hr0_2 : Kd.C (Kd.int .u8) w A0_2 l0_2.length l0_2) (hc0_2 : l0_2.length ≤ c0_2) (hr1 : Kd.C (Kd.int .i64) w A1 l1.length l1) (hc1 : l1.length ≤ c1) (h : refSeedsF a0_0 a0_1 l0_2 l1 = some r) :
    Calls Try.prog 38 #[.agg #[.int .i64 a0_0, .int .i64 a0_1, .slice A0_2 l0_2.length c0_2], .slice A1 l1.length c1] w fun e w' => ∃ v0_ : Value, e = .returned (v0_) ∧ Kd.R k25 25 w' w.heap.size (fun _ => True) v0_ r ∧ Below w.heap.size w w' := by
  unfold refSeedsF at h
  by_cases hg : TileOk a0_0 a0_1 l0_2 ∧ l1.length ≤ 1000000
  · rw [if_pos hg] at h
    obtain rfl := Option.some.inj h
    have HR0 := Aside0.mk hr0_2
    have HR1 := Aside0.mk hr1
    have HT := Aside0.mk hg.1
    have HL := Aside0.mk hg.2
    have hwh := mul_small ⟨hg.1.1, hg.1.2.1⟩ ⟨hg.1.2.2.1, hg.1.2.2.2.1⟩
    have hlen0 : l0_2.length ≤ 256 := by have := hg.1.2.2.2.2.1; omega
    have hlen1 : 1 ≤ l0_2.length := by
      have := hg.1.2.2.2.2.1
      have h1 : 1 * 1 ≤ a0_0 * a0_1 := Int.mul_le_mul hg.1.1 hg.1.2.2.1 (by omega) (by have := hg.1.1; omega)
      omega
    have hll := hg.2
    clear h hg hr0_2 hr1 hc0_2 hc1 hwh
    go_enter Try.func38, Try.ntmps38
    go_wp2_with (((with_reducible refine gate_dst (N := 2) rfl ?_); refine box_event ?hg (N := 2) ?hd (cs := tileCells a0_0 a0_1 A0_2 l0_2.length c0_2) (t := 35) ?hr ?_; (case hd => rfl); (case hg => rfl); (case hr => first | (go_simp; done) | (go_simp; rfl)); intro gb hg w1 hbox hb; have b0 : w1.cell? ⟨gb, 0, none⟩ = _ := cell_blk hbox rfl; have b1 : w1.cell? ⟨gb, 1, none⟩ = _ := cell_blk hbox rfl; have b2 : w1.cell? ⟨gb, 2, none⟩ = _ := cell_blk hbox rfl; have HB1 := Aside0.mk hb; have HX := Aside0.mk hbox; clear hb hbox hg))
    go_loopg [5, 6] l1.length (fun gg v5 v6 wr => ∃ i : Nat, v6 = .int .i64 i ∧ i ≤ l1.length ∧ l1.length - i ≤ gg ∧ Aside0 (Kd.R k25 25 wr w1.heap.size (fun _ => True) v5 (seedsOf a0_0 a0_1 l0_2 (l1.take i))) ∧ Aside0 (Below w1.heap.size w1 wr))
    case atStart => exact ⟨0, rfl, Nat.zero_le _, Nat.le_refl _, ⟨Kd.R_nil _ _ _ _ _⟩, ⟨Below.refl _ _⟩⟩
    case round =>
      obtain ⟨i, rfl, hi, hgg, HO, HB⟩ := hrel
      clear b0 b1 b2
      by_cases hlt : i < l1.length
      · have hlt2 : (i : Int) < (l1.length : Int) := by omega
        have hBK := Aside0.mk ((HB.out.block gb (blk_lt HX.out)).trans HX.out)
        have b0 : wr.cell? ⟨gb, 0, none⟩ = some (.int .i64 a0_0) := cell_blk hBK.out rfl
        have b1 : wr.cell? ⟨gb, 1, none⟩ = some (.int .i64 a0_1) := cell_blk hBK.out rfl
        have b2 : wr.cell? ⟨gb, 2, none⟩ = some (.slice A0_2 l0_2.length c0_2) := cell_blk hBK.out rfl
        obtain ⟨ad1, hA1, ci⟩ : ∃ ad, A1 = some ad ∧ wr.cell? (ad.add i) = some (.int .i64 (rd l1 i)) := by
          have := Kd.at_int (Kd.C_below (Kd.C_below HR1.out HB1.out) HB.out) (i : Int) (by omega) hlt2
          simpa using this
        subst hA1
        obtain ⟨c, hcx⟩ : ∃ c : Nat, rd l1 (i : Int) % (l0_2.length : Int) = (c : Int) := ⟨(rd l1 (i : Int) % (l0_2.length : Int)).toNat, by have := Int.emod_nonneg (rd l1 (i : Int)) (show (l0_2.length : Int) ≠ 0 by omega); omega⟩
        have hcl : (c : Int) < (l0_2.length : Int) := by have := Int.emod_lt_of_pos (rd l1 (i : Int)) (show 0 < (l0_2.length : Int) by omega); omega
        obtain ⟨ad0, hA0, cc⟩ : ∃ ad, A0_2 = some ad ∧ wr.cell? (ad.add c) = some (.int .u8 (rd l0_2 c)) := by
          have := Kd.at_int (Kd.C_below (Kd.C_below HR0.out HB1.out) HB.out) (c : Int) (by omega) hcl
          simpa using this
        subst hA0
        have hw1 : IntKind.i64.wrap ((l0_2.length : Int) - 1) = (l0_2.length : Int) - 1 := by rw [IntKind.wrap_i64]; omega
        have HCX := Aside0.mk hcx
        have hW1 := within0 (rd l1 (i : Int)) (n := (l0_2.length : Int) - 1) (by omega) (by omega)
        rw [show (l0_2.length : Int) - 1 + 1 = (l0_2.length : Int) by omega, hcx] at hW1
        have HW1 := Aside0.mk hW1
        clear hcx hW1
        go_wp2_with fail
        go_quiet ((go_at_call 34; refine (herdsmanref1_Within.calls _ _ _ _ _ HW1.out).mono ?_; rintro e w' ⟨rfl, ⟨nd, rfl⟩⟩; exact ⟨rfl, _, World.drewN_drewN _ _ _⟩))
        have HO2 : Aside0 (Kd.R k25 25 (wr.drewN nq) w1.heap.size (fun _ => True) u5 (seedsOf a0_0 a0_1 l0_2 (l1.take i))) := ⟨Kd.R_drewN HO.out _⟩
        have HB2 : Aside0 (Below w1.heap.size w1 (wr.drewN nq)) := ⟨pw_below_drewN HB.out _⟩
        have HK2 : Aside0 ((wr.drewN nq).heap[gb]? = some (.cells (tileCells a0_0 a0_1 (some ad0) l0_2.length c0_2) 35 (0, 0))) := ⟨by rw [drewN_heap']; exact hBK.out⟩
        have d0 : (wr.drewN nq).cell? ⟨gb, 0, none⟩ = some (.int .i64 a0_0) := by rw [World.cell?_drewN]; exact b0
        have d1 : (wr.drewN nq).cell? ⟨gb, 1, none⟩ = some (.int .i64 a0_1) := by rw [World.cell?_drewN]; exact b1
        have d2 : (wr.drewN nq).cell? ⟨gb, 2, none⟩ = some (.slice (some ad0) l0_2.length c0_2) := by rw [World.cell?_drewN]; exact b2
        have di : (wr.drewN nq).cell? (ad1.add i) = some (.int .i64 (rd l1 i)) := by rw [World.cell?_drewN]; exact ci
        have dc : (wr.drewN nq).cell? (ad0.add c) = some (.int .u8 (rd l0_2 c)) := by rw [World.cell?_drewN]; exact cc
        clear b0 b1 b2 ci cc
        clear hBK HO HB
        generalize wr.drewN nq = wa at *
        by_cases hwall : rd l0_2 (c : Int) = 255
        · rw [hwall] at dc
          have hb : ((255 : Int) == 255) = true := rfl
          have HWALL := Aside0.mk hwall
          clear hwall
          go_wp2_with fail
          go_roundg (l1.length - (i + 1))
          case measure => omega
          case rel =>
            refine ⟨i + 1, by go_num, by omega, Nat.le_refl _, ⟨?_⟩, HB2⟩
            rw [seedsOf_snoc _ _ _ _ i hlt, show seedOf a0_0 a0_1 l0_2 (rd l1 i) = none by unfold seedOf; rw [HCX.out, if_pos HWALL.out]]
            simpa using HO2.out
        · have hb : (rd l0_2 (c : Int) == 255) = false := beq_eq_false_iff_ne.2 hwall
          have HWALL := Aside0.mk hwall
          obtain ⟨k7, hk7⟩ : ∃ k7, k7 = wrap64 (Int.tdiv (rd l1 (i : Int)) 7) % (900 + 1) := ⟨_, rfl⟩
          obtain ⟨s3, hs3⟩ : ∃ s3, s3 = wrap64 (Int.tdiv (rd l1 (i : Int)) 3) % (4 + 1) := ⟨_, rfl⟩
          have hW7 := within0 (wrap64 (Int.tdiv (rd l1 (i : Int)) 7)) (n := 900) (by omega) (by omega)
          have hW3 := within0 (wrap64 (Int.tdiv (rd l1 (i : Int)) 3)) (n := 4) (by omega) (by omega)
          rw [← hk7] at hW7
          rw [← hs3] at hW3
          obtain ⟨st, hst, hstn⟩ := step_some (W := a0_0) (H := a0_1) (c := (c : Int)) (s := s3) ⟨HT.out.1, HT.out.2.1⟩ ⟨HT.out.2.2.1, HT.out.2.2.2.1⟩ (by omega) (by rw [← HT.out.2.2.2.2.1]; exact hcl) (by omega) 0
          have HW7 := Aside0.mk hW7
          have HW3 := Aside0.mk hW3
          have HST := Aside0.mk hst
          have HSTN := Aside0.mk hstn
          have HK7 := Aside0.mk hk7
          have HS3 := Aside0.mk hs3
          clear hwall hk7 hs3 hW7 hW3 hst hstn
          have hqe : Addr.block (ad1.add i) < w1.heap.size := Nat.lt_of_lt_of_le (World.block_lt_of_cell? w _ (by have := Kd.at_int HR1.out (i : Int) (by omega) hlt2; simpa using this)) HB1.out.size
          have hqc : gb < w1.heap.size := blk_lt HX.out
          have HQE := Aside0.mk hqe
          have HQC := Aside0.mk hqc
          clear hqe hqc
          go_upto_if 52 with (first
            | ((with_reducible refine gate_dst (N := 8) rfl ?_); refine box_event ?hg (N := 8) ?hd (cs := #[.int .i64 0, .int .i64 0, .int .i64 0]) (t := 25) ?hr ?_; (case hd => rfl); (case hg => rfl); (case hr => first | (go_simp; done) | (go_simp; rfl)); intro gs hg wb hbox hbb; have e0 := pw_cell_below hbb (a := ⟨gb, 0, none⟩) (v := .int .i64 a0_0) d0; have e1 := pw_cell_below hbb (a := ⟨gb, 1, none⟩) (v := .int .i64 a0_1) d1; have ei := pw_cell_below hbb (a := ad1.add i) (v := .int .i64 (rd l1 i)) di; have z0 : wb.cell? ⟨gs, 0, none⟩ = some (.int .i64 0) := cell_blk hbox rfl; have z1 : wb.cell? ⟨gs, 1, none⟩ = some (.int .i64 0) := cell_blk hbox rfl; have z2 : wb.cell? ⟨gs, 2, none⟩ = some (.int .i64 0) := cell_blk hbox rfl; have f0 := free_blk hbox 0; have f1 := free_blk hbox 1; have f2 := free_blk hbox 2; have hne1 : gs ≠ (ad1.add i).block := (by rw [hg]; exact Nat.ne_of_gt (World.block_lt_of_cell? wa _ di)); have hne2 : gs ≠ gb := (by rw [hg]; exact Nat.ne_of_gt (World.block_lt_of_cell? wa _ d0)); have hfi : ∀ (W : World) (j : Nat) (v : Value), (W.setCell ⟨gs, j, none⟩ v).cell? (ad1.add i) = W.cell? (ad1.add i) := (fun W j v => World.cell?_setCell_other _ _ _ _ (fun e => hne1 (by rw [← e]))); have hfb : ∀ (W : World) (j o : Nat) (v : Value), (W.setCell ⟨gs, j, none⟩ v).cell? ⟨gb, o, none⟩ = W.cell? ⟨gb, o, none⟩ := (fun W j o v => World.cell?_setCell_other _ _ _ _ (fun e => hne2 (congrArg Addr.block e))); have HBOX := Aside0.mk hbox; have HBB := Aside0.mk hbb; have HGE : Aside0 (wa.heap.size ≤ gs) := ⟨Nat.le_of_eq hg.symm⟩; clear hbox hbb hg hne1 hne2)
            | (go_at_call 34; (with_reducible refine (herdsmanref1_Within.calls (wrap64 (Int.tdiv (rd l1 (i : Int)) 7)) 0 900 k7 _ HW7.out).mono ?_); rintro e w' ⟨rfl, ⟨q1, rfl⟩⟩)
            | (go_at_call 34; (with_reducible refine (herdsmanref1_Within.calls (wrap64 (Int.tdiv (rd l1 (i : Int)) 3)) 0 4 s3 _ HW3.out).mono ?_); rintro e w' ⟨rfl, ⟨q2, rfl⟩⟩)
            | (go_at_call 80; (with_reducible refine (herdsmanref1_Step.calls 5 a0_0 a0_1 (c : Int) s3 st _ HST.out).mono ?_); rintro e w' ⟨rfl, ⟨q3, rfl⟩⟩))
          generalize hw52 : (((wb.setCell ⟨gs, 0, none⟩ (.int .i64 c)).setCell ⟨gs, 1, none⟩ (.int .i64 4)).setCell ⟨gs, 2, none⟩ (.int .i64 k7)).drewN (q2 + q3) = w52
          have X52 : Aside0 (w52.heap[gs]? = some (.cells #[.int .i64 c, .int .i64 4, .int .i64 k7] 25 (0, 0))) := ⟨by rw [← hw52]; exact set_blk (set_blk (set_blk HBOX.out 0 (.int .i64 c)) 1 (.int .i64 4)) 2 (.int .i64 k7)⟩
          have B52 : Aside0 (Below wa.heap.size wa w52) := ⟨by rw [← hw52]; exact pw_below_drewN (((((Chg.of_below (show Below wa.heap.size wa wb from ⟨HBB.out.os, HBB.out.tape, HBB.out.output, HBB.out.size, HBB.out.block⟩) (fun k => wa.heap.size ≤ k)).set_ (p := ⟨gs, 0, none⟩) (.inl HGE.out) (.int .i64 c)).set_ (p := ⟨gs, 1, none⟩) (.inl HGE.out) (.int .i64 4)).set_ (p := ⟨gs, 2, none⟩) (.inl HGE.out) (.int .i64 k7)).below (fun k hk => hk) (Nat.le_refl _)) _⟩
          clear hw52 e0 e1 ei z0 z1 z2 f0 f1 f2 hfi hfb HBOX HBB d2 dc
          go_cut [] (fun wc => ∃ sd : Int, Aside0 (sd = if OutE a0_0 a0_1 c s3 then s3 else 4) ∧ Aside0 (wc.heap[gs]? = some (.cells #[.int .i64 c, .int .i64 sd, .int .i64 k7] 25 (0, 0))) ∧ Aside0 (Below wa.heap.size wa wc))
          case first =>
            by_cases hst0 : st < 0
            · have HO0 := Aside0.mk (HSTN.out.1 hst0)
              have f1 := free_blk X52.out 1
              have z1 : w52.cell? ⟨gs, 1, none⟩ = some (.int .i64 4) := cell_blk X52.out rfl
              go_wp2
              go_meet
              exact ⟨s3, ⟨by rw [if_pos HO0.out]⟩, ⟨set_blk X52.out 1 (.int .i64 s3)⟩, ⟨((Chg.of_below B52.out (fun k => wa.heap.size ≤ k)).set_ (p := ⟨gs, 1, none⟩) (.inl HGE.out) (.int .i64 s3)).below (fun k hk => hk) (Nat.le_refl _)⟩⟩
            · have HO0 := Aside0.mk (fun h => hst0 (HSTN.out.2 h))
              go_wp2
              go_meet
              exact ⟨4, ⟨by rw [if_neg HO0.out]⟩, X52, B52⟩
          case rest =>
            obtain ⟨sd, HSD, X53, B53⟩ := hcut
            clear X52 B52
            have ei := pw_cell_below B53.out di
            go_upto_if 60 with (fail)
            have hWK := within0 (rd l1 (i : Int)) (n := 1073741824) (by omega) (by omega)
            obtain ⟨kk, hkk⟩ : ∃ kk, kk = rd l1 (i : Int) % (1073741824 + 1) := ⟨_, rfl⟩
            rw [← hkk] at hWK
            have HWK := Aside0.mk hWK
            have HKK := Aside0.mk hkk
            clear hWK hkk
            go_cut [] (fun wc => ∃ ky : Int, Aside0 (ky = if Int.tmod (rd l1 (i : Int)) 11 = 0 then kk else k7) ∧ Aside0 (wc.heap[gs]? = some (.cells #[.int .i64 c, .int .i64 sd, .int .i64 ky] 25 (0, 0))) ∧ Aside0 (Below wa.heap.size wa wc))
            case first =>
              by_cases h11 : Int.tmod (rd l1 (i : Int)) 11 = 0
              · have f2 := free_blk X53.out 2
                have z2 := cell_blk (j := 2) (u := .int .i64 k7) X53.out rfl
                go_wp2_with (go_at_call 34; (with_reducible refine (herdsmanref1_Within.calls (rd l1 (i : Int)) 0 1073741824 kk _ HWK.out).mono ?_); rintro e w' ⟨rfl, ⟨q5, rfl⟩⟩)
                go_meet
                exact ⟨kk, ⟨by rw [if_pos h11]⟩, ⟨set_blk (w := World.drewN _ _) X53.out 2 (.int .i64 kk)⟩, ⟨((Chg.of_below (pw_below_drewN B53.out _) (fun k => wa.heap.size ≤ k)).set_ (p := ⟨gs, 2, none⟩) (.inl HGE.out) (.int .i64 kk)).below (fun k hk => hk) (Nat.le_refl _)⟩⟩
              · have hb11 : (Int.tmod (rd l1 (i : Int)) 11 == 0) = false := beq_eq_false_iff_ne.2 h11
                go_wp2
                go_meet
                exact ⟨k7, ⟨by rw [if_neg h11]⟩, X53, B53⟩
            case rest =>
              obtain ⟨ky, HKY, X54, B54⟩ := hcut
              clear X53 B53 ei
              have z0 := cell_blk (j := 0) (u := .int .i64 c) X54.out rfl
              have z1 := cell_blk (j := 1) (u := .int .i64 sd) X54.out rfl
              have z2 := cell_blk (j := 2) (u := .int .i64 ky) X54.out rfl
              have HO4 := Aside0.mk (Kd.R_below HO2.out B54.out)
              have HB4 := Aside0.mk (below_step HB2.out B54.out)
              have hln0 := seedsOf_len a0_0 a0_1 l0_2 (l1.take i)
              have hln1 : (l1.take i).length ≤ l1.length := by rw [List.length_take]; omega
              have HLN : Aside0 ((seedsOf a0_0 a0_1 l0_2 (l1.take i)).length ≤ 1000000) := ⟨by omega⟩
              clear hln0 hln1
              go_wp2_with ((with_reducible refine gate_builtin (b := .append) (xs := #[.tmp 67, .tmp 69]) rfl ?_); at_builtin; refine Kd.R_append k25 (w0 := w1) w1.heap.size rfl (.tmp 67) (.tmp 69) 22 25 (.agg #[(.int .i64 0), (.int .i64 0), (.int .i64 0)]) 24 rfl Try.underlying22 info25 rfl (by decide) (by omega) u5 (seedsOf a0_0 a0_1 l0_2 (l1.take i)) (⟨(c : Int), sd, ky⟩ : Seed) [.int .i64 c, .int .i64 sd, .int .i64 ky] (fun _ => True) (fun _ => False) rfl (by first | (go_simp; done) | (go_simp; rfl)) ?aP (fun _ hk => hk.elim) ?aF ?aO ?aB ?aS ?aL ?_; (case aP => exact k25_mkM _ _ _ (⟨(c : Int), sd, ky⟩ : Seed)); (case aB => exact (by repeat (first | (with_reducible first | exact HB4.out | apply below_alloc | apply pw_below_drewN | apply below_drew1) | exact HB4.out))); (case aF => exact (fun _ _ => trivial)); (case aO => exact (by (with_reducible repeat (first | apply Kd.R_alloc | apply Kd.R_drewN | apply Kd.R_drew)); exact HO4.out)); (case aS => exact (below_size (by repeat (first | (with_reducible first | exact HB4.out | apply below_alloc | apply pw_below_drewN | apply below_drew1) | exact HB4.out)))); (case aL => have := HLN.out; omega); intro v5 w55 ho hb hg hat; have HO5 := Aside0.mk ho; have HB5 := Aside0.mk hb; clear ho hb hg hat)
              go_roundg (l1.length - (i + 1))
              case measure => omega
              case rel =>
                refine ⟨i + 1, by go_num, by omega, Nat.le_refl _, ⟨?_⟩, HB5⟩
                have hso : seedOf a0_0 a0_1 l0_2 (rd l1 i) = some ⟨(c : Int), sd, ky⟩ := by
                  unfold seedOf seedRaw
                  rw [HCX.out, if_neg HWALL.out, HSD.out, HKY.out, HKK.out, HK7.out, HS3.out]
                  rfl
                rw [seedsOf_snoc _ _ _ _ i hlt, hso]
                exact HO5.out
      · have : i = l1.length := by omega
        subst this
        go_wp2_with fail
        go_ret
        rw [List.take_length] at HO
        exact ⟨_, rfl, Kd.R_lower HO.out HB1.out.size, below_step HB1.out HB.out⟩
  · rw [if_neg hg] at h
    exact absurd h (by simp)
end Go.Proofs.Ytgcfcemgeppkmaa.P
