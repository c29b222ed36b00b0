import Derived.Test.YthgehdembghdaaaGreatJ17
import Derived.BigRegion
import Derived.Test.YthgehdembghdaaaGreatXWith1
import Derived.Test.YthgehdembghdaaaGreatXLruKeys
import Derived.Test.YthgehdembghdaaaGreatXWhere
import Derived.Test.YthgehdembghdaaaGreatPx15
import Derived.Test.YthgehdembghdaaaGreatJ11
import Derived.Test.YthgehdembghdaaaGreatXMesh3
import Derived.Test.YthgehdembghdaaaGreatXSpread
import Derived.Test.YthgehdembghdaaaGreatPx6
namespace Go.Proofs.YthgehdembghdaaaGreat.P
open Go.RowKit Go.Proofs.YthgehdembghdaaaGreatW.PrintWords Go.Proofs.YthgehdembghdaaaGreatW.PrintLast Go.Proofs.YthgehdembghdaaaGreatW.PrintMore
set_option linter.unusedVariables false
set_option linter.unusedSimpArgs false
variable {w w' : World} {hb g cap : Nat} {l : List EnS}
def leastJ (l : List Heap.E) (i : Nat) : Nat → Nat
 | 0 => i
 | 1 => Heap.leastA l i
 | _ => Heap.least l i
theorem leastJ_step {l : List Heap.E} {i j k : Nat} (hk : k = 2 * i + 1 + j) (hj : j < 2) (hl : k < l.length) : leastJ l i (j + 1) = if Heap.lt (Heap.gt l k) (Heap.gt l (leastJ l i j)) = true then k else leastJ l i j := by
 subst hk
 rcases (show j = 0 ∨ j = 1 by omega) with rfl | rfl
 ·show Heap.leastA l i = _
  unfold Heap.leastA leastJ
  simp only [show 2 * i + 1 + 0 = 2 * i + 1 from rfl] at hl ⊢
  by_cases q : Heap.lt (Heap.gt l (2 * i + 1)) (Heap.gt l i) = true
  ·rw [if_pos ⟨hl, q⟩, if_pos q]
  ·rw [if_neg (fun z => q z.2), if_neg q]
 ·show Heap.least l i = if Heap.lt (Heap.gt l (2 * i + 2)) (Heap.gt l (Heap.leastA l i)) = true then 2 * i + 2 else Heap.leastA l i
  unfold Heap.least
  by_cases q : Heap.lt (Heap.gt l (2 * i + 2)) (Heap.gt l (Heap.leastA l i)) = true
  ·rw [if_pos ⟨by omega, q⟩, if_pos q]
  ·rw [if_neg (fun z => q z.2), if_neg q]
theorem leastJ_end {l : List Heap.E} {i j : Nat} (hj : j ≤ 2) (h : ¬ (j < 2 ∧ 2 * i + 1 + j < l.length)) : leastJ l i j = Heap.least l i := by
 rcases (show j = 0 ∨ j = 1 ∨ j = 2 by omega) with rfl | rfl | rfl
 ·show i = _
  unfold Heap.least Heap.leastA
  rw [if_neg (fun z => h ⟨by omega, by omega⟩), if_neg (fun z => h ⟨by omega, by omega⟩)]
 ·show Heap.leastA l i = _
  unfold Heap.least
  rw [if_neg (fun z => h ⟨by omega, by omega⟩)]
 ·rfl
theorem leastJ_le (l : List Heap.E) (i j : Nat) (hj : j < 2) : leastJ l i j < 2 * i + 1 + j := by
 rcases (show j = 0 ∨ j = 1 by omega) with rfl | rfl
 ·show i < _
  omega
 ·show Heap.leastA l i < _
  unfold Heap.leastA
  split <;> omega
set_option maxRecDepth 1000000 in
set_option maxHeartbeats 8000000 in
theorem down_calls (h : HeapW w hb g cap l) (hn : l.length ≤ 8000000000000) : Calls Tryz.prog 144 #[.pointer (some ⟨hb, 0, none⟩)] w fun e w' => e = .returned (.tuple #[]) ∧ ∃ l', HeapV w w' hb g cap l' ∧ l'.map toE = Heap.downF (l.length + 1) 0 (l.map toE) := by
 have HH : Aside0 (HeapV w w hb g cap l) := ⟨⟨h, Chg.refl _ _⟩⟩
 have HN := Aside0.mk hn
 clear h hn
 go_enter Tryz.func144, Tryz.ntmps144
 go_wp2_with fail
 go_loopg [2] l.length (fun gg v2 wr => ∃ (i : Nat) (lk : List EnS), v2 = .int .i64 (i : Int) ∧ (i = 0 ∨ i < l.length) ∧ l.length - i ≤ gg ∧ lk.length = l.length ∧ Aside0 (HeapV w wr hb g cap lk) ∧ Aside0 (∃ f, l.length - i < f ∧ Heap.downF f i (lk.map toE) = Heap.downF (l.length + 1) 0 (l.map toE)))
 case atStart => exact ⟨0, l, rfl, .inl rfl, by omega, rfl, HH, ⟨l.length + 1, by omega, rfl⟩⟩
 case round =>
  obtain ⟨i, lk, rfl, hi, hgg, hlk, HW, HF⟩ := hrel
  have iw1 : IntKind.i64.wrap (2 * (i : Int)) = 2 * (i : Int) := by have := HN.out; rw [IntKind.wrap_i64]; omega
  have iw2 : IntKind.i64.wrap (2 * (i : Int) + 1) = 2 * (i : Int) + 1 := by have := HN.out; rw [IntKind.wrap_i64]; omega
  have iw3 : IntKind.i64.wrap (2 * (i : Int) + 2) = 2 * (i : Int) + 2 := by have := HN.out; rw [IntKind.wrap_i64]; omega
  have HI := Aside0.mk (And.intro hi (And.intro hgg hlk))
  clear hi hgg hlk
  go_wp2_with fail
  go_loopg [3, 4] 2 (fun gg v3 v4 wr => ∃ (j k m : Nat), v3 = .int .i64 (m : Int) ∧ v4 = .int .i64 (k : Int) ∧ Aside0 (m = leastJ (lk.map toE) i j) ∧ Aside0 (k = 2 * i + 1 + j) ∧ j ≤ 2 ∧ 2 - j ≤ gg ∧ Aside0 (HeapV w wr hb g cap lk))
  case atStart => exact ⟨0, 2 * i + 1, i, rfl, by show Value.int .i64 _ = Value.int .i64 _; congr 1, ⟨rfl⟩, ⟨rfl⟩, by omega, by omega, HW⟩
  case round =>
   clear HW
   obtain ⟨j, k, m, rfl, rfl, HM, HK, hj, hjg, HW⟩ := hrel
   have c0 := cell_blk (j := 0) (u := .slice (some ⟨g, 0, none⟩) lk.length cap) HW.out.box rfl
   rw [HI.out.2.2] at c0
   by_cases hex : j < 2 ∧ k < l.length
   ·have hkl : k < lk.length := by rw [HI.out.2.2]; exact hex.2
    have hmk : m < k := by rw [HM.out, HK.out]; exact leastJ_le _ _ _ hex.1
    have hml : m < lk.length := by omega
    have d1 : (k : Int) ≤ 2 * (i : Int) + 2 := by have := HK.out; omega
    have d2 : (k : Int) < (l.length : Int) := by omega
    have d2b : k < l.length := hex.2
    have e1 : (0 : Int) ≤ (k : Int) := by omega
    have e3 : (0 : Int) ≤ (m : Int) := by omega
    have e4 : (m : Int) < (l.length : Int) := by have := HI.out.2.2; omega
    have iwk : IntKind.i64.wrap ((k : Int) + 1) = (k : Int) + 1 := by have := HN.out; rw [IntKind.wrap_i64]; omega
    obtain ⟨a0, a1⟩ := HW.out.at_ hkl
    obtain ⟨b0, b1⟩ := HW.out.at_ hml
    obtain ⟨x0, hx0⟩ : ∃ x, x = (lk.getD k default).f0 := ⟨_, rfl⟩
    obtain ⟨x1, hx1⟩ : ∃ x, x = (lk.getD k default).f1 := ⟨_, rfl⟩
    obtain ⟨y0, hy0⟩ : ∃ x, x = (lk.getD m default).f0 := ⟨_, rfl⟩
    obtain ⟨y1, hy1⟩ : ∃ x, x = (lk.getD m default).f1 := ⟨_, rfl⟩
    rw [← hx0] at a0
    rw [← hx1] at a1
    rw [← hy0] at b0
    rw [← hy1] at b1
    have HX := Aside0.mk (And.intro hx0 (And.intro hx1 (And.intro hy0 hy1)))
    have HIL := Aside0.mk (And.intro hkl (And.intro hml (And.intro hmk (And.intro hex (And.intro hj hjg)))))
    have hu := Tryz.underlying181
    clear hx0 hx1 hy0 hy1 hkl hml hmk hex hj hjg
    go_upto_region 5 with fail
    have HLE := Aside0.mk (heap_entry_less.calls x0 x1 y0 y1 (Heap.lt (x0, x1) (y0, y1)) wr.drew (hless_some _ _ _ _))
    go_region_held3 (fun w' => w'.cell? ⟨hb, 0, none⟩ = some (.slice (some ⟨g, 0, none⟩) l.length cap) ∧ w'.cell? ⟨g, k * 2, none⟩ = some (.int .i64 x0) ∧ w'.cell? ⟨g, k * 2 + 1, none⟩ = some (.int .i64 x1) ∧ w'.cell? ⟨g, m * 2, none⟩ = some (.int .i64 y0) ∧ w'.cell? ⟨g, m * 2 + 1, none⟩ = some (.int .i64 y1)) (first | (with_reducible first | exact ⟨c0, a0, a1, b0, b1⟩ | exact ⟨k0, k1, k2, k3, k4⟩) | go_keep)
     ((go_at_call 164; refine HLE.out.mono ?_; rintro e w2 ⟨rfl, hb2⟩; have k0 := pw_cell_below hb2 (a := ⟨hb, 0, none⟩) (v := .slice (some ⟨g, 0, none⟩) l.length cap) c0; have k1 := pw_cell_below hb2 (a := ⟨g, k * 2, none⟩) (v := .int .i64 x0) a0; have k2 := pw_cell_below hb2 (a := ⟨g, k * 2 + 1, none⟩) (v := .int .i64 x1) a1; have k3 := pw_cell_below hb2 (a := ⟨g, m * 2, none⟩) (v := .int .i64 y0) b0; have k4 := pw_cell_below hb2 (a := ⟨g, m * 2 + 1, none⟩) (v := .int .i64 y1) b1; have HB2 := Aside0.mk hb2; clear hb2))
    have hst := leastJ_step (l := lk.map toE) HK.out HIL.out.2.2.2.1.1 (by rw [List.length_map]; exact HIL.out.1)
    rw [← HM.out, gt_map lk HIL.out.1, gt_map lk HIL.out.2.1, show toE (lk.getD k default) = (x0, x1) by rw [HX.out.1, HX.out.2.1]; rfl, show toE (lk.getD m default) = (y0, y1) by rw [HX.out.2.2.1, HX.out.2.2.2]; rfl] at hst
    have HST := Aside0.mk hst
    clear hst
    generalize Heap.lt (x0, x1) (y0, y1) = lt at *
    have HW3 := HW.out.drew.go HB2.out
    clear c0 a0 a1 b0 b1 HLE
    cases lt with
    | false =>
     go_wp2_with fail
     go_roundg (2 - (j + 1))
     case measure => have := HIL.out; omega
     case rel => exact ⟨j + 1, k + 1, m, rfl, by show Value.int .i64 _ = Value.int .i64 _; congr 1, ⟨by rw [HST.out]; rfl⟩, ⟨by have := HK.out; omega⟩, by have := HIL.out; omega, by have := HIL.out; omega, ⟨HW3⟩⟩
    | true =>
     go_wp2_with fail
     go_roundg (2 - (j + 1))
     case measure => have := HIL.out; omega
     case rel => exact ⟨j + 1, k + 1, k, rfl, by show Value.int .i64 _ = Value.int .i64 _; congr 1, ⟨by rw [HST.out]; rfl⟩, ⟨by have := HK.out; omega⟩, by have := HIL.out; omega, by have := HIL.out; omega, ⟨HW3⟩⟩
   ·have hle := leastJ_end (l := lk.map toE) (i := i) hj (by rw [List.length_map, HI.out.2.2, ← HK.out]; exact hex)
    rw [← HM.out] at hle
    have HQ := Aside0.mk (And.intro hle (And.intro hex hj))
    clear hle hex hj
    by_cases hq : m = i
    ·subst hq
     have g1 : ((m : Int) == (m : Int)) = true := by simp
     have fin : ∃ l', HeapV w wr hb g cap l' ∧ l'.map toE = Heap.downF (l.length + 1) 0 (l.map toE) := by
      obtain ⟨f, hf, he⟩ := HF.out
      obtain ⟨f, rfl⟩ : ∃ q, f = q + 1 := ⟨f - 1, by omega⟩
      exact ⟨lk, HW.out, by rw [← he, Heap.downF, if_pos HQ.out.1.symm]⟩
     have FIN := Aside0.mk fin
     clear fin
     by_cases hj2 : j < 2
     ·have d1 : (k : Int) ≤ 2 * (m : Int) + 2 := by have := HK.out; omega
      have d2 : decide (k < l.length) = false := decide_eq_false (fun z => HQ.out.2.1 ⟨hj2, z⟩)
      have d3 : decide ((k : Int) < (l.length : Int)) = false := decide_eq_false (fun z => HQ.out.2.1 ⟨hj2, by omega⟩)
      go_wp2_with fail
      (try simp only [Exit.inBlock, Exit.then])
      exact bodyPost_ret (results_none rfl _ _ _) rfl ⟨rfl, FIN.out⟩
     ·have d1 : decide ((k : Int) ≤ 2 * (m : Int) + 2) = false := decide_eq_false (by have := HK.out; have := HQ.out.2.2; omega)
      go_wp2_with fail
      (try simp only [Exit.inBlock, Exit.then])
      exact bodyPost_ret (results_none rfl _ _ _) rfl ⟨rfl, FIN.out⟩
    ·have g1 : ((m : Int) == (i : Int)) = false := by rw [beq_eq_false_iff_ne]; omega
     have g1b : decide (m = i) = false := decide_eq_false hq
     have hil : i < l.length := by
      rcases HI.out.1 with h0 | h0
      ·rcases Nat.lt_or_ge i l.length with h1 | h1
       ·exact h1
       ·refine absurd HQ.out.1 ?_
        unfold Heap.least Heap.leastA
        rw [List.length_map, HI.out.2.2, if_neg (by omega), if_neg (by omega)]
        exact hq
      ·exact h0
     have hsp := Heap.least_spec (lk.map toE) i (by rw [List.length_map, HI.out.2.2]; exact hil)
     rw [← HQ.out.1, List.length_map] at hsp
     have hml : m < lk.length := hsp.2.1
     have him : i < m := by have := hsp.1; omega
     have hil' : i < lk.length := by omega
     obtain ⟨a0, a1⟩ := HW.out.at_ hil'
     obtain ⟨b0, b1⟩ := HW.out.at_ hml
     obtain ⟨x0, hx0⟩ : ∃ x, x = (lk.getD i default).f0 := ⟨_, rfl⟩
     obtain ⟨x1, hx1⟩ : ∃ x, x = (lk.getD i default).f1 := ⟨_, rfl⟩
     obtain ⟨y0, hy0⟩ : ∃ x, x = (lk.getD m default).f0 := ⟨_, rfl⟩
     obtain ⟨y1, hy1⟩ : ∃ x, x = (lk.getD m default).f1 := ⟨_, rfl⟩
     rw [← hx0] at a0
     rw [← hx1] at a1
     rw [← hy0] at b0
     rw [← hy1] at b1
     have HX := Aside0.mk (And.intro hx0 (And.intro hx1 (And.intro hy0 hy1)))
     have HIL := Aside0.mk (And.intro hil' (And.intro hml (And.intro him hq)))
     have e1 : (0 : Int) ≤ (i : Int) := by omega
     have e2 : (i : Int) < (l.length : Int) := by omega
     have e3 : (0 : Int) ≤ (m : Int) := by omega
     have e4 : (m : Int) < (l.length : Int) := by have := HI.out.2.2; omega
     have hu := Tryz.underlying181
     have f0 := HW.out.row.free (i * 2)
     have f1 := HW.out.row.free (i * 2 + 1)
     have f2 := HW.out.row.free (m * 2)
     have f3 := HW.out.row.free (m * 2 + 1)
     have n1 : i ≠ m := fun z => hq z.symm
     have REL : ∃ (i' : Nat) (lk' : List EnS), Value.int .i64 (m : Int) = .int .i64 (i' : Int) ∧ (i' = 0 ∨ i' < l.length) ∧ l.length - i' ≤ l.length - m ∧ lk'.length = l.length ∧ Aside0 (HeapV w (((((wr.setCell ⟨g, i * 2, none⟩ (.int .i64 y0)).setCell ⟨g, i * 2 + 1, none⟩ (.int .i64 y1)).setCell ⟨g, m * 2, none⟩ (.int .i64 x0)).setCell ⟨g, m * 2 + 1, none⟩ (.int .i64 x1)).drew) hb g cap lk') ∧ Aside0 (∃ f, l.length - i' < f ∧ Heap.downF f i' (lk'.map toE) = Heap.downF (l.length + 1) 0 (l.map toE)) := by
      obtain ⟨f, hf, he⟩ := HF.out
      obtain ⟨f, rfl⟩ : ∃ q, f = q + 1 := ⟨f - 1, by omega⟩
      refine ⟨m, swapS lk i m, rfl, .inr (by omega), Nat.le_refl _, by simp [swapS]; exact HI.out.2.2, ⟨HW.out.swap hil' hml hx0 hx1 hy0 hy1⟩, ⟨f, by omega, ?_⟩⟩
      rw [Heap.downF, if_neg (by rw [← HQ.out.1]; exact hq), ← HQ.out.1] at he
      rw [swap_map hil' hml]
      exact he
     have REL := Aside0.mk REL
     clear hx0 hx1 hy0 hy1 hil hil' hml him hq hsp
     by_cases hj2 : j < 2
     ·have d1 : (k : Int) ≤ 2 * (i : Int) + 2 := by have := HK.out; omega
      have d2 : decide (k < l.length) = false := decide_eq_false (fun z => HQ.out.2.1 ⟨hj2, z⟩)
      have d3 : decide ((k : Int) < (l.length : Int)) = false := decide_eq_false (fun z => HQ.out.2.1 ⟨hj2, by omega⟩)
      go_upto_region 8 with fail
      go_region
      go_wp2
      go_roundg (l.length - m)
      case measure => have := HIL.out; have := HI.out; omega
      case rel => exact REL.out
     ·have d1 : decide ((k : Int) ≤ 2 * (i : Int) + 2) = false := decide_eq_false (by have := HK.out; have := HQ.out.2.2; omega)
      go_upto_region 8 with fail
      go_region
      go_wp2
      go_roundg (l.length - m)
      case measure => have := HIL.out; have := HI.out; omega
      case rel => exact REL.out
end Go.Proofs.YthgehdembghdaaaGreat.P
namespace Go.Proofs.YthgehdembghdaaaGreat.P
open Go.RowKit Go.Proofs.YthgehdembghdaaaGreatW.PrintWords Go.Proofs.YthgehdembghdaaaGreatW.PrintLast Go.Proofs.YthgehdembghdaaaGreatW.PrintMore
set_option linter.unusedVariables false
set_option linter.unusedSimpArgs false
theorem encH_len (x : EnS) : (encH x).length = 2 := rfl
theorem infoEnt : (Tryz.prog.info? 181).map (fun i => (i.zero, i.size, i.bytes)) = some (some (.agg #[.int .i64 0, .int .i64 0]), 2, 16) := by kernel_rfl
variable {w w' : World} {base hb : Nat} {sv : Value} {l : List EnS}
structure HP (w : World) (base hb : Nat) (sv : Value) (l : List EnS) : Prop where
 box : w.heap[hb]? = some (.cells #[sv] 179 (0, 0))
 row : sv = .slice none 0 0 ∧ l = [] ∨ ∃ g cap, sv = .slice (some ⟨g, 0, none⟩) l.length cap ∧ base ≤ g ∧ cap ≤ maxLen ∧ RowIn encH 2 181 g cap l.toArray w
def HeapS (hb : Nat) (sv : Value) (c : Nat) : Prop := c = hb ∨ sv.ownBlock = some c
theorem HP.owns (h : HP w base hb sv l) : w.ownsRow base 181 2 sv l.length (l.flatMap encH) := by
 rcases h.row with ⟨rfl, rfl⟩ | ⟨g, cap, rfl, h1, h2, h3⟩
 ·exact ⟨by simp, .inl ⟨rfl, rfl⟩⟩
 ·exact RowIn_ownsRow encH_len h3 h1 h2
theorem HP.slice (h : HP w base hb sv l) : ∃ A n, sv = .slice A l.length n := by
 rcases h.row with ⟨rfl, rfl⟩ | ⟨g, cap, rfl, h1, h2, h3⟩
 ·exact ⟨none, 0, rfl⟩
 ·exact ⟨_, _, rfl⟩
theorem HP.chg {S : Nat → Prop} (h : HP w base hb sv l) (hc : Chg S w w') (hs : ∀ c, HeapS hb sv c → ¬ S c) : HP w' base hb sv l := by
 refine ⟨hc.blk h.box (hs hb (.inl rfl)), ?_⟩
 rcases h.row with ⟨rfl, rfl⟩ | ⟨g, cap, rfl, h1, h2, h3⟩
 ·exact .inl ⟨rfl, rfl⟩
 ·refine .inr ⟨g, cap, rfl, h1, h2, h3.heap ?_⟩
  obtain ⟨cs, hcs⟩ := h3.typ
  exact hc.block g (blk_lt hcs) (hs g (.inr rfl))
theorem HP.below (h : HP w base hb sv l) (hb2 : Below w.heap.size w w') : HP w' base hb sv l := h.chg (Chg.of_below hb2 (fun _ => False)) (fun _ _ z => z)
theorem HP.ge (h : HP w base hb sv l) (hbb : base ≤ hb) {c : Nat} (hc : HeapS hb sv c) : base ≤ c := by
 rcases hc with rfl | hc
 ·exact hbb
 ·rcases h.row with ⟨rfl, rfl⟩ | ⟨g, cap, rfl, h1, h2, h3⟩
  ·cases hc
  ·injection hc with hc
   exact hc ▸ h1
theorem lenq_calls {A : Option Addr} {n c : Nat} (c0 : w.cell? ⟨hb, 0, none⟩ = some (.slice A n c)) : Calls Tryz.prog 165 #[.pointer (some ⟨hb, 0, none⟩)] w fun e w' => e = .returned (.int .i64 (n : Int)) ∧ w' = w := by
 go_enter Tryz.func165, Tryz.ntmps165
 go_wp2
 go_ret
 exact ⟨rfl, rfl⟩
set_option maxRecDepth 100000 in
set_option maxHeartbeats 4000000 in
theorem top0_calls {A : Option Addr} {c : Nat} (c0 : w.cell? ⟨hb, 0, none⟩ = some (.slice A 0 c)) : Calls Tryz.prog 143 #[.pointer (some ⟨hb, 0, none⟩)] w fun e w' => e = .returned (.tuple #[.int .i64 0, .int .i64 0, .bool false]) ∧ w' = w := by
 have HH := Aside0.mk (lenq_calls c0)
 have d1 : (((0 : Nat) : Int) == 0) = true := rfl
 go_enter Tryz.func143, Tryz.ntmps143
 go_wp2_with (go_at_call 165; refine HH.out.mono ?_; rintro e w1 ⟨rfl, rfl⟩)
 go_ret3
 exact ⟨rfl, rfl⟩
set_option maxRecDepth 100000 in
set_option maxHeartbeats 4000000 in
theorem top1_calls {g n c : Nat} {a b : Int} (hn : 0 < n) (c0 : w.cell? ⟨hb, 0, none⟩ = some (.slice (some ⟨g, 0, none⟩) n c)) (q0 : w.cell? ⟨g, 0, none⟩ = some (.int .i64 a)) (q1 : w.cell? ⟨g, 1, none⟩ = some (.int .i64 b)) : Calls Tryz.prog 143 #[.pointer (some ⟨hb, 0, none⟩)] w fun e w' => e = .returned (.tuple #[.int .i64 a, .int .i64 b, .bool true]) ∧ Drawn0 w w' := by
 have HH := Aside0.mk (lenq_calls c0)
 have d1 : (((n : Nat) : Int) == 0) = false := by rw [beq_eq_false_iff_ne]; omega
 have d1b : decide (n = 0) = false := decide_eq_false (by omega)
 have d2 : (0 : Int) < (n : Int) := by omega
 have hu := Tryz.underlying181
 go_enter Tryz.func143, Tryz.ntmps143
 go_wp2_with (go_at_call 165; refine HH.out.mono ?_; rintro e w1 ⟨rfl, rfl⟩)
 go_region_held3 (fun w' => w'.cell? ⟨hb, 0, none⟩ = some (.slice (some ⟨g, 0, none⟩) n c) ∧ w'.cell? ⟨g, 0, none⟩ = some (.int .i64 a) ∧ w'.cell? ⟨g, 1, none⟩ = some (.int .i64 b)) (first | exact ⟨c0, q0, q1⟩ | go_keep) (fail)
 go_wp2_with fail
 go_ret3
 exact ⟨rfl, ⟨1, rfl⟩⟩
end Go.Proofs.YthgehdembghdaaaGreat.P
namespace Go.Proofs.YthgehdembghdaaaGreat.P
open Go.RowKit Go.Proofs.YthgehdembghdaaaGreatW.PrintWords Go.Proofs.YthgehdembghdaaaGreatW.PrintLast Go.Proofs.YthgehdembghdaaaGreatW.PrintMore
set_option linter.unusedVariables false
set_option linter.unusedSimpArgs false
variable {w w' : World} {base hb : Nat} {sv : Value} {l : List EnS}
set_option maxRecDepth 100000 in
set_option maxHeartbeats 4000000 in
theorem push_calls (h : HP w base hb sv l) (hB : base ≤ w.heap.size) (hn : l.length + 1 ≤ 8000000000000) (key item : Int) : Calls Tryz.prog 118 #[.pointer (some ⟨hb, 0, none⟩), .int .i64 key, .int .i64 item] w fun e w' => e = .returned (.tuple #[]) ∧ ∃ sv' l', HP w' base hb sv' l' ∧ l'.map toE = Heap.pushL (l.map toE) (key, item) ∧ Chg (HeapS hb sv) w w' ∧ (∀ c, HeapS hb sv' c → HeapS hb sv c ∨ w.heap.size ≤ c) := by
  have c0 := cell_blk (j := 0) (u := sv) h.box rfl
  obtain ⟨A, n, e⟩ := h.slice
  have HSV := Aside0.mk e
  have HH := Aside0.mk h
  have HN := Aside0.mk (And.intro hB hn)
  rw [e] at c0
  clear h hB hn e
  go_enter Tryz.func118, Tryz.ntmps118
  go_wp2_with (first
    | (
      (with_reducible refine gate_builtin (b := .append) (xs := #[.tmp 12, .tmp 16]) rfl ?_)
      at_builtin
      (
        refine print_append_cells (w0 := w) base rfl (.tmp 12) (.tmp 16) 177 181 (.agg #[.int .i64 0, .int .i64 0]) 2 16 rfl Tryz.underlying177 infoEnt rfl (by decide) (by decide) sv l.length (l.flatMap encH) [.int .i64 key, .int .i64 item] ?aS ?aX rfl (by simp [Value.oneCell']) ?aO ?aB ?aZ ?aL ?_
        case aS => rw [HSV.out]; rfl
        case aX => rfl
        case aO => exact HH.out.owns
        case aB => exact Below.refl _ _
        case aZ => exact HN.out.1
        case aL => have := HN.out.2; omega
        intro v4 w4 ho hb4 hg hat
        have ho' := ownsRow_RowIn (l := l ++ [⟨key, item⟩]) encH_len (inner := l.flatMap encH ++ [.int .i64 key, .int .i64 item]) (by rw [List.length_append]; exact ho) (by rw [List.flatMap_append]; rfl)
        rcases ho' with ⟨_, hx⟩ | ⟨g4, cap4, hv4, hg4, hc4, hr4⟩
        · exact absurd hx (by simp)
        rw [List.length_append, show ([(⟨key, item⟩ : EnS)] : List EnS).length = 1 from rfl] at hv4
        subst hv4
        have HR4 := Aside0.mk (And.intro hg4 (And.intro hc4 hr4))
        have hne4 : hb ≠ g4 := by
          rcases hat with q | ⟨b, q, q2⟩
          · intro z
            subst z
            have q3 : sv.ownBlock = some hb := q.symm.trans rfl
            rcases HH.out.row with ⟨q4, _⟩ | ⟨g5, c5, q4, _, _, q5⟩
            · rw [q4] at q3; cases q3
            · rw [q4] at q3
              injection q3 with q3
              obtain ⟨cs, hcs⟩ := q5.typ
              exact blk_ne HH.out.box hcs (by decide) q3.symm
          · have q3 : g4 = b := Option.some.inj (show some g4 = some b from q)
            have := blk_lt HH.out.box
            omega
        have hbk : w4.heap[hb]? = some (.cells #[sv] 179 (0, 0)) := (hg.block hb (blk_lt HH.out.box) (fun q => by
          rcases HH.out.row with ⟨q4, _⟩ | ⟨g5, c5, q4, _, _, q5⟩
          · rw [q4] at q; cases q
          · rw [q4] at q
            injection q with q
            obtain ⟨cs, hcs⟩ := q5.typ
            exact blk_ne HH.out.box hcs (by decide) q)).trans HH.out.box
        have HBK := Aside0.mk (And.intro hne4 hbk)
        have HCG : Aside0 (Chg (HeapS hb sv) w w4 ∧ (g4 = g4 ∧ (sv.ownBlock = some g4 ∨ w.heap.size ≤ g4))) := ⟨Chg.of_grown hg (fun k q => .inr q), rfl, by
          rcases hat with q | ⟨b, q, q2⟩
          · exact .inl q.symm
          · have q3 : g4 = b := Option.some.inj (show some g4 = some b from q)
            exact .inr (by omega)⟩
        have c14 := cell_blk (j := 0) (u := sv) hbk rfl
        have f4 := free_blk hbk 0
        rw [HSV.out] at c14
        clear ho hb4 hg hat hg4 hc4 hr4 hne4 hbk c0)
    )
    | (go_at_call 142
       have hw5 : HeapW (w4.setCell ⟨hb, 0, none⟩ (.slice (some ⟨g4, 0, none⟩) (l.length + 1) cap4)) hb g4 cap4 (l ++ [⟨key, item⟩]) := ⟨by rw [List.length_append]; exact set_blk HBK.out.2 0 _, HR4.out.2.2.heap (by (obtain ⟨cs, hcs⟩ := HR4.out.2.2.typ); exact (blk_far hcs (p := ⟨hb, 0, none⟩) (fun q => HBK.out.1 q.symm) _).trans hcs.symm)⟩
       refine (up_calls hw5 (by simp) (by rw [List.length_append]; exact HN.out.2)).mono ?_
       rintro e w6 ⟨rfl, l', hv, hm⟩
       have HV := Aside0.mk hv
       have HM := Aside0.mk hm
       clear hv hm hw5))
  go_end0
  have hl : l'.length = l.length + 1 := by
    have := congrArg List.length HM.out
    rw [List.length_map] at this
    rw [this, Heap.up_len]
    simp
  obtain ⟨cs, hcs⟩ := HR4.out.2.2.typ
  refine ⟨rfl, _, l', ⟨HV.out.box, .inr ⟨g4, cap4, rfl, HR4.out.1, HR4.out.2.1, HV.out.row⟩⟩, ?_, ?_, ?_⟩
  · rw [HM.out]
    unfold Heap.pushL
    rw [List.length_map, List.length_append, List.map_append]
    rfl
  · refine (HCG.out.1.set_ (.inl (.inl rfl)) _).then_ HV.out.chg (fun k hk => ?_)
    subst hk
    exact HCG.out.2.2.elim (fun q => .inl (.inr q)) .inr
  · rintro c (rfl | q)
    · exact .inl (.inl rfl)
    · have q3 : g4 = c := Option.some.inj (show some g4 = some c from q)
      subst q3
      exact HCG.out.2.2.elim (fun q => .inl (.inr q)) .inr
end Go.Proofs.YthgehdembghdaaaGreat.P
namespace Go.Proofs.YthgehdembghdaaaGreat.P
open Go.RowKit Go.Proofs.YthgehdembghdaaaGreatW.PrintWords Go.Proofs.YthgehdembghdaaaGreatW.PrintLast Go.Proofs.YthgehdembghdaaaGreatW.PrintMore
set_option linter.unusedVariables false
set_option linter.unusedSimpArgs false
variable {w w' : World} {base hb g cap : Nat} {sv : Value} {l : List EnS}
theorem RowIn.shorter {α : Type} [Inhabited α] {enc : α → List Value} {k e B cap : Nat} {d : List α} {w : World} (h : RowIn enc k e B cap d.toArray w) (m : Nat) : RowIn enc k e B cap (d.take m).toArray w := by
 obtain ⟨cs, h1, h2, h3, h4⟩ := h
 have hl : (d.take m).length ≤ d.length := by rw [List.length_take]; omega
 refine ⟨cs, h1, h2, by simp at h3 ⊢; omega, fun j hj c hc => ?_⟩
 have hj' : j < (d.take m).length := by simpa using hj
 rw [h4 j (by simp; omega) c hc, getD_toArray, getD_toArray, List.getD_eq_getElem?_getD, List.getD_eq_getElem?_getD, List.getElem?_take, if_pos (by rw [List.length_take] at hj'; omega)]
def lastH (l : List EnS) : List EnS := (l.set 0 ⟨(l.getD (l.length - 1) default).f0, (l.getD (l.length - 1) default).f1⟩).take (l.length - 1)
theorem lastH_len (l : List EnS) : (lastH l).length = l.length - 1 := by simp [lastH]
theorem lastH_map {l : List EnS} (h : 0 < l.length) : (lastH l).map toE = ((l.map toE).set 0 (Heap.gt (l.map toE) ((l.map toE).length - 1))).take ((l.map toE).length - 1) := by
 unfold lastH
 rw [List.map_take, List.map_set, List.length_map, gt_map l (by omega)]
 try rfl
set_option maxRecDepth 1000000 in
set_option maxHeartbeats 8000000 in
theorem pop1_calls (h : HeapW w hb g cap l) (hl : 0 < l.length) (hc : l.length ≤ cap) (hn : l.length ≤ 8000000000000) : Calls Tryz.prog 119 #[.pointer (some ⟨hb, 0, none⟩)] w fun e w' => e = .returned (.tuple #[.int .i64 (Heap.gt (l.map toE) 0).1, .int .i64 (Heap.gt (l.map toE) 0).2, .bool true]) ∧ ∃ l', HeapW w' hb g cap l' ∧ l'.map toE = Heap.popL (l.map toE) ∧ Chg (fun b => b = hb ∨ b = g) w w' := by
 have c0 := cell_blk (j := 0) (u := .slice (some ⟨g, 0, none⟩) l.length cap) h.box rfl
 obtain ⟨a0, a1⟩ := h.at_ hl
 rw [Nat.zero_mul] at a0 a1
 obtain ⟨x0, hx0⟩ : ∃ x, x = (l.getD 0 default).f0 := ⟨_, rfl⟩
 obtain ⟨x1, hx1⟩ : ∃ x, x = (l.getD 0 default).f1 := ⟨_, rfl⟩
 rw [← hx0] at a0
 rw [← hx1] at a1
 have hg0 : Heap.gt (l.map toE) 0 = (x0, x1) := by rw [gt_map l hl, hx0, hx1]; rfl
 rw [hg0]
 have HT := Aside0.mk (top1_calls hl c0 a0 a1)
 obtain ⟨p, hp⟩ : ∃ p, p = l.length - 1 := ⟨_, rfl⟩
 have hpl : p < l.length := by omega
 have iw : IntKind.i64.wrap ((l.length : Int) - 1) = (p : Int) := by rw [IntKind.wrap_i64]; omega
 have HH := Aside0.mk h
 have HN := Aside0.mk (And.intro hl (And.intro hc (And.intro hn hp)))
 clear h hl hc hn a0 a1 hx0 hx1 hg0 hp
 go_enter Tryz.func119, Tryz.ntmps119
 go_wp2_with (go_at_call 143; refine HT.out.mono ?_; rintro e w1 ⟨rfl, hd⟩; have HB1 := Aside0.mk hd.below; have c0 := pw_cell_below hd.below c0; clear hd)
 rename_i _ _ _ _
 have HW := Aside0.mk (HH.out.go HB1.out)
 obtain ⟨b0, b1⟩ := HW.out.at_ (i := p) hpl
 obtain ⟨y0, hy0⟩ : ∃ x, x = (l.getD p default).f0 := ⟨_, rfl⟩
 obtain ⟨y1, hy1⟩ : ∃ x, x = (l.getD p default).f1 := ⟨_, rfl⟩
 rw [← hy0] at b0
 rw [← hy1] at b1
 have HY := Aside0.mk (And.intro hy0 hy1)
 have e0 : (0 : Int) < (l.length : Int) := by have := HN.out; omega
 have e1 : (0 : Int) ≤ (p : Int) := by omega
 have e2 : (p : Int) < (l.length : Int) := by omega
 have e3 : (p : Int) ≤ (cap : Int) := by have := HN.out; omega
 have e0b : 0 < l.length := by omega
 have e3b : p ≤ cap := by omega
 have hu := Tryz.underlying181
 obtain ⟨a0, a1⟩ := HW.out.at_ (i := 0) e0b
 rw [Nat.zero_mul] at a0 a1
 have f0 := HW.out.row.free 0
 have f1 := HW.out.row.free 1
 clear hy0 hy1
 go_region
 obtain ⟨w2, hw2⟩ : ∃ w2, w2 = ((w1.setCell ⟨g, 0, none⟩ (.int .i64 y0)).setCell ⟨g, 1, none⟩ (.int .i64 y1)).drew := ⟨_, rfl⟩
 rw [← hw2]
 have hbg : hb ≠ g := by obtain ⟨cs, hcs⟩ := HW.out.row.typ; exact blk_ne HW.out.box hcs (by decide)
 have H2 : Aside0 (w2.heap[hb]? = some (.cells #[.slice (some ⟨g, 0, none⟩) l.length cap] 179 (0, 0)) ∧ RowIn encH 2 181 g cap (l.set 0 ⟨y0, y1⟩).toArray w2 ∧ Chg (fun b => b = g) w1 w2) := ⟨by
  rw [hw2]
  have hp := HeapW.put HW.out.row (i := 0) e0b y0 y1
  rw [Nat.zero_mul] at hp
  exact ⟨blk_far (blk_far HW.out.box (p := ⟨g, 0, none⟩) hbg _) (p := ⟨g, 1, none⟩) hbg _, hp, (((Chg.refl (fun b => b = g) w1).set_ (.inl rfl) _).set_ (.inl rfl) _).drew⟩⟩
 have HBG := Aside0.mk hbg
 clear hw2 hbg a0 a1 b0 b1 f0 f1 c0
 have c0 := cell_blk (j := 0) (u := .slice (some ⟨g, 0, none⟩) l.length cap) H2.out.1 rfl
 have f0 := free_blk H2.out.1 0
 go_wp2_with (
  go_at_call 144
  have hw3 : HeapW (w2.setCell ⟨hb, 0, none⟩ (.slice (some ⟨g, 0, none⟩) p cap)) hb g cap (lastH l) := ⟨by rw [lastH_len, ← HN.out.2.2.2]; exact set_blk H2.out.1 0 _, by (have hr := RowIn.shorter H2.out.2.1 p; rw [HY.out.1, HY.out.2, HN.out.2.2.2] at hr; (obtain ⟨cs, hcs⟩ := hr.typ); exact hr.heap ((blk_far hcs (p := ⟨hb, 0, none⟩) (fun q => HBG.out q.symm) _).trans hcs.symm))⟩
  refine (down_calls hw3 (by rw [lastH_len]; have := HN.out; omega)).mono ?_
  rintro e w4 ⟨rfl, l', hv, hm⟩
  have HV := Aside0.mk hv
  have HM := Aside0.mk hm
  clear hv hm hw3)
 go_ret3
 refine ⟨rfl, l', HV.out.toHeapW, ?_, ?_⟩
 ·rw [HM.out, lastH_map HN.out.1]
  unfold Heap.popL
  rw [lastH_len, List.length_map]
 ·refine ((Chg.of_below HB1.out _).then_ (H2.out.2.2.mono (fun b hb2 => .inr hb2)) (fun k hk => .inl hk)).then_ ?_ (fun k hk => .inl hk)
  exact ((Chg.refl (fun b => b = hb ∨ b = g) w2).set_ (.inl (.inl rfl)) _).trans (HV.out.chg.mono (fun b hb2 => .inr hb2))
end Go.Proofs.YthgehdembghdaaaGreat.P
namespace Go.Proofs.YthgehdembghdaaaGreat.P
open Go.RowKit Go.Proofs.YthgehdembghdaaaGreatW.PrintWords Go.Proofs.YthgehdembghdaaaGreatW.PrintLast Go.Proofs.YthgehdembghdaaaGreatW.PrintMore
set_option linter.unusedVariables false
set_option linter.unusedSimpArgs false
variable {w w' : World} {base hb : Nat} {sv : Value} {L : List Heap.E}
structure Hp (w : World) (base hb : Nat) (sv : Value) (L : List Heap.E) : Prop where
 ex : ∃ l, HP w base hb sv l ∧ l.map toE = L
 ok : Heap.Ok L
 low : base ≤ hb
theorem Hp.below (h : Hp w base hb sv L) (hb2 : Below w.heap.size w w') : Hp w' base hb sv L := by
 obtain ⟨l, h1, h2⟩ := h.ex
 exact ⟨⟨l, h1.below hb2, h2⟩, h.ok, h.low⟩
theorem Hp.chg {S : Nat → Prop} (h : Hp w base hb sv L) (hc : Chg S w w') (hs : ∀ c, HeapS hb sv c → ¬ S c) : Hp w' base hb sv L := by
 obtain ⟨l, h1, h2⟩ := h.ex
 exact ⟨⟨l, h1.chg hc hs, h2⟩, h.ok, h.low⟩
theorem Hp.down {base' : Nat} (h : Hp w base hb sv L) (hle : base' ≤ base) : Hp w base' hb sv L := by
 obtain ⟨l, h1, h2⟩ := h.ex
 exact ⟨⟨l, ⟨h1.box, h1.row.imp id (fun ⟨g, cap, e, q1, q2⟩ => ⟨g, cap, e, Nat.le_trans hle q1, q2⟩)⟩, h2⟩, h.ok, Nat.le_trans hle h.low⟩
theorem Hp.typ (h : Hp w base hb sv L) {c : Nat} (hc : HeapS hb sv c) : ∃ cs, w.heap[c]? = some (.cells cs 179 (0, 0)) ∨ w.heap[c]? = some (.cells cs 181 (0, 0)) := by
 obtain ⟨l, h1, h2⟩ := h.ex
 rcases hc with rfl | hc
 ·exact ⟨_, .inl h1.box⟩
 ·rcases h1.row with ⟨rfl, rfl⟩ | ⟨g, cap, rfl, q1, q2, q3⟩
  ·cases hc
  ·obtain ⟨cs, hcs⟩ := q3.typ
   have e : g = c := Option.some.inj (show some g = some c from hc)
   exact ⟨cs, .inr (e ▸ hcs)⟩
theorem Hp.ge (h : Hp w base hb sv L) {c : Nat} (hc : HeapS hb sv c) : base ≤ c := by
 obtain ⟨l, h1, h2⟩ := h.ex
 exact h1.ge h.low hc
theorem Hp.not (h : Hp w base hb sv L) {b : Nat} {o : Obj} (ho : w.heap[b]? = some o) (n1 : ∀ cs, o ≠ .cells cs 179 (0, 0)) (n2 : ∀ cs, o ≠ .cells cs 181 (0, 0)) : ¬ HeapS hb sv b := by
 intro q
 obtain ⟨cs, e | e⟩ := h.typ q
 ·rw [ho] at e
  exact n1 cs (Option.some.inj e)
 ·rw [ho] at e
  exact n2 cs (Option.some.inj e)
theorem cells_ne {cs cs' : Array Value} {t u : TypeId} {p q : Nat × Nat} (h : t ≠ u) : Obj.cells cs t p ≠ .cells cs' u q := by
 intro e
 injection e with _ e _
 exact h e
theorem map_ne {es : Array MapEntry} {k : Nat} {cs : Array Value} {u : TypeId} {q : Nat × Nat} : Obj.map es k ≠ .cells cs u q := by
 intro e
 injection e
set_option maxHeartbeats 2000000 in
theorem hNew_calls (w : World) : Calls Tryz.prog 115 #[] w fun e w' => ∃ hb, e = .returned (.pointer (some ⟨hb, 0, none⟩)) ∧ w.heap.size ≤ hb ∧ Hp w' w.heap.size hb (.slice none 0 0) [] ∧ Below w.heap.size w w' := by
 go_enter Tryz.func115, Tryz.ntmps115
 go_wp2
 go_ret
 refine ⟨w.heap.size, rfl, Nat.le_refl _, ⟨⟨[], ⟨heap_alloc_new _ _, .inl ⟨rfl, rfl⟩⟩, rfl⟩, fun j j0 jl => absurd jl (by simp), Nat.le_refl _⟩, below_alloc (Below.refl _ _) _⟩
theorem hPush_calls (h : Hp w base hb sv L) (hB : base ≤ w.heap.size) (hn : L.length + 1 ≤ 8000000000000) (key item : Int) : Calls Tryz.prog 118 #[.pointer (some ⟨hb, 0, none⟩), .int .i64 key, .int .i64 item] w fun e w' => e = .returned (.tuple #[]) ∧ ∃ sv' L', Hp w' base hb sv' L' ∧ L'.Perm ((key, item) :: L) ∧ Chg (HeapS hb sv) w w' := by
 obtain ⟨l, h1, h2⟩ := h.ex
 subst h2
 rw [List.length_map] at hn
 refine (push_calls h1 hB hn key item).mono ?_
 rintro e w' ⟨rfl, sv', l', q1, q2, q3, q4⟩
 have hk := Heap.push_ok h.ok (key, item)
 rw [← q2] at hk
 exact ⟨rfl, sv', _, ⟨⟨l', q1, rfl⟩, hk.1, h.low⟩, hk.2, q3⟩
theorem hPop0_calls (h : Hp w base hb sv []) : Calls Tryz.prog 119 #[.pointer (some ⟨hb, 0, none⟩)] w fun e w' => e = .returned (.tuple #[.int .i64 0, .int .i64 0, .bool false]) ∧ w' = w := by
 obtain ⟨l, h1, h2⟩ := h.ex
 obtain rfl : l = [] := List.map_eq_nil_iff.1 h2
 obtain ⟨A, n, e⟩ := h1.slice
 have c0 := cell_blk (j := 0) (u := sv) h1.box rfl
 rw [e] at c0
 have HT := Aside0.mk (top0_calls c0)
 clear h h1 h2 e
 go_enter Tryz.func119, Tryz.ntmps119
 go_wp2_with (go_at_call 143; refine HT.out.mono ?_; rintro e w1 ⟨rfl, rfl⟩)
 go_ret3
 exact ⟨rfl, rfl⟩
theorem hPop1_calls (h : Hp w base hb sv L) (hB : base ≤ w.heap.size) (hl : L ≠ []) (hn : L.length ≤ 8000000000000) : Calls Tryz.prog 119 #[.pointer (some ⟨hb, 0, none⟩)] w fun e w' => ∃ k c sv' L', e = .returned (.tuple #[.int .i64 k, .int .i64 c, .bool true]) ∧ Hp w' base hb sv' L' ∧ ((k, c) :: L').Perm L ∧ (∀ x, x ∈ L → k ≤ x.1) ∧ Chg (HeapS hb sv) w w' := by
 obtain ⟨l, h1, h2⟩ := h.ex
 subst h2
 rw [List.length_map] at hn
 have hl0 : 0 < l.length := by
  rcases Nat.eq_zero_or_pos l.length with q | q
  ·exact absurd (by rw [List.eq_nil_of_length_eq_zero q]; rfl) hl
  ·exact q
 rcases h1.row with ⟨q, rfl⟩ | ⟨g, cap, rfl, q1, q2, q3⟩
 ·exact absurd hl0 (by simp)
 ·have hcap : l.length ≤ cap := by obtain ⟨_, _, _, q, _⟩ := q3; simpa using q
  refine (pop1_calls ⟨h1.box, q3⟩ hl0 hcap hn).mono ?_
  rintro e w' ⟨rfl, l', r1, r2, r3⟩
  have hp := Heap.pop_ok h.ok (by rw [List.length_map]; exact hl0)
  have hf := Heap.first h.ok
  rw [← r2] at hp
  refine ⟨_, _, _, _, rfl, ⟨⟨l', ⟨r1.box, .inr ⟨g, cap, rfl, q1, q2, r1.row⟩⟩, rfl⟩, hp.1, h.low⟩, hp.2, fun x hx => ?_, r3.mono (fun b hb2 => hb2.elim .inl (fun e => .inr (by rw [e]; rfl)))⟩
  obtain ⟨i, hi, e⟩ := List.mem_iff_getElem.1 hx
  have := hf i hi
  have e2 : Heap.gt (l.map toE) i = x := by unfold Heap.gt; rw [List.getD_eq_getElem?_getD, List.getElem?_eq_getElem hi]; exact e
  rw [e2] at this
  unfold Heap.le at this
  omega
def PopV (L L' : List Heap.E) (v9 v10 v11 : Value) : Prop := (L = [] ∧ v9 = .int .i64 0 ∧ v10 = .int .i64 0 ∧ v11 = .bool false) ∨ ∃ k c, v9 = .int .i64 k ∧ v10 = .int .i64 c ∧ v11 = .bool true ∧ ((k, c) :: L').Perm L ∧ ∀ x, x ∈ L → k ≤ x.1
theorem hPop_calls (h : Hp w base hb sv L) (hB : base ≤ w.heap.size) (hn : L.length ≤ 8000000000000) : Calls Tryz.prog 119 #[.pointer (some ⟨hb, 0, none⟩)] w fun e w' => ∃ v9 v10 v11 sv' L', e = .returned (.tuple #[v9, v10, v11]) ∧ PopV L L' v9 v10 v11 ∧ Hp w' base hb sv' L' ∧ Chg (HeapS hb sv) w w' := by
 by_cases hl : L = []
 ·subst hl
  refine (hPop0_calls h).mono ?_
  rintro e w' ⟨rfl, rfl⟩
  exact ⟨_, _, _, sv, [], rfl, .inl ⟨rfl, rfl, rfl, rfl⟩, h, Chg.refl _ _⟩
 ·refine (hPop1_calls h hB hl hn).mono ?_
  rintro e w' ⟨k, c, sv', L', rfl, q1, q2, q3, q4⟩
  exact ⟨_, _, _, sv', L', rfl, .inr ⟨k, c, rfl, rfl, rfl, q2, q3⟩, q1, q4⟩
end Go.Proofs.YthgehdembghdaaaGreat.P
namespace Go.Proofs.YthgehdembghdaaaGreat.P
open Go.RowKit Go.Proofs.YthgehdembghdaaaGreatW.PrintWords Go.Proofs.YthgehdembghdaaaGreatW.PrintLast Go.Proofs.YthgehdembghdaaaGreatW.PrintMore
set_option linter.unusedVariables false
set_option linter.unusedSimpArgs false
variable {w w' : World} {mb n : Nat} {M : Int → Option Int}
theorem iiLaw : Go.Maps.Keyed Tryz.prog 3 := Go.Maps.int_keyed Tryz.underlying3
theorem iiKey {c : Int} (h : W64 c) : keyOf Tryz.prog 3 (Value.int .i64 c) = some (Lit.int .i64 c) := Go.Maps.keyOf_int_mk Tryz.underlying3 (wf64 h)
theorem zeroI (w : World) : (zeroValue 3).run Tryz.prog w = .ok (.int .i64 0) w := by kernel_rfl
abbrev OwnII (w : World) (mb n : Nat) (D : DataW Unit) : Prop := w.ownsMap Tryz.prog 3 (plainElem Tryz.prog 3) mb n D
def MapV (w : World) (mb n : Nat) (M : Int → Option Int) : Prop := ∃ D : DataW Unit, OwnII w mb n D ∧ ∀ c, W64 c → (M c = none → Maps.has D (.int .i64 c) = false) ∧ ∀ d, M c = some d → Maps.has D (.int .i64 c) = true ∧ D.atKey (.int .i64 c) (.lit (.int .i64 0)) = .lit (.int .i64 d)
theorem MapV.made (w : World) : MapV (w.alloc (.map #[] 0)) w.heap.size 0 (fun _ => none) :=
 ⟨.map [], World.ownsMap_made _ _ _ _, fun c hc => ⟨fun _ => by simp [Maps.has], fun d q => by cases q⟩⟩
theorem MapV.heap (h : MapV w mb n M) (hh : w'.heap[mb]? = w.heap[mb]?) : MapV w' mb n M := by
 obtain ⟨D, ⟨es, clock, h1, h2⟩, h3⟩ := h
 exact ⟨D, ⟨es, clock, hh.trans h1, h2⟩, h3⟩
theorem MapV.blk (h : MapV w mb n M) : ∃ es clock, w.heap[mb]? = some (.map es clock) := by
 obtain ⟨D, ⟨es, clock, h1, h2⟩, h3⟩ := h
 exact ⟨es, clock, h1⟩
theorem MapV.lt (h : MapV w mb n M) : mb < w.heap.size := by
 obtain ⟨es, clock, h1⟩ := h.blk
 exact blk_lt h1
theorem MapV.congr {M' : Int → Option Int} (h : MapV w mb n M) (e : ∀ c, M c = M' c) : MapV w mb n M' := by
 obtain ⟨D, h1, h2⟩ := h
 exact ⟨D, h1, fun c hc => by rw [← e c]; exact h2 c hc⟩
theorem MapV.look (h : MapV w mb n M) {c : Int} (hc : W64 c) : ∀ q, (Instr.lookup 150 (.map (some mb)) (.int .i64 c) true).run Tryz.prog (w.drewN q) = .ok (.tuple #[.int .i64 ((M c).getD 0), .bool (M c).isSome]) (w.drewN q) := by
 intro q
 obtain ⟨D, ho, h3⟩ := MapV.heap h (w' := w.drewN q) (by rw [drewN_heap'])
 obtain ⟨v, ps, hr, hv⟩ := ho.look_ok iiLaw Tryz.underlying150 (zeroI _) (plainElem_int Tryz.underlying3 (by decide)) (iiKey hc)
 obtain ⟨d, rfl, hd, _⟩ := plainElem_int_inv Tryz.underlying3 hv
 have hd' := congrArg Prod.fst hd
 obtain ⟨k1, k2⟩ := h3 c hc
 rw [hr]
 cases hm : M c with
 | none =>
  have e := k1 hm
  rw [e]
  rw [show (D.atKey (.int .i64 c) (.lit (.int .i64 0)) = .lit (.int .i64 0)) from Maps.atKey_of_not_has e _] at hd'
  have : d = 0 := by simpa [eq_comm] using hd'
  rw [this]
  rfl
 | some d0 =>
  obtain ⟨e1, e2⟩ := k2 d0 hm
  rw [e1]
  rw [show (D.atKey (.int .i64 c) (.lit (.int .i64 0)) = .lit (.int .i64 d0)) from e2] at hd'
  have : d = d0 := by simpa [eq_comm] using hd'
  rw [this]
  rfl
theorem MapV.store (h : MapV w mb n M) (hn : n < 1000000000) {c d : Int} (hc : W64 c) (hd : W64 d) : ∃ w', (Instr.mapUpdate 150 (.map (some mb)) (.int .i64 c) (.int .i64 d)).run Tryz.prog w = .ok () w' ∧ MapV w' mb (n + 1) (learn M c d) ∧ w.grownBy w' (some mb) := by
 obtain ⟨D, ho, h3⟩ := h
 obtain ⟨w', hr, ho', ht⟩ := World.ownsMap.store ho iiLaw Tryz.underlying150 (by unfold maxLen; omega) (iiKey hc) (plainElem_int Tryz.underlying3 (wf64 hd))
 refine ⟨w', hr, ⟨_, ho', fun v hv => ?_⟩, ht.grown⟩
 unfold learn
 by_cases e : v = c
 ·subst e
  rw [if_pos rfl]
  refine ⟨fun q => (by cases q), fun d' q => ?_⟩
  injection q with q
  subst q
  exact ⟨Maps.has_put_same ho.isMap (iiLaw.key (iiKey hc)) _, Maps.atKey_put_same ho.isMap (iiLaw.key (iiKey hc)) _ _⟩
 ·rw [if_neg e]
  have hne : Lit.int .i64 v ≠ .int .i64 c := fun q => e (by injection q)
  rw [Maps.has_put_other hne, Maps.atKey_put_other hne]
  exact h3 v hv
end Go.Proofs.YthgehdembghdaaaGreat.P
namespace Go.Proofs.YthgehdembghdaaaGreat.P
open Go.RowKit Go.Proofs.YthgehdembghdaaaGreatW.PrintWords Go.Proofs.YthgehdembghdaaaGreatW.PrintLast Go.Proofs.YthgehdembghdaaaGreatW.PrintMore
open Go.Proofs.YthgehdembghdaaaGreat.Geo Go.Proofs.YthgehdembghdaaaGreat.Dist
set_option linter.unusedVariables false
set_option linter.unusedSimpArgs false
variable {w w' : World} {g : Gb} {s : GridS} {fb : Nat}
def finC (mp : Value) (g : Gb) (kp : Value) (n : Value) : Array Value := #[mp, .pointer (some ⟨g.gb, 0, none⟩), kp, n]
structure WM (w wr : World) (hb : Nat) (sv : Value) (L : List Heap.E) (mb k : Nat) (M : Int → Option Int) : Prop where
 below : Below w.heap.size w wr
 heap : Hp wr w.heap.size hb sv L
 map : MapV wr mb k M
 low : w.heap.size ≤ mb
variable {wr w2 : World} {hb mb k k2 : Nat} {sv sv2 : Value} {L L2 : List Heap.E} {M M2 : Int → Option Int}
theorem WM.go (h : WM w wr hb sv L mb k M) (hb2 : Below wr.heap.size wr w2) : WM w w2 hb sv L mb k M := ⟨below_step h.below hb2, h.heap.below hb2, h.map.heap (hb2.block _ h.map.lt), h.low⟩
theorem WM.mapNot (h : WM w wr hb sv L mb k M) : ¬ HeapS hb sv mb := by
 obtain ⟨es, clock, h1⟩ := h.map.blk
 exact h.heap.not h1 (fun _ => map_ne) (fun _ => map_ne)
theorem WM.turn (h : WM w wr hb sv L mb k M) (hc : Chg (HeapS hb sv) wr w2) (h2 : Hp w2 w.heap.size hb sv2 L2) : WM w w2 hb sv2 L2 mb k M :=
 ⟨h.below.trans (hc.below (fun b q => h.heap.ge q) h.below.size), h2, h.map.heap (hc.block _ h.map.lt h.mapNot), h.low⟩
theorem WM.store (h : WM w wr hb sv L mb k M) (hg : wr.grownBy w2 (some mb)) (hm : MapV w2 mb k2 M2) : WM w w2 hb sv L mb k2 M2 := by
 have hc : Chg (fun b => b = mb) wr w2 := Chg.of_grown hg (fun b e => (Option.some.inj e).symm)
 exact ⟨h.below.trans (hc.below (fun b q => by subst q; exact h.low) h.below.size), h.heap.chg hc (fun c q e => h.mapNot (e ▸ q)), hm, h.low⟩
set_option maxRecDepth 1000000 in
set_option maxHeartbeats 8000000 in
theorem within_calls {mp kp n : Value} (h : GridM w g s) (hf : w.heap[fb]? = some (.cells (finC mp g kp n) 129 (0, 0))) {t : Int} (ht : inC s t) : Calls Tryz.prog 116 #[.pointer (some ⟨fb, 0, none⟩), .int .i64 t] w fun e w' => ∃ mb k, e = .returned (.map (some mb)) ∧ MapV w' mb k (withinF s.W s.H s.C t) ∧ Below w.heap.size w w' ∧ w.heap.size ≤ mb := by
 have hmm := @run_makeMap Tryz.prog
 have c1 := cell_blk (j := 1) (u := .pointer (some ⟨g.gb, 0, none⟩)) hf rfl
 have HG := Aside0.mk h
 have HF := Aside0.mk hf
 have HT := Aside0.mk ht
 have htl : 0 ≤ t ∧ t < (s.C.length : Int) := by have := h.ok.len; unfold inC at ht; omega
 have hcf : costF s.C t = rd s.C t := by unfold costF; rw [if_pos htl]
 clear h hf ht htl
 by_cases hw : rd s.C t = 255
 ·have HW := Aside0.mk hw
  have d1 : (rd s.C t == 255) = true := by rw [hw]; rfl
  go_enter Tryz.func116, Tryz.ntmps116
  go_upto_region 3 with (go_at_call 87; refine (gSize_calls HG.out).mono ?_; rintro e w1 ⟨rfl, hd⟩; have HB1 := Aside0.mk hd.below; have c1 := pw_cell_below hd.below c1; clear hd)
  have HM2 := Aside0.mk (MapV.made w1)
  have hb2 := below_alloc HB1.out (.map #[] 0)
  have HB2 := Aside0.mk hb2
  have c1 := pw_cell_below (below_alloc (Below.refl w1.heap.size w1) (.map #[] 0)) c1
  have HL := Aside0.mk (HB1.out.size)
  generalize w1.heap.size = mb at *
  generalize w1.alloc (.map #[] 0) = w2 at *
  clear hb2
  go_wp2_with (go_at_call 89; refine (gCost_calls (HG.out.below HB2.out) t).mono ?_; rw [hcf]; rintro e w3 ⟨rfl, rfl⟩)
  go_ret
  exact ⟨mb, 0, rfl, HM2.out.congr (fun v => within_wall HW.out v), HB2.out, HL.out⟩
 ·have hsl : s.C.length ≤ 1048576 := HG.out.clen.1
  have HSL := Aside0.mk hsl
  have HO := Aside0.mk hw
  have d1 : (rd s.C t == 255) = false := by rw [beq_eq_false_iff_ne]; exact hw
  clear hw hsl
  go_enter Tryz.func116, Tryz.ntmps116
  go_upto_region 3 with (go_at_call 87; refine (gSize_calls HG.out).mono ?_; rintro e w1 ⟨rfl, hd⟩; have HB1 := Aside0.mk hd.below; have c1 := pw_cell_below hd.below c1; clear hd)
  have HM2 := Aside0.mk (MapV.made w1)
  have hb2 := below_alloc HB1.out (.map #[] 0)
  have HB2 := Aside0.mk hb2
  have c1 := pw_cell_below (below_alloc (Below.refl w1.heap.size w1) (.map #[] 0)) c1
  have HL := Aside0.mk (HB1.out.size)
  generalize w1.heap.size = mb at *
  generalize w1.alloc (.map #[] 0) = w2 at *
  clear hb2
  go_upto_region 5 with (go_at_call 89; refine (gCost_calls (HG.out.below HB2.out) t).mono ?_; rw [hcf]; rintro e w3 ⟨rfl, rfl⟩)
  go_upto_region 6 with (go_at_call 115; refine (hNew_calls _).mono ?_; rintro e w4 ⟨hb, rfl, hlb, hh, hbl⟩; have HH4 := Aside0.mk hh; have HB4 := Aside0.mk hbl; clear hh hbl hlb)
  have HW4 : Aside0 (WM w w4 hb (.slice none 0 0) [] mb 0 (fun _ => none)) := ⟨⟨below_step HB2.out HB4.out, HH4.out.down HB2.out.size, HM2.out.heap (HB4.out.block _ HM2.out.lt), HL.out⟩⟩
  clear HH4 HM2
  go_upto_region 7 with (go_at_call 118; refine (hPush_calls HW4.out.heap HW4.out.below.size (by simp) 0 t).mono ?_; rintro e w5 ⟨rfl, sv5, L5, hh, hp, hc⟩; have HW5 := Aside0.mk (HW4.out.turn hc hh); have HP5 := Aside0.mk hp; clear hh hp hc)
  have HI5 : Aside0 (WithI s.W s.H s.C t (fun _ => none) L5 (-1) 4) := ⟨WithI.first HG.out.ok HT.out HO.out HP5.out⟩
  have HL5 : Aside0 (L5.length = 1) := ⟨by rw [HP5.out.length_eq]; rfl⟩
  clear HW4 HP5 HB4
  go_wp2_with (go_at_call 119; refine (hPop_calls HW5.out.heap HW5.out.below.size (by rw [HL5.out]; omega)).mono ?_; rintro e w6 ⟨v9, v10, v11, sv6, L6, rfl, hp, hh, hc⟩; have HW6 := Aside0.mk (HW5.out.turn hc hh); have HP6 := Aside0.mk hp; clear hh hp hc)
  clear c1 HB1
  go_loopg [9, 10, 11] (5 * s.C.length + 1) (fun gg v9 v10 v11 wr => ∃ (M : Int → Option Int) (k : Nat) (L L' : List Heap.E) (sv : Value) (c0 : Int), Aside0 (PopV L L' v9 v10 v11) ∧ Aside0 (WM w wr hb sv L' mb k M) ∧ Aside0 (WithI s.W s.H s.C t M L c0 4) ∧ Aside0 ((k : Int) + unk M s.C.length ≤ s.C.length ∧ (L.length : Int) + 5 * unk M s.C.length ≤ gg ∧ (L.length : Int) + 5 * unk M s.C.length ≤ 5 * s.C.length + 1))
  case atStart =>
   have hu := unk_le (fun _ => none) s.C.length
   have hl := HL5.out
   exact ⟨fun _ => none, 0, L5, L6, sv6, -1, HP6, HW6, HI5, ⟨⟨by omega, by omega, by omega⟩⟩⟩
  case round =>
   clear HP6 HW6 HI5 HL5 HW5
   obtain ⟨M, k, L, L', sv, c0, HP, HW, HI, HQ⟩ := hrel
   rcases HP.out with ⟨rfl, rfl, rfl, rfl⟩ | ⟨k1, c, rfl, rfl, rfl, hp, hmin⟩
   ·go_wp2_with fail
    go_ret
    exact ⟨mb, k, rfl, HW.out.map.congr (fun v => HI.out.fin v), HW.out.below, HL.out⟩
   ·have HPM := Aside0.mk (And.intro hp hmin)
    have hcw := (HI.out.wait (k1, c) (hp.mem_iff.1 (List.mem_cons_self ..)))
    have HCW := Aside0.mk hcw
    have hcl : 0 ≤ c ∧ c < (s.C.length : Int) := by have := hcw.1.a; have := HG.out.ok.len; have e : (k1, c).2 = c := rfl; omega
    have w64c : W64 c := by have := HSL.out; unfold W64; omega
    have hlk := HW.out.map.look w64c 0
    have HCL := Aside0.mk hcl
    clear hp hmin hcw hcl
    cases hM : M c with
    | some d =>
     rw [hM] at hlk
     have HMC := Aside0.mk hM
     clear hM
     have hlk2 : Sem.run Tryz.prog (Instr.lookup 150 (.map (some mb)) (.int .i64 c) true) wr = .ok (.tuple #[.int .i64 d, .bool true]) wr := hlk
     clear hlk
     go_wp2_with (go_at_call 119; refine (hPop_calls HW.out.heap HW.out.below.size (by have := HPM.out.1.length_eq; rw [List.length_cons] at this; have := HQ.out; have := unk_nn M s.C.length; have := HSL.out; omega)).mono ?_; rintro e w6 ⟨v9, v10, v11, sv6, L6, rfl, hp, hh, hc⟩; have HW6 := Aside0.mk (HW.out.turn hc hh); have HP6 := Aside0.mk hp; clear hh hp hc)
     have hlen := HPM.out.1.length_eq
     rw [List.length_cons] at hlen
     have hq := HQ.out
     have hun := unk_nn M s.C.length
     go_roundg (gk - 1)
     case measure => omega
     case rel => exact ⟨M, k, L', L6, sv6, c0, HP6, HW6, ⟨HI.out.drop HPM.out.1 (by rw [HMC.out]; exact fun q => by cases q)⟩, ⟨⟨by omega, by omega, by omega⟩⟩⟩
    | none =>
     rw [hM] at hlk
     have HMC := Aside0.mk hM
     clear hM
     have hlk2 : Sem.run Tryz.prog (Instr.lookup 150 (.map (some mb)) (.int .i64 c) true) wr = .ok (.tuple #[.int .i64 0, .bool false]) wr := hlk
     clear hlk
     obtain ⟨w2, hst, hm2, hgr⟩ := HW.out.map.store (by have := HQ.out; have := unk_nn M s.C.length; have := HSL.out; omega) w64c (d := k1) (by have := HCW.out; unfold W64; omega)
     have hst2 : Sem.run Tryz.prog (Instr.mapUpdate 150 (.map (some mb)) (.int .i64 c) (.int .i64 k1)) wr = .ok () w2 := hst
     have HW2 : Aside0 (WM w w2 hb sv L' mb (k + 1) (learn M c k1)) := ⟨HW.out.store hgr hm2⟩
     have HI2 : Aside0 (WithI s.W s.H s.C t (learn M c k1) L' c 0) := ⟨HI.out.known' HPM.out.1 HPM.out.2 HMC.out⟩
     clear hst hm2 hgr
     have HQ2 : Aside0 (((k + 1 : Nat) : Int) + unk (learn M c k1) s.C.length ≤ s.C.length ∧ (L'.length : Int) + 5 * unk (learn M c k1) s.C.length + 6 ≤ gk ∧ (L'.length : Int) + 5 * unk (learn M c k1) s.C.length + 6 ≤ 5 * s.C.length + 1) := by
      obtain ⟨cn, hcn⟩ : ∃ cn : Nat, c = cn := ⟨c.toNat, by have := HCL.out; omega⟩
      have hu := unk_learn (M := M) (c := cn) (n := s.C.length) (by have := HCL.out; omega) k1 (by rw [← hcn]; exact HMC.out)
      rw [← hcn] at hu
      have hlen := HPM.out.1.length_eq
      rw [List.length_cons] at hlen
      have hq := HQ.out
      exact ⟨⟨by omega, by omega, by omega⟩⟩
     go_upto_region 14 with fail
     have HMK : Aside0 (learn M c k1 c = some k1) := ⟨by unfold learn; rw [if_pos rfl]⟩
     have hcc : costF s.C c = rd s.C c := by unfold costF; rw [if_pos HCL.out]
     have HCC := Aside0.mk hcc
     have hiw : IntKind.i64.wrap (k1 + rd s.C c) = k1 + rd s.C c := by
      have := rd_cost HG.out.ok HCW.out.1.a.1 HCW.out.1.a.2
      have := HCW.out
      rw [IntKind.wrap_i64]
      omega
     clear hst2 hlk2 hcc HW HI HP w64c HMC d1 hcf c1
     obtain ⟨G0, hG0⟩ : ∃ G0, G0 = gk := ⟨gk, rfl⟩
     rw [← hG0] at HQ2
     have HG0 := Aside0.mk hG0
     clear hG0
     generalize learn M c k1 = M2 at *
     go_loopg [14] 4 (fun gg v14 wq => ∃ (j : Nat) (L2 : List Heap.E) (sv2 : Value), v14 = .int .i64 j ∧ j ≤ 4 ∧ 4 - j ≤ gg ∧ Aside0 (WM w wq hb sv2 L2 mb (k + 1) M2) ∧ Aside0 (WithI s.W s.H s.C t M2 L2 c (j : Int)) ∧ Aside0 ((L2.length : Int) + 5 * unk M2 s.C.length + 6 ≤ G0 + j ∧ (L2.length : Int) + 5 * unk M2 s.C.length + 6 ≤ 5 * s.C.length + 1 + j))
     case atStart => exact ⟨0, L', sv, rfl, by omega, by omega, HW2, HI2, ⟨⟨by have := HQ2.out; omega, by have := HQ2.out; omega⟩⟩⟩
     case round =>
      clear HW2 HI2
      obtain ⟨j, L2, sv2, rfl, hj, hgg, HW3, HI3, HQ3⟩ := hrel
      by_cases hlt : j < 4
      ·have d1 : (j : Int) ≤ 3 := by omega
       have hjj : 0 ≤ (j : Int) ∧ (j : Int) ≤ 3 := by omega
       have hs4 := wStep HG.out.ok.dim HCW.out.1.a.1 HCW.out.1.a.2 hjj
       have hs4' : where_Step.f s.W s.H c (j : Int) = some (if OutE s.W s.H c (j : Int) then -1 else nbS s.W c (j : Int)) := hs4
       have HJ := Aside0.mk (And.intro hj (And.intro hgg (And.intro hlt hjj)))
       clear hj hgg hlt hjj hs4
       by_cases hout : OutE s.W s.H c (j : Int)
       ·rw [if_pos hout] at hs4'
        have HS4 := Aside0.mk hs4'
        have HI4 : Aside0 (WithI s.W s.H s.C t M2 L2 c ((j : Int) + 1)) := ⟨HI3.out.skip (fun q => q.1 hout)⟩
        clear hs4' hout
        go_wp2_with (go_at_call 88; refine (where_Step.calls _ _ _ _ _ _ HS4.out).mono ?_; rintro e w4 ⟨rfl, hd⟩; have HW4 := Aside0.mk (HW3.out.go hd.below); clear hd)
        go_roundg (4 - (j + 1))
        case measure => have := HJ.out; omega
        case rel =>
         have hh := HJ.out
         have hq := HQ3.out
         exact ⟨j + 1, L2, sv2, by first | rfl | (rw [w64 (n := (j : Int) + 1) (by omega) (by omega)]; rfl), by omega, Nat.le_refl _, HW4, HI4, ⟨⟨by omega, by omega⟩⟩⟩
       ·rw [if_neg hout] at hs4'
        have nr := nb_rng HG.out.ok.dim HCW.out.1.a.1 HCW.out.1.a.2 HJ.out.2.2.2 hout
        obtain ⟨n1, hn1⟩ : ∃ n1, n1 = nbS s.W c (j : Int) := ⟨_, rfl⟩
        rw [← hn1] at hs4' nr
        have HS4 := Aside0.mk hs4'
        have HNR := Aside0.mk nr
        have HN1 := Aside0.mk (And.intro hn1 hout)
        have hsn : where_Sector.f s.W s.H n1 = some (sec s.W n1) := by rw [wSector HG.out.ok.dim, if_pos nr]
        have hst : where_Sector.f s.W s.H t = some (sec s.W t) := by rw [wSector HG.out.ok.dim, if_pos (show 0 ≤ t ∧ t < s.W * s.H from HT.out)]
        have HSN := Aside0.mk hsn
        have HST := Aside0.mk hst
        have dn : decide (n1 < 0) = false := decide_eq_false (by omega)
        have hcn : costF s.C n1 = rd s.C n1 := by unfold costF; rw [if_pos ⟨nr.1, by have := HG.out.ok.len; omega⟩]
        have HCN := Aside0.mk hcn
        have hsc : sec s.W c = sec s.W t := HCW.out.1.s
        clear hs4' hout nr hn1 hsn hst hcn
        have c1 := fun (w9 : World) (hb9 : Below w.heap.size w w9) => (cell_blk (j := 1) (u := .pointer (some ⟨g.gb, 0, none⟩)) (blk_step HF.out hb9) rfl : w9.cell? ⟨fb, 1, none⟩ = some (.pointer (some ⟨g.gb, 0, none⟩)))
        have HC1 := Aside0.mk c1
        clear c1
        by_cases hs : sec s.W n1 = sec s.W t
        ·have ds : (sec s.W n1 != sec s.W t) = false := by rw [hs]; simp
         by_cases ho : rd s.C n1 = 255
         ·have dw : (rd s.C n1 == 255) = true := by rw [ho]; rfl
          have HI4 : Aside0 (WithI s.W s.H s.C t M2 L2 c ((j : Int) + 1)) := ⟨HI3.out.skip (fun q => q.2.2 (by rw [← HN1.out.1]; exact ho))⟩
          clear hs ho hsc
          go_wp2_with (first
           | (go_at_call 88; refine (where_Step.calls _ _ _ _ _ _ HS4.out).mono ?_; rintro e w4 ⟨rfl, hd⟩; have HW4 := Aside0.mk (HW3.out.go hd.below); clear hd)
           | (go_at_call 21; with_reducible refine (where_Sector.calls _ _ n1 _ _ HSN.out).mono ?_; rintro e w5 ⟨rfl, hd⟩; have HW5 := Aside0.mk (HW4.out.go hd.below); clear hd)
           | (go_at_call 21; with_reducible refine (where_Sector.calls _ _ t _ _ HST.out).mono ?_; rintro e w6 ⟨rfl, hd⟩; have HW6 := Aside0.mk (HW5.out.go hd.below); have c1 := HC1.out _ HW6.out.below; clear hd)
           | (go_at_call 89; refine (gCost_calls (HG.out.below HW6.out.below) n1).mono ?_; rw [HCN.out]; rintro e w7 ⟨rfl, rfl⟩))
          go_roundg (4 - (j + 1))
          case measure => have := HJ.out; omega
          case rel =>
           have hh := HJ.out
           have hq := HQ3.out
           exact ⟨j + 1, L2, sv2, by first | rfl | (rw [w64 (n := (j : Int) + 1) (by omega) (by omega)]; rfl), by omega, Nat.le_refl _, HW6, HI4, ⟨⟨by omega, by omega⟩⟩⟩
         ·have dw : (rd s.C n1 == 255) = false := by rw [beq_eq_false_iff_ne]; exact ho
          have HHO := Aside0.mk (And.intro hs ho)
          clear hs ho
          go_wp2_with (first
           | (go_at_call 88; refine (where_Step.calls _ _ _ _ _ _ HS4.out).mono ?_; rintro e w4 ⟨rfl, hd⟩; have HW4 := Aside0.mk (HW3.out.go hd.below); clear hd)
           | (go_at_call 21; with_reducible refine (where_Sector.calls _ _ n1 _ _ HSN.out).mono ?_; rintro e w5 ⟨rfl, hd⟩; have HW5 := Aside0.mk (HW4.out.go hd.below); clear hd)
           | (go_at_call 21; with_reducible refine (where_Sector.calls _ _ t _ _ HST.out).mono ?_; rintro e w6 ⟨rfl, hd⟩; have HW6 := Aside0.mk (HW5.out.go hd.below); have c1 := HC1.out _ HW6.out.below; clear hd)
           | (go_at_call 89; with_reducible refine (gCost_calls (HG.out.below HW6.out.below) n1).mono ?_; rw [HCN.out]; rintro e w7 ⟨rfl, rfl⟩)
           | (go_at_call 89; with_reducible refine (gCost_calls (HG.out.below HW6.out.below) c).mono ?_; rw [HCC.out]; rintro e w7 ⟨rfl, rfl⟩)
           | (go_at_call 118; refine (hPush_calls HW6.out.heap HW6.out.below.size (by have := HQ3.out; have := unk_nn M2 s.C.length; have := HSL.out; have := HJ.out; omega) (k1 + rd s.C c) n1).mono ?_; rintro e w8 ⟨rfl, sv8, L8, hh, hp, hc⟩; have HW8 := Aside0.mk (HW6.out.turn hc hh); have HP8 := Aside0.mk hp; clear hh hp hc))
          have HI4 : Aside0 (WithI s.W s.H s.C t M2 L8 c ((j : Int) + 1)) := ⟨HI3.out.push HJ.out.2.2.2 HMK.out HN1.out.2 (by rw [← HN1.out.1, hsc]; exact HHO.out.1) (by rw [← HN1.out.1]; exact HHO.out.2) (by rw [← HN1.out.1]; exact HP8.out)⟩
          have hl8 := HP8.out.length_eq
          rw [List.length_cons] at hl8
          go_roundg (4 - (j + 1))
          case measure => have := HJ.out; omega
          case rel =>
           have hh := HJ.out
           have hq := HQ3.out
           exact ⟨j + 1, L8, sv8, by first | rfl | (rw [w64 (n := (j : Int) + 1) (by omega) (by omega)]; rfl), by omega, Nat.le_refl _, HW8, HI4, ⟨⟨by omega, by omega⟩⟩⟩
        ·have ds : (sec s.W n1 != sec s.W t) = true := by rw [bne_iff_ne]; exact hs
         have HI4 : Aside0 (WithI s.W s.H s.C t M2 L2 c ((j : Int) + 1)) := ⟨HI3.out.skip (fun q => hs (by rw [HN1.out.1, q.2.1]; exact hsc))⟩
         clear hs hsc
         go_wp2_with (first
          | (go_at_call 88; refine (where_Step.calls _ _ _ _ _ _ HS4.out).mono ?_; rintro e w4 ⟨rfl, hd⟩; have HW4 := Aside0.mk (HW3.out.go hd.below); clear hd)
          | (go_at_call 21; with_reducible refine (where_Sector.calls _ _ n1 _ _ HSN.out).mono ?_; rintro e w5 ⟨rfl, hd⟩; have HW5 := Aside0.mk (HW4.out.go hd.below); clear hd)
          | (go_at_call 21; with_reducible refine (where_Sector.calls _ _ t _ _ HST.out).mono ?_; rintro e w6 ⟨rfl, hd⟩; have HW6 := Aside0.mk (HW5.out.go hd.below); have c1 := HC1.out _ HW6.out.below; clear hd))
         go_roundg (4 - (j + 1))
         case measure => have := HJ.out; omega
         case rel =>
          have hh := HJ.out
          have hq := HQ3.out
          exact ⟨j + 1, L2, sv2, by first | rfl | (rw [w64 (n := (j : Int) + 1) (by omega) (by omega)]; rfl), by omega, Nat.le_refl _, HW6, HI4, ⟨⟨by omega, by omega⟩⟩⟩
      ·obtain rfl : j = 4 := by omega
       have HI4 : Aside0 (WithI s.W s.H s.C t M2 L2 c 4) := ⟨HI3.out⟩
       clear hj hgg hlt HI3
       go_wp2_with (go_at_call 119; refine (hPop_calls HW3.out.heap HW3.out.below.size (by have := HQ3.out; have := unk_nn M2 s.C.length; have := HSL.out; omega)).mono ?_; rintro e w6 ⟨v9, v10, v11, sv6, L6, rfl, hp, hh, hc⟩; have HW6 := Aside0.mk (HW3.out.turn hc hh); have HP6 := Aside0.mk hp; clear hh hp hc)
       have hq := HQ3.out
       have hq2 := HQ2.out
       have hg0 := HG0.out
       have hun := unk_nn M2 s.C.length
       go_roundg (G0 - 1)
       case measure => omega
       case rel => exact ⟨M2, k + 1, L2, L6, sv6, c, HP6, HW6, HI4, ⟨⟨by omega, by omega, by omega⟩⟩⟩
end Go.Proofs.YthgehdembghdaaaGreat.P
namespace Go.Proofs.YthgehdembghdaaaGreat.P
open Go.RowKit Go.Proofs.YthgehdembghdaaaGreatW.PrintWords Go.Proofs.YthgehdembghdaaaGreatW.PrintLast Go.Proofs.YthgehdembghdaaaGreatW.PrintMore
open Go.Proofs.YthgehdembghdaaaGreat.Dist
set_option linter.unusedVariables false
set_option linter.unusedSimpArgs false
def encD (x : Int) : List Value := [.int .i32 x]
structure RepD (w0 w : World) (gd n m : Nat) (x : Int) : Prop where
 le : m ≤ n
 ex : ∃ cs, w.heap[gd]? = some (.cells cs 21 (0, 0)) ∧ cs.size = n ∧ ∀ j, j < m → cs[j]? = some (.int .i32 x)
 below : Below w0.heap.size w0 w
 ge : w0.heap.size ≤ gd
theorem RepD.copy {w0 w : World} {gd n m : Nat} {x : Int} (h : RepD w0 w gd n m x) {k : Nat} (hk : m + k ≤ n) : RepD w0 (w.setCells gd m (List.replicate k (.int .i32 x))) gd n (m + k) x := by
 obtain ⟨cs, h1, h2, h3⟩ := h.ex
 obtain ⟨cs', g1, g2, g3, g4⟩ := setCells_block gd (List.replicate k (.int .i32 x)) m w cs _ _ h1
 refine ⟨hk, ⟨cs', g1, by omega, fun j hj => ?_⟩, h.below.grown (setCells_grown gd _ _ _) (h.below.size) (fun q hq => by
  have h1 : gd = q := by simpa using hq
  have h2 := h.ge
  omega), h.ge⟩
 by_cases hjm : j < m
 ·rw [g3 j (.inl hjm)]; exact h3 j hjm
 ·have := g4 (j - m) (by rw [List.length_replicate]; omega) (by omega)
  rw [show m + (j - m) = j by omega] at this
  rw [this, List.getElem?_replicate, if_pos (by omega)]
theorem RepD.cell {w0 w : World} {gd n m : Nat} {x : Int} (h : RepD w0 w gd n m x) {j : Nat} (hj : j < m) : w.cell? ⟨gd, j, none⟩ = some (.int .i32 x) := by
 obtain ⟨cs, h1, h2, h3⟩ := h.ex
 exact cell_blk h1 (h3 j hj)
theorem RepD.some_ {w0 w : World} {gd n m : Nat} {x : Int} (h : RepD w0 w gd n m x) {j : Nat} (hj : j < n) : (w.cell? ⟨gd, j, none⟩).isSome = true := by
 obtain ⟨cs, h1, h2, h3⟩ := h.ex
 rw [cell_blk h1 (Array.getElem?_eq_getElem (show j < cs.size by omega))]
 rfl
theorem RepD.free {w0 w : World} {gd n m : Nat} {x : Int} (h : RepD w0 w gd n m x) (j : Nat) : w.frozen? ⟨gd, j, none⟩ = false := by
 obtain ⟨cs, h1, h2, h3⟩ := h.ex
 exact free_blk h1 j
theorem RepD.drawn {w0 w : World} {gd n m : Nat} {x : Int} (h : RepD w0 w gd n m x) (q : Nat) : RepD w0 (w.drewN q) gd n m x := by
 obtain ⟨cs, h1, h2, h3⟩ := h.ex
 exact ⟨h.le, ⟨cs, by rw [drewN_heap']; exact h1, h2, h3⟩, below_step h.below (Drawn0.below ⟨⟨q, rfl⟩⟩), h.ge⟩
theorem copy_runD {w0 w : World} {gd n m : Nat} {x : Int} (h : RepD w0 w gd n m x) (a : Addr) (sLen sCap dLen dCap k : Nat) (hk : k = Nat.min sLen dLen) (hmk : m + k ≤ n) (hsrc : ∀ j, j < k → w.cell? (a.add j) = some (.int .i32 x)) :
  Sem.run Tryz.prog (Builtin.copy_ #[109, 109] 3 #[.slice (some ⟨gd, m, none⟩) dLen dCap, .slice (some a) sLen sCap]) w = .ok (.int .i64 (k : Int)) (w.setCells gd m (List.replicate k (.int .i32 x))) := by
 have h1 : (Tryz.prog.info? 21).map (·.size) = some 1 := by kernel_rfl
 have := run_copy_cells (P := Tryz.prog) w 109 109 3 21 gd m dLen dCap a sLen sCap (List.replicate k (.int .i32 x)) Tryz.underlying109 h1 (by rw [List.length_replicate]; exact hk) (fun j v hv => by
  rw [List.getElem?_replicate] at hv
  split at hv
  ·rw [hsrc j (by assumption)]; exact hv
  ·exact absurd hv (by simp)) (fun j hj => h.some_ (by rw [List.length_replicate] at hj; omega)) (fun j _ => h.free _) (fun v hv => by rw [List.eq_of_mem_replicate hv]; rfl)
 rw [List.length_replicate] at this
 exact this
theorem mul_callsD (n : Nat) (hn : n ≤ 1048576) (w : World) : Calls Tryz.prog 141 #[.int .u64 1, .int .u64 n] w fun e w' => e = .returned (.tuple #[.int .u64 0, .int .u64 n]) ∧ w' = w := by
 refine (Any.bits_Mul Tryz.mulLay 1 n (by decide) (by omega) w).mono ?_
 rintro e w' ⟨rfl, rfl⟩
 refine ⟨?_, rfl⟩
 rw [Nat.one_mul, Nat.div_eq_of_lt (by omega), Nat.mod_eq_of_lt (by omega)]
 rfl
set_option maxRecDepth 100000 in
set_option maxHeartbeats 2000000 in
theorem repeat_callsD (B : Nat) (cap : Nat) (x : Int) (n : Nat) (hn : 1 ≤ n ∧ n ≤ 1048576) (w : World) (h : w.cell? ⟨B, 0, none⟩ = some (.int .i32 x)) :
  Calls Tryz.prog 114 #[.slice (some ⟨B, 0, none⟩) 1 cap, .int .i64 n] w fun e w' => ∃ gd, e = .returned (.slice (some ⟨gd, 0, none⟩) n n) ∧ RepD w w' gd n n x := by
 have hn0 : (0 : Int) ≤ (n : Int) := by omega
 have hbig : (n : Int) ≤ 1048576 := by omega
 have hone : (1 : Int) ≤ (n : Int) := by omega
 have hw : IntKind.u64.wrap (n : Int) = (n : Int) := Mul64.wrapN n (by omega)
 have hw1 : IntKind.u64.wrap 1 = 1 := by decide
 obtain ⟨i0, hi, hzz⟩ := Option.map_eq_some_iff.1 infoD
 simp only [Prod.mk.injEq] at hzz
 obtain ⟨hz0, hz1, hz2⟩ := hzz
 have hmk : ∀ w : World, Sem.run Tryz.prog (Instr.makeSlice 109 (.int .i64 n) (.int .i64 n)) w = .ok (.slice (some ⟨w.heap.size, 0, none⟩) n n) (w.alloc (.cells (madeCells #[.int .i32 0] n) 21)) := fun w => by
  have := run_make (P := Tryz.prog) w 109 21 i0 (.int .i32 0) Tryz.underlying109 hi hz0 .i64 .i64 (n : Int) (n : Int) (by omega) (by omega) (by rw [hz2]; omega) (by omega)
  rw [hz1] at this
  simp only [Int.toNat_natCast, Nat.mul_one] at this
  exact this
 have hstart : RepD w (w.alloc (.cells (madeCells #[.int .i32 0] n) 21)) w.heap.size n 0 x := ⟨Nat.zero_le _, ⟨_, heap_alloc_new _ _, by simp [size_madeCells], fun j hj => by omega⟩, below_alloc (Below.refl _ _) _, Nat.le_refl _⟩
 have hcp := copy_runD hstart ⟨B, 0, none⟩ 1 cap n n 1 (by simp [Nat.min_def]; omega) (by omega) (fun j hj => by
  have : j = 0 := by omega
  subst this
  rw [Addr.add_zero', World.cell?_of_block (heap_alloc_old w _ (World.block_lt_of_cell? w _ h))]
  exact h)
 have HS := Aside0.mk (hstart.copy (k := 1) (by omega))
 have HCP := Aside0.mk hcp
 have HN := Aside0.mk hn
 clear hstart hcp hi hz0 hz1 hz2 hn
 clear h
 go_enter Tryz.func114, Tryz.ntmps114
 go_wp2_with (go_at_call 141; refine (mul_callsD n HN.out.2 _).mono ?_; rintro e w' ⟨rfl, rfl⟩)
 rw [show Sem.run Tryz.prog _ _ = _ from HCP.out]
 clear HCP hmk
 generalize hW1 : (w'.alloc (.cells (madeCells #[.int .i32 0] n) 21)).setCells w'.heap.size 0 (List.replicate 1 (.int .i32 x)) = w1 at HS ⊢
 clear hW1
 generalize hgd : w'.heap.size = gd at *
 clear hgd
 go_wp2_with fail
 go_loopg [8] n (fun gg s8 wr => ∃ m : Nat, s8 = .int .i64 m ∧ 1 ≤ m ∧ n - m ≤ gg ∧ Aside0 (RepD w' wr gd n m x))
 case atStart => exact ⟨1, rfl, Nat.le_refl _, by omega, HS⟩
 case round =>
  obtain ⟨m, rfl, hm1, hgg, HR⟩ := hrel
  have hmn := HR.out.le
  by_cases hlt : m < n
  ·have hlt2 : (m : Int) < (n : Int) := by omega
   have hm63 : (m : Int) ≤ (n : Int) := by omega
   have hcp := fun q => copy_runD (HR.out.drawn q) ⟨gd, 0, none⟩ m n (n - m) (n - m) (Nat.min m (n - m)) rfl (by have := Nat.min_le_right m (n - m); show m + Nat.min m (n - m) ≤ n; have : Nat.min m (n - m) ≤ n - m := Nat.min_le_right _ _; omega) (fun j hj => by
    have : Nat.min m (n - m) ≤ m := Nat.min_le_left _ _
    have h2 := (HR.out.drawn q).cell (j := j) (by omega)
    have he : (⟨gd, 0, none⟩ : Addr).add j = ⟨gd, j, none⟩ := by unfold Addr.add; split <;> simp_all
    rw [he]
    exact h2)
   have HCP := Aside0.mk hcp
   clear hcp
   obtain ⟨k, hk⟩ : ∃ k, k = Nat.min m (n - m) := ⟨_, rfl⟩
   have hk1 : 1 ≤ k := by rw [hk]; exact Nat.le_min.2 ⟨hm1, by omega⟩
   have hkm : k ≤ n - m := by rw [hk]; exact Nat.min_le_right _ _
   rw [← hk] at HCP
   clear hk
   go_wp2_with fail
   have c0 : wr.cell? ⟨gd, 0, none⟩ = some (.int .i32 x) := HR.out.cell (by omega)
   have hcp1 : Sem.run Tryz.prog (Builtin.copy_ #[109, 109] 3 #[.slice (some ⟨gd, m, none⟩) (n - m) (n - m), .slice (some ⟨gd, 0, none⟩) m n]) wr.drew = .ok (.int .i64 (k : Int)) (wr.drew.setCells gd m (List.replicate k (.int .i32 x))) := HCP.out 1
   have HR2 := Aside0.mk ((HR.out.drawn 1).copy (k := k) (by omega))
   have c2 : (wr.drew.setCells gd m (List.replicate k (.int .i32 x))).cell? ⟨gd, 0, none⟩ = some (.int .i32 x) := HR2.out.cell (by omega)
   have hwr : IntKind.i64.wrap ((m : Int) + (k : Int)) = ((m + k : Nat) : Int) := by rw [IntKind.wrap_i64]; omega
   go_region_held3 (fun w' => w'.cell? ⟨gd, 0, none⟩ = some (.int .i32 x)) (first | go_keep | exact c2 | assumption) (fail)
   go_wp2
   go_roundg (n - (m + k))
   case measure => omega
   case rel => exact ⟨m + k, by rw [Int.natCast_add], by omega, Nat.le_refl _, HR2⟩
  ·go_wp2_with fail
   go_ret
   have : m = n := by omega
   subst this
   exact ⟨_, rfl, HR.out⟩
theorem rep_madeD (B cap n : Nat) (hn : 1 ≤ n ∧ n ≤ 1048576) (x : Int) (w : World) (h : w.cell? ⟨B, 0, none⟩ = some (.int .i32 x)) :
  Calls Tryz.prog 114 #[.slice (some ⟨B, 0, none⟩) 1 cap, .int .i64 n] w fun e w' => ∃ gd, e = .returned (.slice (some ⟨gd, 0, none⟩) n n) ∧ Below w.heap.size w w' ∧ w.heap.size ≤ gd ∧ gd < w'.heap.size ∧ RowIn encD 1 21 gd n (List.replicate n x).toArray w' := by
 refine (repeat_callsD B cap x n hn w h).mono ?_
 rintro e w' ⟨gd, rfl, hI⟩
 obtain ⟨cs, h1, h2, h3⟩ := hI.ex
 refine ⟨gd, rfl, hI.below, hI.ge, blk_lt h1, ?_⟩
 refine ⟨cs, h1, by rw [h2, Nat.mul_one], by simp, fun j hj c hc => ?_⟩
 have hjn : j < n := by simpa using hj
 have hc0 : c = 0 := by omega
 subst hc0
 rw [Nat.mul_one, Nat.add_zero, h3 j hjn, getElem!_pos _ j (by simpa using hjn)]
 simp [encD]
end Go.Proofs.YthgehdembghdaaaGreat.P
