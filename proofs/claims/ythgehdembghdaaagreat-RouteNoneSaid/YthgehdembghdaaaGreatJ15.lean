import Derived.Test.YthgehdembghdaaaGreatXHeap3
import Derived.BigRegion
import Derived.Test.YthgehdembghdaaaGreatXMesh3
import Derived.Test.YthgehdembghdaaaGreatPx6
namespace Go.Proofs.YthgehdembghdaaaGreat.P
open Go.RowKit Go.Proofs.YthgehdembghdaaaGreatW.PrintWords Go.Proofs.YthgehdembghdaaaGreatW.PrintLast Go.Proofs.YthgehdembghdaaaGreatW.PrintMore
set_option linter.unusedVariables false
set_option linter.unusedSimpArgs false
variable {w w' : World} {hb g cap : Nat} {l : List EnS}
def leastJ (l : List Heap.E) (i : Nat) : Nat → Nat
 | 0 => i
 | 1 => Heap.leastA l i
 | _ => Heap.least l i
theorem leastJ_step {l : List Heap.E} {i j k : Nat} (hk : k = 2 * i + 1 + j) (hj : j < 2) (hl : k < l.length) : leastJ l i (j + 1) = if Heap.lt (Heap.gt l k) (Heap.gt l (leastJ l i j)) = true then k else leastJ l i j := by
 subst hk
 rcases (show j = 0 ∨ j = 1 by omega) with rfl | rfl
 ·show Heap.leastA l i = _
  unfold Heap.leastA leastJ
  simp only [show 2 * i + 1 + 0 = 2 * i + 1 from rfl] at hl ⊢
  by_cases q : Heap.lt (Heap.gt l (2 * i + 1)) (Heap.gt l i) = true
  ·rw [if_pos ⟨hl, q⟩, if_pos q]
  ·rw [if_neg (fun z => q z.2), if_neg q]
 ·show Heap.least l i = if Heap.lt (Heap.gt l (2 * i + 2)) (Heap.gt l (Heap.leastA l i)) = true then 2 * i + 2 else Heap.leastA l i
  unfold Heap.least
  by_cases q : Heap.lt (Heap.gt l (2 * i + 2)) (Heap.gt l (Heap.leastA l i)) = true
  ·rw [if_pos ⟨by omega, q⟩, if_pos q]
  ·rw [if_neg (fun z => q z.2), if_neg q]
theorem leastJ_end {l : List Heap.E} {i j : Nat} (hj : j ≤ 2) (h : ¬ (j < 2 ∧ 2 * i + 1 + j < l.length)) : leastJ l i j = Heap.least l i := by
 rcases (show j = 0 ∨ j = 1 ∨ j = 2 by omega) with rfl | rfl | rfl
 ·show i = _
  unfold Heap.least Heap.leastA
  rw [if_neg (fun z => h ⟨by omega, by omega⟩), if_neg (fun z => h ⟨by omega, by omega⟩)]
 ·show Heap.leastA l i = _
  unfold Heap.least
  rw [if_neg (fun z => h ⟨by omega, by omega⟩)]
 ·rfl
theorem leastJ_le (l : List Heap.E) (i j : Nat) (hj : j < 2) : leastJ l i j < 2 * i + 1 + j := by
 rcases (show j = 0 ∨ j = 1 by omega) with rfl | rfl
 ·show i < _
  omega
 ·show Heap.leastA l i < _
  unfold Heap.leastA
  split <;> omega
set_option maxRecDepth 1000000 in
set_option maxHeartbeats 8000000 in
theorem down_calls (h : HeapW w hb g cap l) (hn : l.length ≤ 8000000000000) : Calls Tryz.prog 144 #[.pointer (some ⟨hb, 0, none⟩)] w fun e w' => e = .returned (.tuple #[]) ∧ ∃ l', HeapV w w' hb g cap l' ∧ l'.map toE = Heap.downF (l.length + 1) 0 (l.map toE) := by
 have HH : Aside0 (HeapV w w hb g cap l) := ⟨⟨h, Chg.refl _ _⟩⟩
 have HN := Aside0.mk hn
 clear h hn
 go_enter Tryz.func144, Tryz.ntmps144
 go_wp2_with fail
 go_loopg [2] l.length (fun gg v2 wr => ∃ (i : Nat) (lk : List EnS), v2 = .int .i64 (i : Int) ∧ (i = 0 ∨ i < l.length) ∧ l.length - i ≤ gg ∧ lk.length = l.length ∧ Aside0 (HeapV w wr hb g cap lk) ∧ Aside0 (∃ f, l.length - i < f ∧ Heap.downF f i (lk.map toE) = Heap.downF (l.length + 1) 0 (l.map toE)))
 case atStart => exact ⟨0, l, rfl, .inl rfl, by omega, rfl, HH, ⟨l.length + 1, by omega, rfl⟩⟩
 case round =>
  obtain ⟨i, lk, rfl, hi, hgg, hlk, HW, HF⟩ := hrel
  have iw1 : IntKind.i64.wrap (2 * (i : Int)) = 2 * (i : Int) := by have := HN.out; rw [IntKind.wrap_i64]; omega
  have iw2 : IntKind.i64.wrap (2 * (i : Int) + 1) = 2 * (i : Int) + 1 := by have := HN.out; rw [IntKind.wrap_i64]; omega
  have iw3 : IntKind.i64.wrap (2 * (i : Int) + 2) = 2 * (i : Int) + 2 := by have := HN.out; rw [IntKind.wrap_i64]; omega
  have HI := Aside0.mk (And.intro hi (And.intro hgg hlk))
  clear hi hgg hlk
  go_wp2_with fail
  go_loopg [3, 4] 2 (fun gg v3 v4 wr => ∃ (j k m : Nat), v3 = .int .i64 (m : Int) ∧ v4 = .int .i64 (k : Int) ∧ Aside0 (m = leastJ (lk.map toE) i j) ∧ Aside0 (k = 2 * i + 1 + j) ∧ j ≤ 2 ∧ 2 - j ≤ gg ∧ Aside0 (HeapV w wr hb g cap lk))
  case atStart => exact ⟨0, 2 * i + 1, i, rfl, by show Value.int .i64 _ = Value.int .i64 _; congr 1, ⟨rfl⟩, ⟨rfl⟩, by omega, by omega, HW⟩
  case round =>
   clear HW
   obtain ⟨j, k, m, rfl, rfl, HM, HK, hj, hjg, HW⟩ := hrel
   have c0 := cell_blk (j := 0) (u := .slice (some ⟨g, 0, none⟩) lk.length cap) HW.out.box rfl
   rw [HI.out.2.2] at c0
   by_cases hex : j < 2 ∧ k < l.length
   ·have hkl : k < lk.length := by rw [HI.out.2.2]; exact hex.2
    have hmk : m < k := by rw [HM.out, HK.out]; exact leastJ_le _ _ _ hex.1
    have hml : m < lk.length := by omega
    have d1 : (k : Int) ≤ 2 * (i : Int) + 2 := by have := HK.out; omega
    have d2 : (k : Int) < (l.length : Int) := by omega
    have d2b : k < l.length := hex.2
    have e1 : (0 : Int) ≤ (k : Int) := by omega
    have e3 : (0 : Int) ≤ (m : Int) := by omega
    have e4 : (m : Int) < (l.length : Int) := by have := HI.out.2.2; omega
    have iwk : IntKind.i64.wrap ((k : Int) + 1) = (k : Int) + 1 := by have := HN.out; rw [IntKind.wrap_i64]; omega
    obtain ⟨a0, a1⟩ := HW.out.at_ hkl
    obtain ⟨b0, b1⟩ := HW.out.at_ hml
    obtain ⟨x0, hx0⟩ : ∃ x, x = (lk.getD k default).f0 := ⟨_, rfl⟩
    obtain ⟨x1, hx1⟩ : ∃ x, x = (lk.getD k default).f1 := ⟨_, rfl⟩
    obtain ⟨y0, hy0⟩ : ∃ x, x = (lk.getD m default).f0 := ⟨_, rfl⟩
    obtain ⟨y1, hy1⟩ : ∃ x, x = (lk.getD m default).f1 := ⟨_, rfl⟩
    rw [← hx0] at a0
    rw [← hx1] at a1
    rw [← hy0] at b0
    rw [← hy1] at b1
    have HX := Aside0.mk (And.intro hx0 (And.intro hx1 (And.intro hy0 hy1)))
    have HIL := Aside0.mk (And.intro hkl (And.intro hml (And.intro hmk (And.intro hex (And.intro hj hjg)))))
    have hu := Tryz.underlying181
    clear hx0 hx1 hy0 hy1 hkl hml hmk hex hj hjg
    go_upto_region 5 with fail
    have HLE := Aside0.mk (heap_entry_less.calls x0 x1 y0 y1 (Heap.lt (x0, x1) (y0, y1)) wr.drew (hless_some _ _ _ _))
    go_region_held3 (fun w' => w'.cell? ⟨hb, 0, none⟩ = some (.slice (some ⟨g, 0, none⟩) l.length cap) ∧ w'.cell? ⟨g, k * 2, none⟩ = some (.int .i64 x0) ∧ w'.cell? ⟨g, k * 2 + 1, none⟩ = some (.int .i64 x1) ∧ w'.cell? ⟨g, m * 2, none⟩ = some (.int .i64 y0) ∧ w'.cell? ⟨g, m * 2 + 1, none⟩ = some (.int .i64 y1)) (first | (with_reducible first | exact ⟨c0, a0, a1, b0, b1⟩ | exact ⟨k0, k1, k2, k3, k4⟩) | go_keep)
     ((go_at_call 164; refine HLE.out.mono ?_; rintro e w2 ⟨rfl, hb2⟩; have k0 := pw_cell_below hb2 (a := ⟨hb, 0, none⟩) (v := .slice (some ⟨g, 0, none⟩) l.length cap) c0; have k1 := pw_cell_below hb2 (a := ⟨g, k * 2, none⟩) (v := .int .i64 x0) a0; have k2 := pw_cell_below hb2 (a := ⟨g, k * 2 + 1, none⟩) (v := .int .i64 x1) a1; have k3 := pw_cell_below hb2 (a := ⟨g, m * 2, none⟩) (v := .int .i64 y0) b0; have k4 := pw_cell_below hb2 (a := ⟨g, m * 2 + 1, none⟩) (v := .int .i64 y1) b1; have HB2 := Aside0.mk hb2; clear hb2))
    have hst := leastJ_step (l := lk.map toE) HK.out HIL.out.2.2.2.1.1 (by rw [List.length_map]; exact HIL.out.1)
    rw [← HM.out, gt_map lk HIL.out.1, gt_map lk HIL.out.2.1, show toE (lk.getD k default) = (x0, x1) by rw [HX.out.1, HX.out.2.1]; rfl, show toE (lk.getD m default) = (y0, y1) by rw [HX.out.2.2.1, HX.out.2.2.2]; rfl] at hst
    have HST := Aside0.mk hst
    clear hst
    generalize Heap.lt (x0, x1) (y0, y1) = lt at *
    have HW3 := HW.out.drew.go HB2.out
    clear c0 a0 a1 b0 b1 HLE
    cases lt with
    | false =>
     go_wp2_with fail
     go_roundg (2 - (j + 1))
     case measure => have := HIL.out; omega
     case rel => exact ⟨j + 1, k + 1, m, rfl, by show Value.int .i64 _ = Value.int .i64 _; congr 1, ⟨by rw [HST.out]; rfl⟩, ⟨by have := HK.out; omega⟩, by have := HIL.out; omega, by have := HIL.out; omega, ⟨HW3⟩⟩
    | true =>
     go_wp2_with fail
     go_roundg (2 - (j + 1))
     case measure => have := HIL.out; omega
     case rel => exact ⟨j + 1, k + 1, k, rfl, by show Value.int .i64 _ = Value.int .i64 _; congr 1, ⟨by rw [HST.out]; rfl⟩, ⟨by have := HK.out; omega⟩, by have := HIL.out; omega, by have := HIL.out; omega, ⟨HW3⟩⟩
   ·have hle := leastJ_end (l := lk.map toE) (i := i) hj (by rw [List.length_map, HI.out.2.2, ← HK.out]; exact hex)
    rw [← HM.out] at hle
    have HQ := Aside0.mk (And.intro hle (And.intro hex hj))
    clear hle hex hj
    by_cases hq : m = i
    ·subst hq
     have g1 : ((m : Int) == (m : Int)) = true := by simp
     have fin : ∃ l', HeapV w wr hb g cap l' ∧ l'.map toE = Heap.downF (l.length + 1) 0 (l.map toE) := by
      obtain ⟨f, hf, he⟩ := HF.out
      obtain ⟨f, rfl⟩ : ∃ q, f = q + 1 := ⟨f - 1, by omega⟩
      exact ⟨lk, HW.out, by rw [← he, Heap.downF, if_pos HQ.out.1.symm]⟩
     have FIN := Aside0.mk fin
     clear fin
     by_cases hj2 : j < 2
     ·have d1 : (k : Int) ≤ 2 * (m : Int) + 2 := by have := HK.out; omega
      have d2 : decide (k < l.length) = false := decide_eq_false (fun z => HQ.out.2.1 ⟨hj2, z⟩)
      have d3 : decide ((k : Int) < (l.length : Int)) = false := decide_eq_false (fun z => HQ.out.2.1 ⟨hj2, by omega⟩)
      go_wp2_with fail
      (try simp only [Exit.inBlock, Exit.then])
      exact bodyPost_ret (results_none rfl _ _ _) rfl ⟨rfl, FIN.out⟩
     ·have d1 : decide ((k : Int) ≤ 2 * (m : Int) + 2) = false := decide_eq_false (by have := HK.out; have := HQ.out.2.2; omega)
      go_wp2_with fail
      (try simp only [Exit.inBlock, Exit.then])
      exact bodyPost_ret (results_none rfl _ _ _) rfl ⟨rfl, FIN.out⟩
    ·have g1 : ((m : Int) == (i : Int)) = false := by rw [beq_eq_false_iff_ne]; omega
     have g1b : decide (m = i) = false := decide_eq_false hq
     have hil : i < l.length := by
      rcases HI.out.1 with h0 | h0
      ·rcases Nat.lt_or_ge i l.length with h1 | h1
       ·exact h1
       ·refine absurd HQ.out.1 ?_
        unfold Heap.least Heap.leastA
        rw [List.length_map, HI.out.2.2, if_neg (by omega), if_neg (by omega)]
        exact hq
      ·exact h0
     have hsp := Heap.least_spec (lk.map toE) i (by rw [List.length_map, HI.out.2.2]; exact hil)
     rw [← HQ.out.1, List.length_map] at hsp
     have hml : m < lk.length := hsp.2.1
     have him : i < m := by have := hsp.1; omega
     have hil' : i < lk.length := by omega
     obtain ⟨a0, a1⟩ := HW.out.at_ hil'
     obtain ⟨b0, b1⟩ := HW.out.at_ hml
     obtain ⟨x0, hx0⟩ : ∃ x, x = (lk.getD i default).f0 := ⟨_, rfl⟩
     obtain ⟨x1, hx1⟩ : ∃ x, x = (lk.getD i default).f1 := ⟨_, rfl⟩
     obtain ⟨y0, hy0⟩ : ∃ x, x = (lk.getD m default).f0 := ⟨_, rfl⟩
     obtain ⟨y1, hy1⟩ : ∃ x, x = (lk.getD m default).f1 := ⟨_, rfl⟩
     rw [← hx0] at a0
     rw [← hx1] at a1
     rw [← hy0] at b0
     rw [← hy1] at b1
     have HX := Aside0.mk (And.intro hx0 (And.intro hx1 (And.intro hy0 hy1)))
     have HIL := Aside0.mk (And.intro hil' (And.intro hml (And.intro him hq)))
     have e1 : (0 : Int) ≤ (i : Int) := by omega
     have e2 : (i : Int) < (l.length : Int) := by omega
     have e3 : (0 : Int) ≤ (m : Int) := by omega
     have e4 : (m : Int) < (l.length : Int) := by have := HI.out.2.2; omega
     have hu := Tryz.underlying181
     have f0 := HW.out.row.free (i * 2)
     have f1 := HW.out.row.free (i * 2 + 1)
     have f2 := HW.out.row.free (m * 2)
     have f3 := HW.out.row.free (m * 2 + 1)
     have n1 : i ≠ m := fun z => hq z.symm
     have REL : ∃ (i' : Nat) (lk' : List EnS), Value.int .i64 (m : Int) = .int .i64 (i' : Int) ∧ (i' = 0 ∨ i' < l.length) ∧ l.length - i' ≤ l.length - m ∧ lk'.length = l.length ∧ Aside0 (HeapV w (((((wr.setCell ⟨g, i * 2, none⟩ (.int .i64 y0)).setCell ⟨g, i * 2 + 1, none⟩ (.int .i64 y1)).setCell ⟨g, m * 2, none⟩ (.int .i64 x0)).setCell ⟨g, m * 2 + 1, none⟩ (.int .i64 x1)).drew) hb g cap lk') ∧ Aside0 (∃ f, l.length - i' < f ∧ Heap.downF f i' (lk'.map toE) = Heap.downF (l.length + 1) 0 (l.map toE)) := by
      obtain ⟨f, hf, he⟩ := HF.out
      obtain ⟨f, rfl⟩ : ∃ q, f = q + 1 := ⟨f - 1, by omega⟩
      refine ⟨m, swapS lk i m, rfl, .inr (by omega), Nat.le_refl _, by simp [swapS]; exact HI.out.2.2, ⟨HW.out.swap hil' hml hx0 hx1 hy0 hy1⟩, ⟨f, by omega, ?_⟩⟩
      rw [Heap.downF, if_neg (by rw [← HQ.out.1]; exact hq), ← HQ.out.1] at he
      rw [swap_map hil' hml]
      exact he
     have REL := Aside0.mk REL
     clear hx0 hx1 hy0 hy1 hil hil' hml him hq hsp
     by_cases hj2 : j < 2
     ·have d1 : (k : Int) ≤ 2 * (i : Int) + 2 := by have := HK.out; omega
      have d2 : decide (k < l.length) = false := decide_eq_false (fun z => HQ.out.2.1 ⟨hj2, z⟩)
      have d3 : decide ((k : Int) < (l.length : Int)) = false := decide_eq_false (fun z => HQ.out.2.1 ⟨hj2, by omega⟩)
      go_upto_region 8 with fail
      go_region
      go_wp2
      go_roundg (l.length - m)
      case measure => have := HIL.out; have := HI.out; omega
      case rel => exact REL.out
     ·have d1 : decide ((k : Int) ≤ 2 * (i : Int) + 2) = false := decide_eq_false (by have := HK.out; have := HQ.out.2.2; omega)
      go_upto_region 8 with fail
      go_region
      go_wp2
      go_roundg (l.length - m)
      case measure => have := HIL.out; have := HI.out; omega
      case rel => exact REL.out
end Go.Proofs.YthgehdembghdaaaGreat.P
namespace Go.Proofs.YthgehdembghdaaaGreat.P
open Go.RowKit Go.Proofs.YthgehdembghdaaaGreatW.PrintWords Go.Proofs.YthgehdembghdaaaGreatW.PrintLast Go.Proofs.YthgehdembghdaaaGreatW.PrintMore
set_option linter.unusedVariables false
set_option linter.unusedSimpArgs false
theorem encH_len (x : EnS) : (encH x).length = 2 := rfl
theorem infoEnt : (Tryz.prog.info? 181).map (fun i => (i.zero, i.size, i.bytes)) = some (some (.agg #[.int .i64 0, .int .i64 0]), 2, 16) := by kernel_rfl
variable {w w' : World} {base hb : Nat} {sv : Value} {l : List EnS}
structure HP (w : World) (base hb : Nat) (sv : Value) (l : List EnS) : Prop where
 box : w.heap[hb]? = some (.cells #[sv] 179 (0, 0))
 row : sv = .slice none 0 0 ∧ l = [] ∨ ∃ g cap, sv = .slice (some ⟨g, 0, none⟩) l.length cap ∧ base ≤ g ∧ cap ≤ maxLen ∧ RowIn encH 2 181 g cap l.toArray w
def HeapS (hb : Nat) (sv : Value) (c : Nat) : Prop := c = hb ∨ sv.ownBlock = some c
theorem HP.owns (h : HP w base hb sv l) : w.ownsRow base 181 2 sv l.length (l.flatMap encH) := by
 rcases h.row with ⟨rfl, rfl⟩ | ⟨g, cap, rfl, h1, h2, h3⟩
 ·exact ⟨by simp, .inl ⟨rfl, rfl⟩⟩
 ·exact RowIn_ownsRow encH_len h3 h1 h2
theorem HP.slice (h : HP w base hb sv l) : ∃ A n, sv = .slice A l.length n := by
 rcases h.row with ⟨rfl, rfl⟩ | ⟨g, cap, rfl, h1, h2, h3⟩
 ·exact ⟨none, 0, rfl⟩
 ·exact ⟨_, _, rfl⟩
theorem HP.chg {S : Nat → Prop} (h : HP w base hb sv l) (hc : Chg S w w') (hs : ∀ c, HeapS hb sv c → ¬ S c) : HP w' base hb sv l := by
 refine ⟨hc.blk h.box (hs hb (.inl rfl)), ?_⟩
 rcases h.row with ⟨rfl, rfl⟩ | ⟨g, cap, rfl, h1, h2, h3⟩
 ·exact .inl ⟨rfl, rfl⟩
 ·refine .inr ⟨g, cap, rfl, h1, h2, h3.heap ?_⟩
  obtain ⟨cs, hcs⟩ := h3.typ
  exact hc.block g (blk_lt hcs) (hs g (.inr rfl))
theorem HP.below (h : HP w base hb sv l) (hb2 : Below w.heap.size w w') : HP w' base hb sv l := h.chg (Chg.of_below hb2 (fun _ => False)) (fun _ _ z => z)
theorem HP.ge (h : HP w base hb sv l) (hbb : base ≤ hb) {c : Nat} (hc : HeapS hb sv c) : base ≤ c := by
 rcases hc with rfl | hc
 ·exact hbb
 ·rcases h.row with ⟨rfl, rfl⟩ | ⟨g, cap, rfl, h1, h2, h3⟩
  ·cases hc
  ·injection hc with hc
   exact hc ▸ h1
theorem lenq_calls {A : Option Addr} {n c : Nat} (c0 : w.cell? ⟨hb, 0, none⟩ = some (.slice A n c)) : Calls Tryz.prog 165 #[.pointer (some ⟨hb, 0, none⟩)] w fun e w' => e = .returned (.int .i64 (n : Int)) ∧ w' = w := by
 go_enter Tryz.func165, Tryz.ntmps165
 go_wp2
 go_ret
 exact ⟨rfl, rfl⟩
set_option maxRecDepth 100000 in
set_option maxHeartbeats 4000000 in
theorem top0_calls {A : Option Addr} {c : Nat} (c0 : w.cell? ⟨hb, 0, none⟩ = some (.slice A 0 c)) : Calls Tryz.prog 143 #[.pointer (some ⟨hb, 0, none⟩)] w fun e w' => e = .returned (.tuple #[.int .i64 0, .int .i64 0, .bool false]) ∧ w' = w := by
 have HH := Aside0.mk (lenq_calls c0)
 have d1 : (((0 : Nat) : Int) == 0) = true := rfl
 go_enter Tryz.func143, Tryz.ntmps143
 go_wp2_with (go_at_call 165; refine HH.out.mono ?_; rintro e w1 ⟨rfl, rfl⟩)
 go_ret3
 exact ⟨rfl, rfl⟩
set_option maxRecDepth 100000 in
set_option maxHeartbeats 4000000 in
theorem top1_calls {g n c : Nat} {a b : Int} (hn : 0 < n) (c0 : w.cell? ⟨hb, 0, none⟩ = some (.slice (some ⟨g, 0, none⟩) n c)) (q0 : w.cell? ⟨g, 0, none⟩ = some (.int .i64 a)) (q1 : w.cell? ⟨g, 1, none⟩ = some (.int .i64 b)) : Calls Tryz.prog 143 #[.pointer (some ⟨hb, 0, none⟩)] w fun e w' => e = .returned (.tuple #[.int .i64 a, .int .i64 b, .bool true]) ∧ Drawn0 w w' := by
 have HH := Aside0.mk (lenq_calls c0)
 have d1 : (((n : Nat) : Int) == 0) = false := by rw [beq_eq_false_iff_ne]; omega
 have d1b : decide (n = 0) = false := decide_eq_false (by omega)
 have d2 : (0 : Int) < (n : Int) := by omega
 have hu := Tryz.underlying181
 go_enter Tryz.func143, Tryz.ntmps143
 go_wp2_with (go_at_call 165; refine HH.out.mono ?_; rintro e w1 ⟨rfl, rfl⟩)
 go_region_held3 (fun w' => w'.cell? ⟨hb, 0, none⟩ = some (.slice (some ⟨g, 0, none⟩) n c) ∧ w'.cell? ⟨g, 0, none⟩ = some (.int .i64 a) ∧ w'.cell? ⟨g, 1, none⟩ = some (.int .i64 b)) (first | exact ⟨c0, q0, q1⟩ | go_keep) (fail)
 go_wp2_with fail
 go_ret3
 exact ⟨rfl, ⟨1, rfl⟩⟩
end Go.Proofs.YthgehdembghdaaaGreat.P
namespace Go.Proofs.YthgehdembghdaaaGreat.P
open Go.RowKit Go.Proofs.YthgehdembghdaaaGreatW.PrintWords Go.Proofs.YthgehdembghdaaaGreatW.PrintLast Go.Proofs.YthgehdembghdaaaGreatW.PrintMore
set_option linter.unusedVariables false
set_option linter.unusedSimpArgs false
variable {w w' : World} {base hb : Nat} {sv : Value} {l : List EnS}
set_option maxRecDepth 100000 in
set_option maxHeartbeats 4000000 in
theorem push_calls (h : HP w base hb sv l) (hB : base ≤ w.heap.size) (hn : l.length + 1 ≤ 8000000000000) (key item : Int) : Calls Tryz.prog 118 #[.pointer (some ⟨hb, 0, none⟩), .int .i64 key, .int .i64 item] w fun e w' => e = .returned (.tuple #[]) ∧ ∃ sv' l', HP w' base hb sv' l' ∧ l'.map toE = Heap.pushL (l.map toE) (key, item) ∧ Chg (HeapS hb sv) w w' ∧ (∀ c, HeapS hb sv' c → HeapS hb sv c ∨ w.heap.size ≤ c) := by
  have c0 := cell_blk (j := 0) (u := sv) h.box rfl
  obtain ⟨A, n, e⟩ := h.slice
  have HSV := Aside0.mk e
  have HH := Aside0.mk h
  have HN := Aside0.mk (And.intro hB hn)
  rw [e] at c0
  clear h hB hn e
  go_enter Tryz.func118, Tryz.ntmps118
  go_wp2_with (first
    | (
      (with_reducible refine gate_builtin (b := .append) (xs := #[.tmp 12, .tmp 16]) rfl ?_)
      at_builtin
      (
        refine print_append_cells (w0 := w) base rfl (.tmp 12) (.tmp 16) 177 181 (.agg #[.int .i64 0, .int .i64 0]) 2 16 rfl Tryz.underlying177 infoEnt rfl (by decide) (by decide) sv l.length (l.flatMap encH) [.int .i64 key, .int .i64 item] ?aS ?aX rfl (by simp [Value.oneCell']) ?aO ?aB ?aZ ?aL ?_
        case aS => rw [HSV.out]; rfl
        case aX => rfl
        case aO => exact HH.out.owns
        case aB => exact Below.refl _ _
        case aZ => exact HN.out.1
        case aL => have := HN.out.2; omega
        intro v4 w4 ho hb4 hg hat
        have ho' := ownsRow_RowIn (l := l ++ [⟨key, item⟩]) encH_len (inner := l.flatMap encH ++ [.int .i64 key, .int .i64 item]) (by rw [List.length_append]; exact ho) (by rw [List.flatMap_append]; rfl)
        rcases ho' with ⟨_, hx⟩ | ⟨g4, cap4, hv4, hg4, hc4, hr4⟩
        · exact absurd hx (by simp)
        rw [List.length_append, show ([(⟨key, item⟩ : EnS)] : List EnS).length = 1 from rfl] at hv4
        subst hv4
        have HR4 := Aside0.mk (And.intro hg4 (And.intro hc4 hr4))
        have hne4 : hb ≠ g4 := by
          rcases hat with q | ⟨b, q, q2⟩
          · intro z
            subst z
            have q3 : sv.ownBlock = some hb := q.symm.trans rfl
            rcases HH.out.row with ⟨q4, _⟩ | ⟨g5, c5, q4, _, _, q5⟩
            · rw [q4] at q3; cases q3
            · rw [q4] at q3
              injection q3 with q3
              obtain ⟨cs, hcs⟩ := q5.typ
              exact blk_ne HH.out.box hcs (by decide) q3.symm
          · have q3 : g4 = b := Option.some.inj (show some g4 = some b from q)
            have := blk_lt HH.out.box
            omega
        have hbk : w4.heap[hb]? = some (.cells #[sv] 179 (0, 0)) := (hg.block hb (blk_lt HH.out.box) (fun q => by
          rcases HH.out.row with ⟨q4, _⟩ | ⟨g5, c5, q4, _, _, q5⟩
          · rw [q4] at q; cases q
          · rw [q4] at q
            injection q with q
            obtain ⟨cs, hcs⟩ := q5.typ
            exact blk_ne HH.out.box hcs (by decide) q)).trans HH.out.box
        have HBK := Aside0.mk (And.intro hne4 hbk)
        have HCG : Aside0 (Chg (HeapS hb sv) w w4 ∧ (g4 = g4 ∧ (sv.ownBlock = some g4 ∨ w.heap.size ≤ g4))) := ⟨Chg.of_grown hg (fun k q => .inr q), rfl, by
          rcases hat with q | ⟨b, q, q2⟩
          · exact .inl q.symm
          · have q3 : g4 = b := Option.some.inj (show some g4 = some b from q)
            exact .inr (by omega)⟩
        have c14 := cell_blk (j := 0) (u := sv) hbk rfl
        have f4 := free_blk hbk 0
        rw [HSV.out] at c14
        clear ho hb4 hg hat hg4 hc4 hr4 hne4 hbk c0)
    )
    | (go_at_call 142
       have hw5 : HeapW (w4.setCell ⟨hb, 0, none⟩ (.slice (some ⟨g4, 0, none⟩) (l.length + 1) cap4)) hb g4 cap4 (l ++ [⟨key, item⟩]) := ⟨by rw [List.length_append]; exact set_blk HBK.out.2 0 _, HR4.out.2.2.heap (by (obtain ⟨cs, hcs⟩ := HR4.out.2.2.typ); exact (blk_far hcs (p := ⟨hb, 0, none⟩) (fun q => HBK.out.1 q.symm) _).trans hcs.symm)⟩
       refine (up_calls hw5 (by simp) (by rw [List.length_append]; exact HN.out.2)).mono ?_
       rintro e w6 ⟨rfl, l', hv, hm⟩
       have HV := Aside0.mk hv
       have HM := Aside0.mk hm
       clear hv hm hw5))
  go_end0
  have hl : l'.length = l.length + 1 := by
    have := congrArg List.length HM.out
    rw [List.length_map] at this
    rw [this, Heap.up_len]
    simp
  obtain ⟨cs, hcs⟩ := HR4.out.2.2.typ
  refine ⟨rfl, _, l', ⟨HV.out.box, .inr ⟨g4, cap4, rfl, HR4.out.1, HR4.out.2.1, HV.out.row⟩⟩, ?_, ?_, ?_⟩
  · rw [HM.out]
    unfold Heap.pushL
    rw [List.length_map, List.length_append, List.map_append]
    rfl
  · refine (HCG.out.1.set_ (.inl (.inl rfl)) _).then_ HV.out.chg (fun k hk => ?_)
    subst hk
    exact HCG.out.2.2.elim (fun q => .inl (.inr q)) .inr
  · rintro c (rfl | q)
    · exact .inl (.inl rfl)
    · have q3 : g4 = c := Option.some.inj (show some g4 = some c from q)
      subst q3
      exact HCG.out.2.2.elim (fun q => .inl (.inr q)) .inr
end Go.Proofs.YthgehdembghdaaaGreat.P
namespace Go.Proofs.YthgehdembghdaaaGreat.P
open Go.RowKit Go.Proofs.YthgehdembghdaaaGreatW.PrintWords Go.Proofs.YthgehdembghdaaaGreatW.PrintLast Go.Proofs.YthgehdembghdaaaGreatW.PrintMore
set_option linter.unusedVariables false
set_option linter.unusedSimpArgs false
variable {w w' : World} {base hb g cap : Nat} {sv : Value} {l : List EnS}
theorem RowIn.shorter {α : Type} [Inhabited α] {enc : α → List Value} {k e B cap : Nat} {d : List α} {w : World} (h : RowIn enc k e B cap d.toArray w) (m : Nat) : RowIn enc k e B cap (d.take m).toArray w := by
 obtain ⟨cs, h1, h2, h3, h4⟩ := h
 have hl : (d.take m).length ≤ d.length := by rw [List.length_take]; omega
 refine ⟨cs, h1, h2, by simp at h3 ⊢; omega, fun j hj c hc => ?_⟩
 have hj' : j < (d.take m).length := by simpa using hj
 rw [h4 j (by simp; omega) c hc, getD_toArray, getD_toArray, List.getD_eq_getElem?_getD, List.getD_eq_getElem?_getD, List.getElem?_take, if_pos (by rw [List.length_take] at hj'; omega)]
def lastS (l : List EnS) : List EnS := (l.set 0 ⟨(l.getD (l.length - 1) default).f0, (l.getD (l.length - 1) default).f1⟩).take (l.length - 1)
theorem lastS_len (l : List EnS) : (lastS l).length = l.length - 1 := by simp [lastS]
theorem lastS_map {l : List EnS} (h : 0 < l.length) : (lastS l).map toE = ((l.map toE).set 0 (Heap.gt (l.map toE) ((l.map toE).length - 1))).take ((l.map toE).length - 1) := by
 unfold lastS
 rw [List.map_take, List.map_set, List.length_map, gt_map l (by omega)]
 try rfl
set_option maxRecDepth 1000000 in
set_option maxHeartbeats 8000000 in
theorem pop1_calls (h : HeapW w hb g cap l) (hl : 0 < l.length) (hc : l.length ≤ cap) (hn : l.length ≤ 8000000000000) : Calls Tryz.prog 119 #[.pointer (some ⟨hb, 0, none⟩)] w fun e w' => e = .returned (.tuple #[.int .i64 (Heap.gt (l.map toE) 0).1, .int .i64 (Heap.gt (l.map toE) 0).2, .bool true]) ∧ ∃ l', HeapW w' hb g cap l' ∧ l'.map toE = Heap.popL (l.map toE) ∧ Chg (fun b => b = hb ∨ b = g) w w' := by
 have c0 := cell_blk (j := 0) (u := .slice (some ⟨g, 0, none⟩) l.length cap) h.box rfl
 obtain ⟨a0, a1⟩ := h.at_ hl
 rw [Nat.zero_mul] at a0 a1
 obtain ⟨x0, hx0⟩ : ∃ x, x = (l.getD 0 default).f0 := ⟨_, rfl⟩
 obtain ⟨x1, hx1⟩ : ∃ x, x = (l.getD 0 default).f1 := ⟨_, rfl⟩
 rw [← hx0] at a0
 rw [← hx1] at a1
 have hg0 : Heap.gt (l.map toE) 0 = (x0, x1) := by rw [gt_map l hl, hx0, hx1]; rfl
 rw [hg0]
 have HT := Aside0.mk (top1_calls hl c0 a0 a1)
 obtain ⟨p, hp⟩ : ∃ p, p = l.length - 1 := ⟨_, rfl⟩
 have hpl : p < l.length := by omega
 have iw : IntKind.i64.wrap ((l.length : Int) - 1) = (p : Int) := by rw [IntKind.wrap_i64]; omega
 have HH := Aside0.mk h
 have HN := Aside0.mk (And.intro hl (And.intro hc (And.intro hn hp)))
 clear h hl hc hn a0 a1 hx0 hx1 hg0 hp
 go_enter Tryz.func119, Tryz.ntmps119
 go_wp2_with (go_at_call 143; refine HT.out.mono ?_; rintro e w1 ⟨rfl, hd⟩; have HB1 := Aside0.mk hd.below; have c0 := pw_cell_below hd.below c0; clear hd)
 rename_i _ _ _ _
 have HW := Aside0.mk (HH.out.go HB1.out)
 obtain ⟨b0, b1⟩ := HW.out.at_ (i := p) hpl
 obtain ⟨y0, hy0⟩ : ∃ x, x = (l.getD p default).f0 := ⟨_, rfl⟩
 obtain ⟨y1, hy1⟩ : ∃ x, x = (l.getD p default).f1 := ⟨_, rfl⟩
 rw [← hy0] at b0
 rw [← hy1] at b1
 have HY := Aside0.mk (And.intro hy0 hy1)
 have e0 : (0 : Int) < (l.length : Int) := by have := HN.out; omega
 have e1 : (0 : Int) ≤ (p : Int) := by omega
 have e2 : (p : Int) < (l.length : Int) := by omega
 have e3 : (p : Int) ≤ (cap : Int) := by have := HN.out; omega
 have e0b : 0 < l.length := by omega
 have e3b : p ≤ cap := by omega
 have hu := Tryz.underlying181
 obtain ⟨a0, a1⟩ := HW.out.at_ (i := 0) e0b
 rw [Nat.zero_mul] at a0 a1
 have f0 := HW.out.row.free 0
 have f1 := HW.out.row.free 1
 clear hy0 hy1
 go_region
 obtain ⟨w2, hw2⟩ : ∃ w2, w2 = ((w1.setCell ⟨g, 0, none⟩ (.int .i64 y0)).setCell ⟨g, 1, none⟩ (.int .i64 y1)).drew := ⟨_, rfl⟩
 rw [← hw2]
 have hbg : hb ≠ g := by obtain ⟨cs, hcs⟩ := HW.out.row.typ; exact blk_ne HW.out.box hcs (by decide)
 have H2 : Aside0 (w2.heap[hb]? = some (.cells #[.slice (some ⟨g, 0, none⟩) l.length cap] 179 (0, 0)) ∧ RowIn encH 2 181 g cap (l.set 0 ⟨y0, y1⟩).toArray w2 ∧ Chg (fun b => b = g) w1 w2) := ⟨by
  rw [hw2]
  have hp := HeapW.put HW.out.row (i := 0) e0b y0 y1
  rw [Nat.zero_mul] at hp
  exact ⟨blk_far (blk_far HW.out.box (p := ⟨g, 0, none⟩) hbg _) (p := ⟨g, 1, none⟩) hbg _, hp, (((Chg.refl (fun b => b = g) w1).set_ (.inl rfl) _).set_ (.inl rfl) _).drew⟩⟩
 have HBG := Aside0.mk hbg
 clear hw2 hbg a0 a1 b0 b1 f0 f1 c0
 have c0 := cell_blk (j := 0) (u := .slice (some ⟨g, 0, none⟩) l.length cap) H2.out.1 rfl
 have f0 := free_blk H2.out.1 0
 go_wp2_with (
  go_at_call 144
  have hw3 : HeapW (w2.setCell ⟨hb, 0, none⟩ (.slice (some ⟨g, 0, none⟩) p cap)) hb g cap (lastS l) := ⟨by rw [lastS_len, ← HN.out.2.2.2]; exact set_blk H2.out.1 0 _, by (have hr := RowIn.shorter H2.out.2.1 p; rw [HY.out.1, HY.out.2, HN.out.2.2.2] at hr; (obtain ⟨cs, hcs⟩ := hr.typ); exact hr.heap ((blk_far hcs (p := ⟨hb, 0, none⟩) (fun q => HBG.out q.symm) _).trans hcs.symm))⟩
  refine (down_calls hw3 (by rw [lastS_len]; have := HN.out; omega)).mono ?_
  rintro e w4 ⟨rfl, l', hv, hm⟩
  have HV := Aside0.mk hv
  have HM := Aside0.mk hm
  clear hv hm hw3)
 go_ret3
 refine ⟨rfl, l', HV.out.toHeapW, ?_, ?_⟩
 ·rw [HM.out, lastS_map HN.out.1]
  unfold Heap.popL
  rw [lastS_len, List.length_map]
 ·refine ((Chg.of_below HB1.out _).then_ (H2.out.2.2.mono (fun b hb2 => .inr hb2)) (fun k hk => .inl hk)).then_ ?_ (fun k hk => .inl hk)
  exact ((Chg.refl (fun b => b = hb ∨ b = g) w2).set_ (.inl (.inl rfl)) _).trans (HV.out.chg.mono (fun b hb2 => .inr hb2))
end Go.Proofs.YthgehdembghdaaaGreat.P
namespace Go.Proofs.YthgehdembghdaaaGreat.P
open Go.RowKit Go.Proofs.YthgehdembghdaaaGreatW.PrintWords Go.Proofs.YthgehdembghdaaaGreatW.PrintLast Go.Proofs.YthgehdembghdaaaGreatW.PrintMore
set_option linter.unusedVariables false
set_option linter.unusedSimpArgs false
variable {w w' : World} {base hb : Nat} {sv : Value} {L : List Heap.E}
structure Hp (w : World) (base hb : Nat) (sv : Value) (L : List Heap.E) : Prop where
 ex : ∃ l, HP w base hb sv l ∧ l.map toE = L
 ok : Heap.Ok L
 low : base ≤ hb
theorem Hp.below (h : Hp w base hb sv L) (hb2 : Below w.heap.size w w') : Hp w' base hb sv L := by
 obtain ⟨l, h1, h2⟩ := h.ex
 exact ⟨⟨l, h1.below hb2, h2⟩, h.ok, h.low⟩
theorem Hp.chg {S : Nat → Prop} (h : Hp w base hb sv L) (hc : Chg S w w') (hs : ∀ c, HeapS hb sv c → ¬ S c) : Hp w' base hb sv L := by
 obtain ⟨l, h1, h2⟩ := h.ex
 exact ⟨⟨l, h1.chg hc hs, h2⟩, h.ok, h.low⟩
theorem Hp.down {base' : Nat} (h : Hp w base hb sv L) (hle : base' ≤ base) : Hp w base' hb sv L := by
 obtain ⟨l, h1, h2⟩ := h.ex
 exact ⟨⟨l, ⟨h1.box, h1.row.imp id (fun ⟨g, cap, e, q1, q2⟩ => ⟨g, cap, e, Nat.le_trans hle q1, q2⟩)⟩, h2⟩, h.ok, Nat.le_trans hle h.low⟩
theorem Hp.typ (h : Hp w base hb sv L) {c : Nat} (hc : HeapS hb sv c) : ∃ cs, w.heap[c]? = some (.cells cs 179 (0, 0)) ∨ w.heap[c]? = some (.cells cs 181 (0, 0)) := by
 obtain ⟨l, h1, h2⟩ := h.ex
 rcases hc with rfl | hc
 ·exact ⟨_, .inl h1.box⟩
 ·rcases h1.row with ⟨rfl, rfl⟩ | ⟨g, cap, rfl, q1, q2, q3⟩
  ·cases hc
  ·obtain ⟨cs, hcs⟩ := q3.typ
   have e : g = c := Option.some.inj (show some g = some c from hc)
   exact ⟨cs, .inr (e ▸ hcs)⟩
theorem Hp.ge (h : Hp w base hb sv L) {c : Nat} (hc : HeapS hb sv c) : base ≤ c := by
 obtain ⟨l, h1, h2⟩ := h.ex
 exact h1.ge h.low hc
theorem Hp.not (h : Hp w base hb sv L) {b : Nat} {o : Obj} (ho : w.heap[b]? = some o) (n1 : ∀ cs, o ≠ .cells cs 179 (0, 0)) (n2 : ∀ cs, o ≠ .cells cs 181 (0, 0)) : ¬ HeapS hb sv b := by
 intro q
 obtain ⟨cs, e | e⟩ := h.typ q
 ·rw [ho] at e
  exact n1 cs (Option.some.inj e)
 ·rw [ho] at e
  exact n2 cs (Option.some.inj e)
theorem cells_ne {cs cs' : Array Value} {t u : TypeId} {p q : Nat × Nat} (h : t ≠ u) : Obj.cells cs t p ≠ .cells cs' u q := by
 intro e
 injection e with _ e _
 exact h e
theorem map_ne {es : Array MapEntry} {k : Nat} {cs : Array Value} {u : TypeId} {q : Nat × Nat} : Obj.map es k ≠ .cells cs u q := by
 intro e
 injection e
set_option maxHeartbeats 2000000 in
theorem hNew_calls (w : World) : Calls Tryz.prog 115 #[] w fun e w' => ∃ hb, e = .returned (.pointer (some ⟨hb, 0, none⟩)) ∧ w.heap.size ≤ hb ∧ Hp w' w.heap.size hb (.slice none 0 0) [] ∧ Below w.heap.size w w' := by
 go_enter Tryz.func115, Tryz.ntmps115
 go_wp2
 go_ret
 refine ⟨w.heap.size, rfl, Nat.le_refl _, ⟨⟨[], ⟨heap_alloc_new _ _, .inl ⟨rfl, rfl⟩⟩, rfl⟩, fun j j0 jl => absurd jl (by simp), Nat.le_refl _⟩, below_alloc (Below.refl _ _) _⟩
theorem hPush_calls (h : Hp w base hb sv L) (hB : base ≤ w.heap.size) (hn : L.length + 1 ≤ 8000000000000) (key item : Int) : Calls Tryz.prog 118 #[.pointer (some ⟨hb, 0, none⟩), .int .i64 key, .int .i64 item] w fun e w' => e = .returned (.tuple #[]) ∧ ∃ sv' L', Hp w' base hb sv' L' ∧ L'.Perm ((key, item) :: L) ∧ Chg (HeapS hb sv) w w' := by
 obtain ⟨l, h1, h2⟩ := h.ex
 subst h2
 rw [List.length_map] at hn
 refine (push_calls h1 hB hn key item).mono ?_
 rintro e w' ⟨rfl, sv', l', q1, q2, q3, q4⟩
 have hk := Heap.push_ok h.ok (key, item)
 rw [← q2] at hk
 exact ⟨rfl, sv', _, ⟨⟨l', q1, rfl⟩, hk.1, h.low⟩, hk.2, q3⟩
theorem hPop0_calls (h : Hp w base hb sv []) : Calls Tryz.prog 119 #[.pointer (some ⟨hb, 0, none⟩)] w fun e w' => e = .returned (.tuple #[.int .i64 0, .int .i64 0, .bool false]) ∧ w' = w := by
 obtain ⟨l, h1, h2⟩ := h.ex
 obtain rfl : l = [] := List.map_eq_nil_iff.1 h2
 obtain ⟨A, n, e⟩ := h1.slice
 have c0 := cell_blk (j := 0) (u := sv) h1.box rfl
 rw [e] at c0
 have HT := Aside0.mk (top0_calls c0)
 clear h h1 h2 e
 go_enter Tryz.func119, Tryz.ntmps119
 go_wp2_with (go_at_call 143; refine HT.out.mono ?_; rintro e w1 ⟨rfl, rfl⟩)
 go_ret3
 exact ⟨rfl, rfl⟩
theorem hPop1_calls (h : Hp w base hb sv L) (hB : base ≤ w.heap.size) (hl : L ≠ []) (hn : L.length ≤ 8000000000000) : Calls Tryz.prog 119 #[.pointer (some ⟨hb, 0, none⟩)] w fun e w' => ∃ k c sv' L', e = .returned (.tuple #[.int .i64 k, .int .i64 c, .bool true]) ∧ Hp w' base hb sv' L' ∧ ((k, c) :: L').Perm L ∧ (∀ x, x ∈ L → k ≤ x.1) ∧ Chg (HeapS hb sv) w w' := by
 obtain ⟨l, h1, h2⟩ := h.ex
 subst h2
 rw [List.length_map] at hn
 have hl0 : 0 < l.length := by
  rcases Nat.eq_zero_or_pos l.length with q | q
  ·exact absurd (by rw [List.eq_nil_of_length_eq_zero q]; rfl) hl
  ·exact q
 rcases h1.row with ⟨q, rfl⟩ | ⟨g, cap, rfl, q1, q2, q3⟩
 ·exact absurd hl0 (by simp)
 ·have hcap : l.length ≤ cap := by obtain ⟨_, _, _, q, _⟩ := q3; simpa using q
  refine (pop1_calls ⟨h1.box, q3⟩ hl0 hcap hn).mono ?_
  rintro e w' ⟨rfl, l', r1, r2, r3⟩
  have hp := Heap.pop_ok h.ok (by rw [List.length_map]; exact hl0)
  have hf := Heap.first h.ok
  rw [← r2] at hp
  refine ⟨_, _, _, _, rfl, ⟨⟨l', ⟨r1.box, .inr ⟨g, cap, rfl, q1, q2, r1.row⟩⟩, rfl⟩, hp.1, h.low⟩, hp.2, fun x hx => ?_, r3.mono (fun b hb2 => hb2.elim .inl (fun e => .inr (by rw [e]; rfl)))⟩
  obtain ⟨i, hi, e⟩ := List.mem_iff_getElem.1 hx
  have := hf i hi
  have e2 : Heap.gt (l.map toE) i = x := by unfold Heap.gt; rw [List.getD_eq_getElem?_getD, List.getElem?_eq_getElem hi]; exact e
  rw [e2] at this
  unfold Heap.le at this
  omega
def PopV (L L' : List Heap.E) (v9 v10 v11 : Value) : Prop := (L = [] ∧ v9 = .int .i64 0 ∧ v10 = .int .i64 0 ∧ v11 = .bool false) ∨ ∃ k c, v9 = .int .i64 k ∧ v10 = .int .i64 c ∧ v11 = .bool true ∧ ((k, c) :: L').Perm L ∧ ∀ x, x ∈ L → k ≤ x.1
theorem hPop_calls (h : Hp w base hb sv L) (hB : base ≤ w.heap.size) (hn : L.length ≤ 8000000000000) : Calls Tryz.prog 119 #[.pointer (some ⟨hb, 0, none⟩)] w fun e w' => ∃ v9 v10 v11 sv' L', e = .returned (.tuple #[v9, v10, v11]) ∧ PopV L L' v9 v10 v11 ∧ Hp w' base hb sv' L' ∧ Chg (HeapS hb sv) w w' := by
 by_cases hl : L = []
 ·subst hl
  refine (hPop0_calls h).mono ?_
  rintro e w' ⟨rfl, rfl⟩
  exact ⟨_, _, _, sv, [], rfl, .inl ⟨rfl, rfl, rfl, rfl⟩, h, Chg.refl _ _⟩
 ·refine (hPop1_calls h hB hl hn).mono ?_
  rintro e w' ⟨k, c, sv', L', rfl, q1, q2, q3, q4⟩
  exact ⟨_, _, _, sv', L', rfl, .inr ⟨k, c, rfl, rfl, rfl, q2, q3⟩, q1, q4⟩
end Go.Proofs.YthgehdembghdaaaGreat.P
namespace Go.Proofs.YthgehdembghdaaaGreat.P
open Go.RowKit Go.Proofs.YthgehdembghdaaaGreatW.PrintWords Go.Proofs.YthgehdembghdaaaGreatW.PrintLast Go.Proofs.YthgehdembghdaaaGreatW.PrintMore
open Go.Proofs.YthgehdembghdaaaGreat.Geo Go.Proofs.YthgehdembghdaaaGreat.Dist
set_option linter.unusedVariables false
set_option linter.unusedSimpArgs false
theorem less_some (a b : Int) : cmp_Less_int.f a b = some (decide (a < b)) := by simp [cmp_Less_int.f, cmp_isNaN_int.f]
theorem nan_some (a : Int) : slices_isNaN_int.f a = some false := by simp [slices_isNaN_int.f]
theorem rising {l : List Int} (hs : l.Pairwise (· < ·)) {a b : Nat} (hab : a < b) (hb : b < l.length) : rd l (a : Int) < rd l (b : Int) := by
 rw [rd_get l (by omega), rd_get l hb]
 exact List.pairwise_iff_getElem.1 hs a b (by omega) hb hab
theorem mem_rd {l : List Int} {x : Int} : x ∈ l ↔ ∃ p : Nat, p < l.length ∧ rd l (p : Int) = x := by
 rw [List.mem_iff_getElem]
 constructor
 ·rintro ⟨p, hp, e⟩
  exact ⟨p, hp, by rw [rd_get l hp]; exact e⟩
 ·rintro ⟨p, hp, e⟩
  exact ⟨p, hp, by rw [rd_get l hp] at e; exact e⟩
theorem search_l {l : List Int} (hs : l.Pairwise (· < ·)) (hl : l.length ≤ 1000000) (x : Int) : ∀ (d lo hi k : Nat), hi - lo ≤ d → lo ≤ hi → hi ≤ l.length → (∀ t : Nat, t < lo → rd l (t : Int) < x) → (∀ t : Nat, hi ≤ t → t < l.length → x ≤ rd l (t : Int)) → d < k → ∃ p : Nat, slices_BinarySearch_int_int.l0 k l x (l.length : Int) (lo : Int) (hi : Int) = some ((p : Int), decide (x ∈ l)) ∧ (x ∈ l → p < l.length ∧ rd l (p : Int) = x) := by
 intro d
 induction d with
 | zero =>
  intro lo hi k hd hle hhi h1 h2 hk
  obtain ⟨k, rfl⟩ : ∃ q, k = q + 1 := ⟨k - 1, by omega⟩
  obtain rfl : lo = hi := by omega
  have key : x ∈ l → lo < l.length ∧ rd l (lo : Int) = x := by
   intro hm
   obtain ⟨t, ht, e⟩ := mem_rd.1 hm
   rcases Nat.lt_trichotomy t lo with q | q | q
   ·have := h1 t q; omega
   ·subst q; exact ⟨ht, e⟩
   ·have := rising hs q ht
    have := h2 lo (Nat.le_refl _) (by omega)
    omega
  refine ⟨lo, ?_, key⟩
  rw [slices_BinarySearch_int_int.l0, if_neg (by omega)]
  by_cases q : lo < l.length
  ·rw [if_pos (by omega), if_pos (by omega), if_pos (by omega)]
   by_cases e : rd l (lo : Int) = x
   ·rw [if_pos e, decide_eq_true (mem_rd.2 ⟨lo, q, e⟩)]
   ·rw [if_neg e, nan_some, Option.bind_some, if_neg (by decide), decide_eq_false (fun hm => e (key hm).2)]
  ·rw [if_neg (by omega), decide_eq_false (fun hm => q (key hm).1)]
 | succ d ih =>
  intro lo hi k hd hle hhi h1 h2 hk
  obtain ⟨k, rfl⟩ : ∃ q, k = q + 1 := ⟨k - 1, by omega⟩
  by_cases q : lo < hi
  ·have hm : wrap64 ((IntKind.u64.wrap (wrap64 ((lo : Int) + (hi : Int)))) / 2) = (((lo + hi) / 2 : Nat) : Int) := by
    rw [w64 (n := (lo : Int) + (hi : Int)) (by omega) (by omega), IntKind.wrap_u64, w64 (by omega) (by omega)]
    omega
   obtain ⟨md, hmd⟩ : ∃ md, md = (lo + hi) / 2 := ⟨_, rfl⟩
   rw [slices_BinarySearch_int_int.l0, if_pos (by omega), hm, ← hmd, if_pos (by omega), if_pos (by omega), less_some, Option.bind_some]
   by_cases e : rd l (md : Int) < x
   ·rw [if_pos (by simpa using e), w64 (n := (md : Int) + 1) (by omega) (by omega), show (md : Int) + 1 = ((md + 1 : Nat) : Int) by omega]
    refine ih (md + 1) hi k (by omega) (by omega) hhi (fun t ht => ?_) h2 (by omega)
    rcases Nat.lt_or_ge t md with c | c
    ·have := rising hs c (by omega); omega
    ·obtain rfl : t = md := by omega
     exact e
   ·rw [if_neg (by simpa using e)]
    refine ih lo md k (by omega) (by omega) (by omega) h1 (fun t ht htl => ?_) (by omega)
    rcases Nat.lt_or_ge md t with c | c
    ·have := rising hs c htl; omega
    ·obtain rfl : t = md := by omega
     omega
  ·exact ih lo hi (k + 1) (by omega) hle hhi h1 h2 (by omega)
theorem search_some {l : List Int} (hs : l.Pairwise (· < ·)) (hl : l.length ≤ 1000000) (x : Int) : ∃ p : Nat, slices_BinarySearch_int_int.f (l.length + 1) l x = some ((p : Int), decide (x ∈ l)) ∧ (x ∈ l → p < l.length ∧ rd l (p : Int) = x) :=
 search_l hs hl x l.length 0 l.length (l.length + 1) (by omega) (by omega) (Nat.le_refl _) (fun t ht => absurd ht (Nat.not_lt_zero _)) (fun t h1 h2 => by omega) (by omega)
def idx (l : List Int) (c : Int) : Nat := l.idxOf c
theorem idx_lt' {l : List Int} {c : Int} (h : c ∈ l) : idx l c < l.length := List.idxOf_lt_length_of_mem h
theorem idx_rd {l : List Int} {c : Int} (h : c ∈ l) : rd l (idx l c : Int) = c := by
 rw [rd_get l (idx_lt' h)]
 exact List.getElem_idxOf _
theorem idx_eq {l : List Int} (hs : l.Pairwise (· < ·)) {p : Nat} (hp : p < l.length) {c : Int} (e : rd l (p : Int) = c) : p = idx l c := by
 have hm : c ∈ l := mem_rd.2 ⟨p, hp, e⟩
 have h1 := idx_lt' hm
 have h2 := idx_rd hm
 rcases Nat.lt_trichotomy p (idx l c) with q | q | q
 ·have := rising hs q h1; omega
 ·exact q
 ·have := rising hs q hp; omega
def partC (s : GridS) (x : MeshS) (c : Int) : Part := x.ps.getD (sec s.W c).toNat default
def inC (s : GridS) (c : Int) : Prop := 0 ≤ c ∧ c < s.W * s.H
instance (s : GridS) (c : Int) : Decidable (inC s c) := inferInstanceAs (Decidable (_ ∧ _))
def isNode (s : GridS) (x : MeshS) (c : Int) : Prop := inC s c ∧ c ∈ (partC s x c).nodes
instance (s : GridS) (x : MeshS) (c : Int) : Decidable (isNode s x c) := inferInstanceAs (Decidable (_ ∧ _))
def d64 (e : Int) : Int := if e = -1 then INF else e
def pairD (y : Part) (i j : Nat) : Int := d64 (rd y.dist ((i * y.nodes.length + j : Nat) : Int))
structure PartG (y : Part) : Prop where
 rise : y.nodes.Pairwise (· < ·)
 dist : ∀ k : Nat, k < y.dist.length → -1 ≤ rd y.dist (k : Int) ∧ rd y.dist (k : Int) ≤ 65024
def Good (x : MeshS) : Prop := ∀ i, PartG (x.ps.getD i default)
theorem PartG.zero : PartG default := ⟨List.Pairwise.nil, fun k hk => absurd hk (Nat.not_lt_zero _)⟩
def ptrC (s : GridS) (m : Mb) (c : Int) : Option Addr := if inC s c then some ⟨m.pb, (sec s.W c).toNat * 3, none⟩ else none
theorem ptr_eq {s : GridS} {m : Mb} {a b : Int} (h : Dim s.W s.H) (ha : inC s a) (hb : inC s b) : ptrC s m a = ptrC s m b ↔ sec s.W a = sec s.W b := by
 have ra := sec_rng h ha.1 ha.2
 have rb := sec_rng h hb.1 hb.2
 unfold ptrC
 rw [if_pos ha, if_pos hb]
 constructor
 ·intro e
  injection e with e
  injection e with _ e _
  omega
 ·intro e
  rw [e]
end Go.Proofs.YthgehdembghdaaaGreat.P
namespace Go.Proofs.YthgehdembghdaaaGreat.P
open Go.RowKit Go.Proofs.YthgehdembghdaaaGreatW.PrintWords Go.Proofs.YthgehdembghdaaaGreatW.PrintLast Go.Proofs.YthgehdembghdaaaGreatW.PrintMore
open Go.Proofs.YthgehdembghdaaaGreat.Geo Go.Proofs.YthgehdembghdaaaGreat.Dist
set_option linter.unusedVariables false
set_option linter.unusedSimpArgs false
theorem dist1_end {W H : Int} {C : List Int} (hb : ∀ x ∈ C, 0 ≤ x ∧ x ≤ 255) (ht : TileOk W H C) {x : Nat} (h1 : x < C.length) (h2 : rd C x ≠ 255) : ∀ (n i : Nat), i < C.length → i ≠ x → rd (dist1 W C x) i ≤ (n : Int) → rd C x ≤ rd (dist1 W C x) i := by
 intro n
 induction n with
 | zero =>
  intro i hi hne hn
  have := dist1_pos hb ht h1 h2 hi hne
  omega
 | succ n ih =>
  intro i hi hne hn
  have hbx := hb (C[x]'h1) (List.getElem_mem _)
  rw [← rd_get C h1] at hbx
  rcases ((one_gr hb ht h1 h2).2 i hi).2 with e | ⟨_, ⟨e, _⟩ | ⟨j, hj, _, hoj, e⟩⟩
  ·have e' : rd (dist1 W C x) i = INF := e
   unfold INF at e'
   omega
  ·exact absurd e hne
  ·have e' : rd (dist1 W C x) i = rd (dist1 W C x) j + rd C j := e
   have h3 : 1 ≤ rd C j := pos_c hb ht j hj hoj
   by_cases q : j = x
   ·subst q
    have := dist1_self hb ht h1 h2
    omega
   ·have := ih j hj q (by omega)
    omega
theorem dist1_ge {W H : Int} {C : List Int} (hb : ∀ x ∈ C, 0 ≤ x ∧ x ≤ 255) (ht : TileOk W H C) {x i : Nat} (h1 : x < C.length) (h2 : rd C x ≠ 255) (hi : i < C.length) (hne : i ≠ x) : rd C x ≤ rd (dist1 W C x) i :=
 dist1_end hb ht h1 h2 (rd (dist1 W C x) i).toNat i hi hne (by omega)
abbrev EdgeS := S53
def stepA (s : GridS) (b d : Int) : Int := if OutE s.W s.H b d then -1 else nbS s.W b d
def inA (s : GridS) (x : MeshS) (b : Int) (i : Nat) : List EdgeS :=
 if i ≠ idx (partC s x b).nodes b ∧ pairD (partC s x b) i (idx (partC s x b).nodes b) ≠ INF then [⟨rd (partC s x b).nodes (i : Int), pairD (partC s x b) i (idx (partC s x b).nodes b)⟩] else []
def sideOk (s : GridS) (x : MeshS) (b d : Int) : Prop := isNode s x (stepA s b d) ∧ sec s.W (stepA s b d) ≠ sec s.W b
instance (s : GridS) (x : MeshS) (b d : Int) : Decidable (sideOk s x b d) := inferInstanceAs (Decidable (_ ∧ _))
def sideA (s : GridS) (x : MeshS) (b : Int) (d : Nat) : List EdgeS := if sideOk s x b (d : Int) then [⟨stepA s b (d : Int), rd s.C b⟩] else []
def inL (s : GridS) (x : MeshS) (b : Int) (n : Nat) : List EdgeS := (List.range n).flatMap (inA s x b)
def sideL (s : GridS) (x : MeshS) (b : Int) (n : Nat) : List EdgeS := (List.range n).flatMap (sideA s x b)
def intoM (s : GridS) (x : MeshS) (b : Int) : List EdgeS := if isNode s x b then inL s x b (partC s x b).nodes.length ++ sideL s x b 4 else []
theorem in_next (s : GridS) (x : MeshS) (b : Int) (n : Nat) : inL s x b (n + 1) = inL s x b n ++ inA s x b n := by
 unfold inL
 rw [List.range_succ, List.flatMap_append]
 simp
theorem side_next (s : GridS) (x : MeshS) (b : Int) (n : Nat) : sideL s x b (n + 1) = sideL s x b n ++ sideA s x b n := by
 unfold sideL
 rw [List.range_succ, List.flatMap_append]
 simp
theorem in_len (s : GridS) (x : MeshS) (b : Int) (n : Nat) : (inL s x b n).length ≤ n := by
 induction n with
 | zero => simp [inL]
 | succ n ih =>
  rw [in_next, List.length_append]
  have : (inA s x b n).length ≤ 1 := by unfold inA; split <;> simp
  omega
theorem side_len (s : GridS) (x : MeshS) (b : Int) (n : Nat) : (sideL s x b n).length ≤ n := by
 induction n with
 | zero => simp [sideL]
 | succ n ih =>
  rw [side_next, List.length_append]
  have : (sideA s x b n).length ≤ 1 := by unfold sideA; split <;> simp
  omega
structure Fresh (s : GridS) (x : MeshS) : Prop where
 ok : MapOk s.W s.H s.C
 len : (x.ps.length : Int) = cnt s.W s.H
 part : ∀ i : Nat, i < x.ps.length → PartOk s.W s.H s.C (i : Int) (x.ps.getD i default)
variable {s : GridS} {x : MeshS}
theorem Fresh.at (h : Fresh s x) {c : Int} (hc : inC s c) : PartOk s.W s.H s.C (sec s.W c) (partC s x c) := by
 have r := sec_rng h.ok.dim hc.1 hc.2
 have := h.part (sec s.W c).toNat (by have := h.len; omega)
 rw [Int.toNat_of_nonneg r.1] at this
 exact this
theorem isNode_iff (h : Fresh s x) (c : Int) : isNode s x c ↔ inC s c ∧ edgeS s.W s.H c ∧ rd s.C c ≠ 255 := by
 unfold isNode
 constructor
 ·rintro ⟨hc, hm⟩
  rw [(h.at hc).nodes, mem_nodes h.ok.dim (sec_rng h.ok.dim hc.1 hc.2)] at hm
  exact ⟨hc, hm.2.2⟩
 ·rintro ⟨hc, hm⟩
  refine ⟨hc, ?_⟩
  rw [(h.at hc).nodes, mem_nodes h.ok.dim (sec_rng h.ok.dim hc.1 hc.2)]
  exact ⟨hc, rfl, hm⟩
theorem distN_two {W H : Int} {C : List Int} (h : MapOk W H C) {a b : Int} (ha : 0 ≤ a ∧ a < W * H) (hb : 0 ≤ b ∧ b < W * H) (hs : sec W a = sec W b) (oa : rd C a ≠ 255) (ob : rd C b ≠ 255) :
  (0 ≤ distN W H C (sec W b) a b ∧ distN W H C (sec W b) a b ≤ INF) ∧ (a = b → distN W H C (sec W b) a b = 0) ∧ (a ≠ b → rd C b ≤ distN W H C (sec W b) a b) ∧ (distN W H C (sec W b) a b = INF ↔ distN W H C (sec W b) b a = INF) ∧ (distN W H C (sec W b) a b < INF → distN W H C (sec W b) a b + rd C a = distN W H C (sec W b) b a + rd C b ∧ distN W H C (sec W b) a b ≤ 65024) := by
 have sb := sec_rng h.dim hb.1 hb.2
 have ht := tile_ok h sb
 have hbb : ∀ y ∈ tileL W H C (sec W b), 0 ≤ y ∧ y ≤ 255 := fun y hy => by have := tile_bytes h sb y hy; omega
 have ra := loc_rng h.dim ha.1 ha.2
 have rb := loc_rng h.dim hb.1 hb.2
 have ta := tile_loc (C := C) h.dim ha.1 ha.2
 have tb := tile_loc (C := C) h.dim hb.1 hb.2
 have ga := glo_loc h.dim ha.1 ha.2
 have gb := glo_loc h.dim hb.1 hb.2
 rw [hs] at ra ta ga
 obtain ⟨i, hi⟩ : ∃ i : Nat, loc W a = i := ⟨(loc W a).toNat, by omega⟩
 obtain ⟨j, hj⟩ : ∃ j : Nat, loc W b = j := ⟨(loc W b).toNat, by omega⟩
 unfold distN
 have hbx := box_wh h.dim sb
 have htl := tileL_len (W := W) (H := H) (C := C) (s := sec W b)
 rw [hi] at ra ta ga
 rw [hj] at rb tb gb
 rw [hi, hj]
 have i1 : i < (tileL W H C (sec W b)).length := by rw [htl]; omega
 have j1 : j < (tileL W H C (sec W b)).length := by rw [htl]; omega
 have i2 : rd (tileL W H C (sec W b)) (i : Int) ≠ 255 := by rw [ta]; exact oa
 have j2 : rd (tileL W H C (sec W b)) (j : Int) ≠ 255 := by rw [tb]; exact ob
 have bo := dist1_both hbb ht i1 i2 j1 j2
 rw [ta, tb] at bo
 refine ⟨dist1_range hbb ht j1 j2 i1, ?_, ?_, bo.1, ?_⟩
 ·intro e
  subst e
  obtain rfl : i = j := by omega
  exact dist1_self hbb ht j1 j2
 ·intro e
  rw [← tb]
  refine dist1_ge hbb ht j1 j2 i1 (fun q => e ?_)
  subst q
  exact ga.symm.trans gb
 ·intro e
  refine ⟨bo.2 e, ?_⟩
  have := dist1_small hbb ht j1 j2 i1 (by omega)
  have : ((tileL W H C (sec W b)).length : Int) ≤ 256 := by rw [htl]; omega
  omega
theorem d64_f32 {d : Int} (h : 0 ≤ d) : d64 (f32 d) = d := by
 unfold d64 f32
 by_cases q : d = INF
 ·rw [if_pos q, if_pos rfl, q]
 ·rw [if_neg q, if_neg (by omega)]
theorem part_good {W H : Int} {C : List Int} (h : MapOk W H C) {i : Int} (hs : inS W H i) {y : Part} (p : PartOk W H C i y) : PartG y := by
 refine ⟨by rw [p.nodes]; exact nodes_lt h.dim hs, fun k hk => ?_⟩
 rw [p.dlen] at hk
 have hn : 0 < y.nodes.length := by
  rcases Nat.eq_zero_or_pos y.nodes.length with q | q
  ·rw [q] at hk; omega
  ·exact q
 have hb' := Nat.mod_lt k hn
 have ha : k / y.nodes.length < y.nodes.length := Nat.div_lt_of_lt_mul hk
 have e : k / y.nodes.length * y.nodes.length + k % y.nodes.length = k := by rw [Nat.mul_comm]; exact Nat.div_add_mod k y.nodes.length
 have h1 := p.dist _ _ ha hb'
 rw [e] at h1
 have ma : rd y.nodes ((k / y.nodes.length : Nat) : Int) ∈ y.nodes := mem_rd.2 ⟨_, ha, rfl⟩
 have mb : rd y.nodes ((k % y.nodes.length : Nat) : Int) ∈ y.nodes := mem_rd.2 ⟨_, hb', rfl⟩
 generalize rd y.nodes ((k / y.nodes.length : Nat) : Int) = a at *
 generalize rd y.nodes ((k % y.nodes.length : Nat) : Int) = b at *
 rw [p.nodes, mem_nodes h.dim hs] at ma mb
 have t := distN_two h ma.1 mb.1 (by rw [ma.2.1, mb.2.1]) ma.2.2.2 mb.2.2.2
 rw [mb.2.1] at t
 rw [h1]
 unfold f32
 split
 ·omega
 ·have := t.2.2.2.2 (by omega)
  omega
theorem Fresh.good (h : Fresh s x) : Good x := by
 intro i
 by_cases q : i < x.ps.length
 ·exact part_good h.ok ⟨by omega, by have := h.len; omega⟩ (h.part i q)
 ·rw [List.getD_eq_getElem?_getD, List.getElem?_eq_none (by omega)]
  exact PartG.zero
theorem pair_fresh (h : Fresh s x) {b : Int} (hb : isNode s x b) {i : Nat} (hi : i < (partC s x b).nodes.length) : pairD (partC s x b) i (idx (partC s x b).nodes b) = distN s.W s.H s.C (sec s.W b) (rd (partC s x b).nodes (i : Int)) b := by
 have p := h.at hb.1
 have hj := idx_lt' hb.2
 have e := p.dist i _ hi hj
 rw [idx_rd hb.2] at e
 unfold pairD
 rw [e]
 have hm : rd (partC s x b).nodes (i : Int) ∈ (partC s x b).nodes := mem_rd.2 ⟨i, hi, rfl⟩
 have sb := sec_rng h.ok.dim hb.1.1 hb.1.2
 have hm2 := hm
 rw [p.nodes, mem_nodes h.ok.dim sb, ← p.nodes] at hm2
 have nb := (isNode_iff h b).1 hb
 exact d64_f32 (distN_two h.ok hm2.1 hb.1 hm2.2.1 hm2.2.2.2 nb.2.2).1.1
theorem mem_into (h : Fresh s x) {b : Int} (e : EdgeS) : e ∈ intoM s x b ↔ isNode s x b ∧ ((isNode s x e.f0 ∧ sec s.W e.f0 = sec s.W b ∧ e.f0 ≠ b ∧ e.f1 = distN s.W s.H s.C (sec s.W b) e.f0 b ∧ e.f1 ≠ INF) ∨ ∃ d : Nat, d < 4 ∧ OverS s.W s.H b (d : Int) ∧ e.f0 = nbS s.W b (d : Int) ∧ rd s.C e.f0 ≠ 255 ∧ e.f1 = rd s.C b) := by
 unfold intoM
 by_cases hb : isNode s x b
 ·rw [if_pos hb, List.mem_append]
  have p := h.at hb.1
  have sb := sec_rng h.ok.dim hb.1.1 hb.1.2
  have nb := (isNode_iff h b).1 hb
  have hr : (partC s x b).nodes.Pairwise (· < ·) := (h.good (sec s.W b).toNat).rise
  have h1 : e ∈ inL s x b (partC s x b).nodes.length ↔ (isNode s x e.f0 ∧ sec s.W e.f0 = sec s.W b ∧ e.f0 ≠ b ∧ e.f1 = distN s.W s.H s.C (sec s.W b) e.f0 b ∧ e.f1 ≠ INF) := by
   unfold inL
   rw [List.mem_flatMap]
   constructor
   ·rintro ⟨i, hi, he⟩
    rw [List.mem_range] at hi
    unfold inA at he
    split at he
    ·rename_i q
     rw [List.mem_singleton] at he
     subst he
     have hm : rd (partC s x b).nodes (i : Int) ∈ (partC s x b).nodes := mem_rd.2 ⟨i, hi, rfl⟩
     have hm2 := hm
     rw [p.nodes, mem_nodes h.ok.dim sb, ← p.nodes] at hm2
     refine ⟨(isNode_iff h _).2 ⟨hm2.1, hm2.2.2⟩, hm2.2.1, fun c => q.1 (idx_eq hr hi c), pair_fresh h hb hi, q.2⟩
    ·exact absurd he (List.not_mem_nil)
   ·rintro ⟨n1, n2, n3, n4, n5⟩
    have k := (isNode_iff h _).1 n1
    have hm : e.f0 ∈ (partC s x b).nodes := by
     rw [p.nodes, mem_nodes h.ok.dim sb]
     exact ⟨k.1, n2, k.2⟩
    have hi := idx_lt' hm
    have he := idx_rd hm
    refine ⟨idx (partC s x b).nodes e.f0, List.mem_range.2 hi, ?_⟩
    have hp := pair_fresh h hb hi
    rw [he, ← n4] at hp
    unfold inA
    rw [if_pos ⟨fun c => n3 (by rw [← he, c]; exact idx_rd hb.2), by rw [hp]; exact n5⟩, hp, he]
    exact List.mem_singleton.2 rfl
  have h2 : e ∈ sideL s x b 4 ↔ ∃ d : Nat, d < 4 ∧ OverS s.W s.H b (d : Int) ∧ e.f0 = nbS s.W b (d : Int) ∧ rd s.C e.f0 ≠ 255 ∧ e.f1 = rd s.C b := by
   unfold sideL
   rw [List.mem_flatMap]
   have hstep : ∀ d : Nat, d < 4 → (sideOk s x b (d : Int) ↔ OverS s.W s.H b (d : Int) ∧ rd s.C (nbS s.W b (d : Int)) ≠ 255) := by
    intro d hd
    have hd3 : 0 ≤ (d : Int) ∧ (d : Int) ≤ 3 := by omega
    unfold sideOk stepA
    by_cases q : OutE s.W s.H b (d : Int)
    ·rw [if_pos q]
     constructor
     ·rintro ⟨n1, _⟩
      have := n1.1.1
      omega
     ·rintro ⟨n1, _⟩
      exact absurd q n1.1
    ·rw [if_neg q, isNode_iff h]
     constructor
     ·rintro ⟨n1, n2⟩
      exact ⟨⟨q, n2⟩, n1.2.2⟩
     ·rintro ⟨n1, n2⟩
      have hbk := over_back h.ok.dim hb.1.1 hb.1.2 hd3 n1
      have bk := back h.ok.dim hb.1.1 hb.1.2 hd3 q
      exact ⟨⟨nb_rng h.ok.dim hb.1.1 hb.1.2 hd3 q, edge_of bk.1 hbk, n2⟩, n1.2⟩
   constructor
   ·rintro ⟨d, hd, he⟩
    rw [List.mem_range] at hd
    unfold sideA at he
    split at he
    ·rename_i q
     rw [List.mem_singleton] at he
     subst he
     have k := (hstep d hd).1 q
     have e1 : stepA s b (d : Int) = nbS s.W b (d : Int) := by unfold stepA; rw [if_neg k.1.1]
     exact ⟨d, hd, k.1, e1, by show rd s.C (stepA s b (d : Int)) ≠ 255; rw [e1]; exact k.2, rfl⟩
    ·exact absurd he (List.not_mem_nil)
   ·rintro ⟨d, hd, n1, n2, n3, n4⟩
    rw [n2] at n3
    refine ⟨d, List.mem_range.2 hd, ?_⟩
    unfold sideA
    rw [if_pos ((hstep d hd).2 ⟨n1, n3⟩), List.mem_singleton]
    have e1 : stepA s b (d : Int) = nbS s.W b (d : Int) := by unfold stepA; rw [if_neg n1.1]
    rw [e1, ← n2, ← n4]
  rw [h1, h2]
  exact ⟨fun q => ⟨hb, q⟩, fun q => q.2⟩
 ·rw [if_neg hb]
  exact ⟨fun q => absurd q (List.not_mem_nil), fun q => absurd q.1 hb⟩
theorem into_back (h : Fresh s x) {b : Int} (e : EdgeS) (he : e ∈ intoM s x b) : inC s e.f0 ∧ e.f0 ≠ b ∧ rd s.C b ≤ e.f1 ∧ e.f1 < INF ∧ rd s.C e.f0 ≠ 255 ∧ ∃ e' : EdgeS, e' ∈ intoM s x e.f0 ∧ e'.f0 = b ∧ e'.f1 + rd s.C b = e.f1 + rd s.C e.f0 := by
 obtain ⟨hb, he⟩ := (mem_into h e).1 he
 have nb := (isNode_iff h b).1 hb
 have cb := rd_cost h.ok hb.1.1 hb.1.2
 rcases he with ⟨n1, n2, n3, n4, n5⟩ | ⟨d, hd, n1, n2, n3, n4⟩
 ·have na := (isNode_iff h _).1 n1
  have t := distN_two h.ok na.1 hb.1 n2 na.2.2 nb.2.2
  rw [← n4] at t
  have hlt : e.f1 < INF := by have := t.1.2; omega
  have u := t.2.2.2.2 hlt
  refine ⟨na.1, n3, t.2.2.1 n3, hlt, na.2.2, ⟨b, distN s.W s.H s.C (sec s.W b) b e.f0⟩, (mem_into h _).2 ⟨n1, .inl ⟨hb, n2.symm, fun c => n3 c.symm, by rw [n2], fun c => n5 (t.2.2.2.1.2 c)⟩⟩, rfl, ?_⟩
  show distN s.W s.H s.C (sec s.W b) b e.f0 + rd s.C b = e.f1 + rd s.C e.f0
  omega
 ·have hd3 : 0 ≤ (d : Int) ∧ (d : Int) ≤ 3 := by omega
  have r := nb_rng h.ok.dim hb.1.1 hb.1.2 hd3 n1.1
  have bk := back h.ok.dim hb.1.1 hb.1.2 hd3 n1.1
  have ob := over_back h.ok.dim hb.1.1 hb.1.2 hd3 n1
  rw [← n2] at r bk ob
  have hne : e.f0 ≠ b := by
   intro c
   have := n1.2
   rw [← n2, c] at this
   exact this rfl
  obtain ⟨t, ht⟩ : ∃ t : Nat, backS (d : Int) = (t : Int) := ⟨(backS (d : Int)).toNat, by omega⟩
  rw [ht] at bk ob
  refine ⟨r, hne, by omega, by unfold INF; omega, n3, ⟨b, rd s.C e.f0⟩, (mem_into h _).2 ⟨(isNode_iff h _).2 ⟨r, edge_of bk.1 ob, n3⟩, .inr ⟨t, by omega, ob, bk.2.2.symm, nb.2.2, rfl⟩⟩, rfl, ?_⟩
  show rd s.C e.f0 + rd s.C b = e.f1 + rd s.C e.f0
  omega
theorem into_len (h : Fresh s x) (b : Int) : (intoM s x b).length ≤ 260 := by
 unfold intoM
 by_cases hb : isNode s x b
 ·rw [if_pos hb, List.length_append]
  have h1 := in_len s x b (partC s x b).nodes.length
  have h2 := side_len s x b 4
  have h3 := nodes_len (C := s.C) h.ok.dim (sec_rng h.ok.dim hb.1.1 hb.1.2)
  rw [← (h.at hb.1).nodes] at h3
  omega
 ·rw [if_neg hb]
  simp
end Go.Proofs.YthgehdembghdaaaGreat.P
