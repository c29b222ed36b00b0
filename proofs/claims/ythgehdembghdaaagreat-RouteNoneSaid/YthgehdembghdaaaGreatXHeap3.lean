/-
 WALKED BY HAND: a heap: up.
-/
import Derived.Test.YthgehdembghdaaaGreatJ10
import Derived.Test.YthgehdembghdaaaGreatXMesh3
import Derived.BigRegion
namespace Go.Proofs.YthgehdembghdaaaGreat.P
open Go.RowKit Go.Proofs.YthgehdembghdaaaGreatW.PrintWords Go.Proofs.YthgehdembghdaaaGreatW.PrintLast Go.Proofs.YthgehdembghdaaaGreatW.PrintMore
set_option linter.unusedVariables false
set_option linter.unusedSimpArgs false
def encH (x : EnS) : List Value := [.int .i64 x.f0, .int .i64 x.f1]
instance : Inhabited EnS := ⟨⟨0, 0⟩⟩
structure HeapW (w : World) (hb g cap : Nat) (l : List EnS) : Prop where
 box : w.heap[hb]? = some (.cells #[.slice (some ⟨g, 0, none⟩) l.length cap] 179 (0, 0))
 row : RowIn encH 2 181 g cap l.toArray w
variable {w w' : World} {hb g cap : Nat} {l : List EnS}
theorem HeapW.at_ (h : HeapW w hb g cap l) {i : Nat} (hi : i < l.length) : w.cell? ⟨g, i * 2, none⟩ = some (.int .i64 (l.getD i default).f0) ∧ w.cell? ⟨g, i * 2 + 1, none⟩ = some (.int .i64 (l.getD i default).f1) := by
 have hsz : i < l.toArray.size := by simpa using hi
 exact ⟨h.row.cell hsz (c := 0) (by omega) (u := .int .i64 (l.getD i default).f0) (by rw [getD_toArray]; rfl), h.row.cell hsz (c := 1) (by omega) (u := .int .i64 (l.getD i default).f1) (by rw [getD_toArray]; rfl)⟩
theorem HeapW.put {i : Nat} (h : RowIn encH 2 181 g cap l.toArray w) (hi : i < l.length) (a b : Int) : RowIn encH 2 181 g cap (l.set i ⟨a, b⟩).toArray ((w.setCell ⟨g, i * 2, none⟩ (.int .i64 a)).setCell ⟨g, i * 2 + 1, none⟩ (.int .i64 b)) := by
 have hsz : i < l.toArray.size := by simpa using hi
 obtain ⟨q, hq⟩ : ∃ q : EnS, q = l.getD i default := ⟨_, rfl⟩
 have r1 := RowIn.store1 h hsz (c := 0) (by omega) (.int .i64 a) (⟨a, q.f1⟩ : EnS) (by rw [getD_toArray]; rfl) (by rw [getD_toArray, ← hq]; rfl)
 have e1 : (l.toArray.setIfInBounds i (⟨a, q.f1⟩ : EnS))[i]! = (⟨a, q.f1⟩ : EnS) := by rw [getElem!_pos _ _ (by simpa using hi)]; simp
 have r2 := RowIn.store1 r1 (i := i) (by simpa using hi) (c := 1) (by omega) (.int .i64 b) (⟨a, b⟩ : EnS) (by rw [e1]; rfl) (by rw [e1]; rfl)
 rw [show (l.toArray.setIfInBounds i (⟨a, q.f1⟩ : EnS)).setIfInBounds i (⟨a, b⟩ : EnS) = (l.set i ⟨a, b⟩).toArray by simp, Nat.add_zero] at r2
 exact r2
def swapS (l : List EnS) (i p : Nat) : List EnS := (l.set i ⟨(l.getD p default).f0, (l.getD p default).f1⟩).set p ⟨(l.getD i default).f0, (l.getD i default).f1⟩
theorem gt_map (l : List EnS) {i : Nat} (hi : i < l.length) : Heap.gt (l.map toE) i = toE (l.getD i default) := by
 unfold Heap.gt
 rw [List.getD_eq_getElem?_getD, List.getD_eq_getElem?_getD, List.getElem?_map, List.getElem?_eq_getElem hi]
 rfl
theorem swap_map {l : List EnS} {i p : Nat} (hi : i < l.length) (hp : p < l.length) : (swapS l i p).map toE = Heap.swap (l.map toE) i p := by
 unfold swapS Heap.swap
 rw [gt_map l hi, gt_map l hp, List.map_set, List.map_set]
 try rfl
theorem HeapW.swap {i p : Nat} (h : HeapW w hb g cap l) (hi : i < l.length) (hp : p < l.length) {x0 x1 y0 y1 : Int} (hx0 : x0 = (l.getD i default).f0) (hx1 : x1 = (l.getD i default).f1) (hy0 : y0 = (l.getD p default).f0) (hy1 : y1 = (l.getD p default).f1) :
  HeapW (((((w.setCell ⟨g, i * 2, none⟩ (.int .i64 y0)).setCell ⟨g, i * 2 + 1, none⟩ (.int .i64 y1)).setCell ⟨g, p * 2, none⟩ (.int .i64 x0)).setCell ⟨g, p * 2 + 1, none⟩ (.int .i64 x1)).drew) hb g cap (swapS l i p) := by
 have r1 := HeapW.put h.row hi y0 y1
 have r2 := HeapW.put r1 (i := p) (by simpa using hp) x0 x1
 obtain ⟨cs, hcs⟩ := h.row.typ
 have hne : hb ≠ g := blk_ne h.box hcs (by decide)
 subst hx0 hx1 hy0 hy1
 refine ⟨?_, r2⟩
 have e : (swapS l i p).length = l.length := by simp [swapS]
 rw [e]
 exact blk_far (blk_far (blk_far (blk_far h.box (p := ⟨g, i * 2, none⟩) hne _) (p := ⟨g, i * 2 + 1, none⟩) hne _) (p := ⟨g, p * 2, none⟩) hne _) (p := ⟨g, p * 2 + 1, none⟩) hne _
theorem HeapW.go (h : HeapW w hb g cap l) (hb2 : Below w.heap.size w w') : HeapW w' hb g cap l := ⟨blk_step h.box hb2, h.row.heap (by obtain ⟨cs, hcs⟩ := h.row.typ; exact hb2.block g (blk_lt hcs))⟩
theorem hless_some (x0 x1 y0 y1 : Int) : heap_entry_less.f x0 x1 y0 y1 = some (Heap.lt (x0, x1) (y0, y1)) := by
 unfold heap_entry_less.f Heap.lt
 by_cases q : x0 < y0
 ·rw [if_pos q, decide_eq_true (.inl q)]
 ·rw [if_neg q]
  by_cases q2 : x0 = y0
  ·rw [if_pos q2]
   exact congrArg some (decide_eq_decide.2 ⟨fun z => .inr ⟨q2, z⟩, fun z => z.elim (fun z => absurd z q) (fun z => z.2)⟩)
  ·rw [if_neg q2, decide_eq_false (fun z => z.elim q (fun z => q2 z.1))]
structure HeapV (w0 w : World) (hb g cap : Nat) (l : List EnS) : Prop extends HeapW w hb g cap l where
 chg : Chg (fun b => b = g) w0 w
variable {w0 : World}
theorem HeapV.go (h : HeapV w0 w hb g cap l) (hb2 : Below w.heap.size w w') : HeapV w0 w' hb g cap l := ⟨h.toHeapW.go hb2, h.chg.trans (Chg.of_below hb2 _)⟩
theorem HeapV.drew (h : HeapV w0 w hb g cap l) : HeapV w0 w.drew hb g cap l := h.go (below_drew1 (Below.refl _ _))
theorem HeapV.swap {i p : Nat} (h : HeapV w0 w hb g cap l) (hi : i < l.length) (hp : p < l.length) {x0 x1 y0 y1 : Int} (hx0 : x0 = (l.getD i default).f0) (hx1 : x1 = (l.getD i default).f1) (hy0 : y0 = (l.getD p default).f0) (hy1 : y1 = (l.getD p default).f1) :
  HeapV w0 (((((w.setCell ⟨g, i * 2, none⟩ (.int .i64 y0)).setCell ⟨g, i * 2 + 1, none⟩ (.int .i64 y1)).setCell ⟨g, p * 2, none⟩ (.int .i64 x0)).setCell ⟨g, p * 2 + 1, none⟩ (.int .i64 x1)).drew) hb g cap (swapS l i p) :=
 ⟨h.toHeapW.swap hi hp hx0 hx1 hy0 hy1, ((((h.chg.set_ (.inl rfl) _).set_ (.inl rfl) _).set_ (.inl rfl) _).set_ (.inl rfl) _).drew⟩
set_option maxRecDepth 1000000 in
set_option maxHeartbeats 8000000 in
theorem up_calls (h : HeapW w hb g cap l) (hl : 0 < l.length) (hn : l.length ≤ 8000000000000) : Calls Tryz.prog 142 #[.pointer (some ⟨hb, 0, none⟩)] w fun e w' => e = .returned (.tuple #[]) ∧ ∃ l', HeapV w w' hb g cap l' ∧ l'.map toE = Heap.upF l.length (l.length - 1) (l.map toE) := by
 have HH : Aside0 (HeapV w w hb g cap l) := ⟨⟨h, Chg.refl _ _⟩⟩
 have HN := Aside0.mk (And.intro hl hn)
 have c0 := cell_blk (j := 0) (u := .slice (some ⟨g, 0, none⟩) l.length cap) h.box rfl
 have iw : IntKind.i64.wrap ((l.length : Int) - 1) = (l.length : Int) - 1 := by rw [IntKind.wrap_i64]; omega
 clear h hl hn
 go_enter Tryz.func142, Tryz.ntmps142
 go_wp2_with fail
 have HW0 := HH
 go_loopg [2] l.length (fun gg v2 wr => ∃ (i : Nat) (lk : List EnS), v2 = .int .i64 (i : Int) ∧ i < l.length ∧ i ≤ gg ∧ lk.length = l.length ∧ Aside0 (HeapV w wr hb g cap lk) ∧ Aside0 (∃ f, i < f ∧ Heap.upF f i (lk.map toE) = Heap.upF l.length (l.length - 1) (l.map toE)))
 case atStart => exact ⟨l.length - 1, l, by have := HN.out; show Value.int .i64 _ = Value.int .i64 _; congr 1; omega, by have := HN.out; omega, by omega, rfl, HW0, ⟨l.length, by have := HN.out; omega, rfl⟩⟩
 case round =>
  clear HW0
  obtain ⟨i, lk, rfl, hi, hgg, hlk, HW, HF⟩ := hrel
  by_cases h0 : i = 0
  ·subst h0
   have d1 : decide ((0 : Int) < ((0 : Nat) : Int)) = false := by decide
   go_wp2_with fail
   go_end0
   obtain ⟨f, hf, he⟩ := HF.out
   obtain ⟨f, rfl⟩ : ∃ q, f = q + 1 := ⟨f - 1, by omega⟩
   exact ⟨rfl, lk, HW.out, by rw [← he, Heap.upF, if_pos rfl]⟩
  ·obtain ⟨p, hp⟩ : ∃ p, p = (i - 1) / 2 := ⟨_, rfl⟩
   have d1 : (0 : Int) < (i : Int) := by omega
   have d1b : 0 < i := by omega
   have iw1 : IntKind.i64.wrap ((i : Int) - 1) = (i : Int) - 1 := by have := HN.out; rw [IntKind.wrap_i64]; omega
   have c0 := cell_blk (j := 0) (u := .slice (some ⟨g, 0, none⟩) lk.length cap) HW.out.box rfl
   rw [hlk] at c0
   have hil : i < lk.length := by omega
   have hpl : p < lk.length := by omega
   obtain ⟨a0, a1⟩ := HW.out.at_ hil
   obtain ⟨b0, b1⟩ := HW.out.at_ hpl
   obtain ⟨x0, hx0⟩ : ∃ x, x = (lk.getD i default).f0 := ⟨_, rfl⟩
   obtain ⟨x1, hx1⟩ : ∃ x, x = (lk.getD i default).f1 := ⟨_, rfl⟩
   obtain ⟨y0, hy0⟩ : ∃ x, x = (lk.getD p default).f0 := ⟨_, rfl⟩
   obtain ⟨y1, hy1⟩ : ∃ x, x = (lk.getD p default).f1 := ⟨_, rfl⟩
   rw [← hx0] at a0
   rw [← hx1] at a1
   rw [← hy0] at b0
   rw [← hy1] at b1
   have e1 : (0 : Int) ≤ (i : Int) := by omega
   have e2 : (i : Int) < (l.length : Int) := by omega
   have e3 : (0 : Int) ≤ (p : Int) := by omega
   have e4 : (p : Int) < (l.length : Int) := by omega
   have iq : IntKind.i64.wrap (Int.tdiv ((i : Int) - 1) 2) = (p : Int) := by rw [Int.tdiv_eq_ediv_of_nonneg (by omega), IntKind.wrap_i64]; have := HN.out; omega
   have HP := Aside0.mk hp
   have HI := Aside0.mk (And.intro hi (And.intro hgg hlk))
   have hu := Tryz.underlying181
   have HX := Aside0.mk (And.intro hx0 (And.intro hx1 (And.intro hy0 hy1)))
   have HIL := Aside0.mk (And.intro hil (And.intro hpl h0))
   clear hp hi hgg h0 hx0 hx1 hy0 hy1 hlk hil hpl
   go_upto_region 3 with fail
   have HLE := Aside0.mk (heap_entry_less.calls x0 x1 y0 y1 (Heap.lt (x0, x1) (y0, y1)) wr.drew (hless_some _ _ _ _))
   go_region_held3 (fun w' => w'.cell? ⟨hb, 0, none⟩ = some (.slice (some ⟨g, 0, none⟩) l.length cap) ∧ w'.cell? ⟨g, i * 2, none⟩ = some (.int .i64 x0) ∧ w'.cell? ⟨g, i * 2 + 1, none⟩ = some (.int .i64 x1) ∧ w'.cell? ⟨g, p * 2, none⟩ = some (.int .i64 y0) ∧ w'.cell? ⟨g, p * 2 + 1, none⟩ = some (.int .i64 y1)) (first | (with_reducible first | exact ⟨c0, a0, a1, b0, b1⟩ | exact ⟨k0, k1, k2, k3, k4⟩) | go_keep)
    ((go_at_call 164; refine HLE.out.mono ?_; rintro e w2 ⟨rfl, hb2⟩; have k0 := pw_cell_below hb2 (a := ⟨hb, 0, none⟩) (v := .slice (some ⟨g, 0, none⟩) l.length cap) c0; have k1 := pw_cell_below hb2 (a := ⟨g, i * 2, none⟩) (v := .int .i64 x0) a0; have k2 := pw_cell_below hb2 (a := ⟨g, i * 2 + 1, none⟩) (v := .int .i64 x1) a1; have k3 := pw_cell_below hb2 (a := ⟨g, p * 2, none⟩) (v := .int .i64 y0) b0; have k4 := pw_cell_below hb2 (a := ⟨g, p * 2 + 1, none⟩) (v := .int .i64 y1) b1; have HB2 := Aside0.mk hb2; clear hb2))
   obtain ⟨lt, hlt⟩ : ∃ lt, lt = Heap.lt (x0, x1) (y0, y1) := ⟨_, rfl⟩
   rw [← hlt]
   have HLT := Aside0.mk hlt
   have HW2 := HW.out.row.heap (w' := w2) (by rw [HB2.out.block g (by obtain ⟨cs, hcs⟩ := HW.out.row.typ; exact blk_lt hcs)]; rfl)
   have f0 := HW2.free (i * 2)
   have f1 := HW2.free (i * 2 + 1)
   have f2 := HW2.free (p * 2)
   have f3 := HW2.free (p * 2 + 1)
   have n1 : i ≠ p := by have := HI.out; have := HP.out; omega
   clear hlt c0 a0 a1 b0 b1 HLE HW2
   cases lt with
   | false =>
    go_wp2_with fail
    (try simp only [Exit.inBlock, Exit.then])
    refine bodyPost_ret (results_none rfl _ _ _) rfl ?_
    obtain ⟨f, hf, he⟩ := HF.out
    obtain ⟨f, rfl⟩ : ∃ q, f = q + 1 := ⟨f - 1, by omega⟩
    refine ⟨rfl, lk, HW.out.drew.go HB2.out, ?_⟩
    rw [← he, Heap.upF, if_neg HIL.out.2.2, if_neg]
    rw [show Heap.par i = p from HP.out.symm, gt_map lk HIL.out.1, gt_map lk HIL.out.2.1]
    have := HLT.out
    rw [HX.out.1, HX.out.2.1, HX.out.2.2.1, HX.out.2.2.2] at this
    intro q
    exact absurd (this.trans q) (by decide)
   | true =>
    go_upto_region 4 with fail
    go_region
    go_wp2
    go_roundg p
    case measure => have := HI.out; have := HP.out; have := HIL.out; omega
    case rel =>
     obtain ⟨f, hf, he⟩ := HF.out
     obtain ⟨f, rfl⟩ : ∃ q, f = q + 1 := ⟨f - 1, by omega⟩
     refine ⟨p, swapS lk i p, rfl, by have := HI.out; have := HIL.out; omega, Nat.le_refl _, by simp [swapS]; exact HI.out.2.2, ⟨(HW.out.drew.go HB2.out).swap HIL.out.1 HIL.out.2.1 HX.out.1 HX.out.2.1 HX.out.2.2.1 HX.out.2.2.2⟩, ⟨f, by have := HP.out; have := HIL.out; omega, ?_⟩⟩
     rw [Heap.upF, if_neg HIL.out.2.2, if_pos, show Heap.par i = p from HP.out.symm] at he
     ·rw [swap_map HIL.out.1 HIL.out.2.1]
      exact he
     ·rw [show Heap.par i = p from HP.out.symm, gt_map lk HIL.out.1, gt_map lk HIL.out.2.1]
      have := HLT.out
      rw [HX.out.1, HX.out.2.1, HX.out.2.2.1, HX.out.2.2.2] at this
      exact this.symm
end Go.Proofs.YthgehdembghdaaaGreat.P
